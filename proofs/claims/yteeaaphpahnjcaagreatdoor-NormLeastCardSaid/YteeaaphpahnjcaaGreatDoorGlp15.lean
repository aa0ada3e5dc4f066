/-
  The chapter's examples; the laws of glob that have no loop of their own.
-/
import Derived.Test.YteeaaphpahnjcaaGreatDoorGlp14
import Derived.Test.YteeaaphpahnjcaaGreatDoorGlp9
import Derived.Test.YteeaaphpahnjcaaGreatDoorGlobWG
namespace Go.Proofs.YteeaaphpahnjcaaGreatDoor
open Go Go.RowKit Go.Lib

def exR : List Rul := [⟨1, ⟨#[97]⟩⟩, ⟨2, ⟨#[97, 47, 98]⟩⟩, ⟨3, ⟨#[103, 111]⟩⟩]
theorem ex_parse : parseG [119, 105, 116, 104, 32, 97, 10, 119, 105, 116, 104, 111, 117, 116, 32, 97, 47, 98, 10, 116, 121, 112, 101, 32, 103, 111, 10] = (exR, 0) := by decide +kernel
theorem ex_small : ∀ x ∈ exR, x.text.size ≤ 100000 := by decide +kernel
theorem ex_m0 : matchG exR ⟨#[97, 47, 120, 46, 103, 111]⟩ false = true := by decide +kernel
theorem ex_m1 : matchG exR ⟨#[97, 47, 98, 47, 120, 46, 103, 111]⟩ false = false := by decide +kernel
theorem ex_m2 : matchG exR ⟨#[97, 47, 120, 46, 116, 120, 116]⟩ false = false := by decide +kernel
theorem ex_m3 : matchG exR ⟨#[97]⟩ true = true := by decide +kernel
theorem ex_m4 : matchG exR ⟨#[99, 47, 120, 46, 103, 111]⟩ false = false := by decide +kernel
theorem goG_len : ∀ (ls : List (List UInt8)) (acc m : List Rul), goG acc ls = some m → m.length = acc.length + ls.length
  | [], acc, m, h => by
    cases h
    rfl
  | l :: ls, acc, m, h => by
    have e1 : goG acc (l :: ls) = if (lineG l).2 then goG (acc ++ [(lineG l).1]) ls else none := rfl
    rw [e1] at h
    split at h
    · have := goG_len ls _ m h
      simp only [List.length_append, List.length_cons, List.length_nil] at this ⊢
      omega
    · cases h
theorem parse_len (l : List UInt8) : (parseG l).1.length ≤ 140737488351232 := by
  by_cases h : (parseG l).2 = 0
  · have h1 := parse_print h
    have h2 : ¬ 16 < (parseG l).1.length := by
      intro hb
      rw [print_big hb] at h1
      cases h1
    omega
  · rw [parse_bad h]
    exact Nat.zero_le _
end Go.Proofs.YteeaaphpahnjcaaGreatDoor
