/-
  glob.Parse: its loop.
-/
import Derived.Test.YteeaaphpahnjcaaGreatDoorGlp7
namespace Go.Proofs.YteeaaphpahnjcaaGreatDoor
open Go Go.RowKit Go.Lib Go.Shelf

attribute [local go_sem] Oper.semAt_some

theorem rulInfo : (Tryz.prog.info? 29).map (fun i => (i.zero, i.size, i.bytes)) = some (some (.agg #[.int .i64 0, .string ⟨#[]⟩]), 2, 24) := by kernel_rfl
theorem linesF_size : ∀ (f : Nat) (l x : List UInt8), x ∈ linesF f l → x.length ≤ l.length
  | 0, _, _, h => by cases h
  | f + 1, l, x, h => by
    have e : linesF (f + 1) l = if l = [] then [] else if indexByte l 10 = -1 then [l] else l.take ((indexByte l 10).toNat + 1) :: linesF f (l.drop ((indexByte l 10).toNat + 1)) := rfl
    rw [e] at h
    split at h
    · cases h
    split at h
    · rw [List.mem_singleton] at h
      rw [h]
      exact Nat.le_refl _
    rcases List.mem_cons.1 h with h | h
    · rw [h]
      exact List.length_take_le' _ _
    · have := linesF_size f _ x h
      rw [List.length_drop] at this
      omega
theorem linesF_len : ∀ (f : Nat) (l : List UInt8), (linesF f l).length ≤ f
  | 0, _ => Nat.le_refl _
  | f + 1, l => by
    have e : linesF (f + 1) l = if l = [] then [] else if indexByte l 10 = -1 then [l] else l.take ((indexByte l 10).toNat + 1) :: linesF f (l.drop ((indexByte l 10).toNat + 1)) := rfl
    rw [e]
    split
    · exact Nat.zero_le _
    split
    · exact Nat.succ_le_succ (Nat.zero_le _)
    · exact Nat.succ_le_succ (linesF_len f _)
theorem goG_length : ∀ (ls : List (List UInt8)) (a b : List Rul), goG a ls = some b → b.length = a.length + ls.length
  | [], a, b, h => by
    cases h
    rfl
  | l :: ls, a, b, h => by
    have e1 : goG a (l :: ls) = if (lineG l).2 then goG (a ++ [(lineG l).1]) ls else none := rfl
    rw [e1] at h
    split at h
    · have := goG_length ls _ _ h
      simp only [List.length_append, List.length_cons, List.length_nil] at this ⊢
      omega
    · cases h
theorem trimB_size (x : ByteArray) : (trimB x).length ≤ x.size := by
  unfold trimB Lib.trimSuffix
  rw [size_eq]
  split
  · exact List.length_take_le' _ _
  · exact Nat.le_refl _
end Go.Proofs.YteeaaphpahnjcaaGreatDoor
