/-
  A line of rules: glob.word, glob.line, the reference's word.
-/
import Derived.Test.YteeaaphpahnjcaaGreatDoorGlp2
import Derived.Deep.RegionHeld3
namespace Go.Proofs.YteeaaphpahnjcaaGreatDoor
open Go Go.RowKit Go.Lib

set_option maxRecDepth 100000 in
theorem word1_any (w : World) : Calls Tryz.prog 31 #[.int .i64 1] w fun e w' => e = .returned (.string ⟨#[119, 105, 116, 104, 32]⟩) ∧ w = w' := by
  have hx : ∀ w, Sem.run Tryz.prog (Instr.index 77 (Value.agg #[.string ⟨#[]⟩, .string ⟨#[119, 105, 116, 104, 32]⟩, .string ⟨#[119, 105, 116, 104, 111, 117, 116, 32]⟩, .string ⟨#[116, 121, 112, 101, 32]⟩]) (.int .i64 1)) w = .ok (.string ⟨#[119, 105, 116, 104, 32]⟩) w := fun w => by kernel_rfl
  go_enter Tryz.func31, Tryz.ntmps31
  go_wp2_with fail
  go_ret
  exact ⟨rfl, rfl⟩
set_option maxRecDepth 100000 in
theorem word2_any (w : World) : Calls Tryz.prog 31 #[.int .i64 2] w fun e w' => e = .returned (.string ⟨#[119, 105, 116, 104, 111, 117, 116, 32]⟩) ∧ w = w' := by
  have hx : ∀ w, Sem.run Tryz.prog (Instr.index 77 (Value.agg #[.string ⟨#[]⟩, .string ⟨#[119, 105, 116, 104, 32]⟩, .string ⟨#[119, 105, 116, 104, 111, 117, 116, 32]⟩, .string ⟨#[116, 121, 112, 101, 32]⟩]) (.int .i64 2)) w = .ok (.string ⟨#[119, 105, 116, 104, 111, 117, 116, 32]⟩) w := fun w => by kernel_rfl
  go_enter Tryz.func31, Tryz.ntmps31
  go_wp2_with fail
  go_ret
  exact ⟨rfl, rfl⟩
set_option maxRecDepth 100000 in
theorem word3_any (w : World) : Calls Tryz.prog 31 #[.int .i64 3] w fun e w' => e = .returned (.string ⟨#[116, 121, 112, 101, 32]⟩) ∧ w = w' := by
  have hx : ∀ w, Sem.run Tryz.prog (Instr.index 77 (Value.agg #[.string ⟨#[]⟩, .string ⟨#[119, 105, 116, 104, 32]⟩, .string ⟨#[119, 105, 116, 104, 111, 117, 116, 32]⟩, .string ⟨#[116, 121, 112, 101, 32]⟩]) (.int .i64 3)) w = .ok (.string ⟨#[116, 121, 112, 101, 32]⟩) w := fun w => by kernel_rfl
  go_enter Tryz.func31, Tryz.ntmps31
  go_wp2_with fail
  go_ret
  exact ⟨rfl, rfl⟩
/-- A line, read: the rule, and whether it may be. -/
def lineG (s : List UInt8) : Rul × Bool :=
  if Lib.hasPrefix s [119, 105, 116, 104, 32] then (⟨1, ba (Lib.trimPrefix s [119, 105, 116, 104, 32])⟩, ruleG ⟨1, ba (Lib.trimPrefix s [119, 105, 116, 104, 32])⟩)
  else if Lib.hasPrefix s [119, 105, 116, 104, 111, 117, 116, 32] then (⟨2, ba (Lib.trimPrefix s [119, 105, 116, 104, 111, 117, 116, 32])⟩, ruleG ⟨2, ba (Lib.trimPrefix s [119, 105, 116, 104, 111, 117, 116, 32])⟩)
  else if Lib.hasPrefix s [116, 121, 112, 101, 32] then (⟨3, ba (Lib.trimPrefix s [116, 121, 112, 101, 32])⟩, ruleG ⟨3, ba (Lib.trimPrefix s [116, 121, 112, 101, 32])⟩)
  else (noRul, false)
theorem trim_len (s p : List UInt8) : (Lib.trimPrefix s p).length ≤ s.length := by
  unfold Lib.trimPrefix
  split
  · rw [List.length_drop]; omega
  · exact Nat.le_refl _
end Go.Proofs.YteeaaphpahnjcaaGreatDoor
