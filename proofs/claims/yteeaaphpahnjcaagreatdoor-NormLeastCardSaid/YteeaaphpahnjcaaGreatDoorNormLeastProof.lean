/-
  NormLeast returns true for all rules and every place. Condition: none beside the own reach of the form.
-/
import Derived.Test.YteeaaphpahnjcaaGreatDoorNormG
import Derived.Test.YteeaaphpahnjcaaGreatDoorShaped
import Derived.Test.YteeaaphpahnjcaaGreatDoorRules
import Derived.Test.YteeaaphpahnjcaaGreatDoorOwn
import Derived.SevenTiedAt
namespace Go.Proofs.YteeaaphpahnjcaaGreatDoor
open Go Go.RowKit Go.ChangeShapes Go.WideShapes Go.ChangeAt

set_option maxRecDepth 100000 in
theorem normLeast_lifted (os : Os) (started : os.Started) (H : Type) (enc : TypeId × Value → H) :
    ReturnsInHanded {} Tryz.checked os 4 .any (fun w args => (Rows.normLeastSpec.pre enc Tryz.prog Tryz.f4 [] false w args ∧ laidMetH Tryz.prog Rows.normLeastRow.laid w) ∧ sizedMet enc Tryz.prog Tryz.f4 (OpenSpec.ofChange Rows.normLeastSpec) false w args)
      (Rows.normLeastSpec.post enc Tryz.prog Tryz.f4 false true false false) := by
  refine lifted_shaped (C := Tryz.checked) (laid := Rows.normLeastRow.laid) (t4 := 4) own started (by kernel_rfl) Tryz.func4 rfl laidOut (by rw [Tryz.params4]; decide +kernel) (by kernel_rfl) Tryz.underlying4 ?_
    (ChangeSpec.witness_shaped (enc := enc) (C := Tryz.checked) (os := os) (X := fun w _ => laidMetH Tryz.prog Rows.normLeastRow.laid w) false (World.laidAll Tryz.prog os Rows.normLeastRow.laid) #[.slice none 0 0, .int .i64 0] 8 (World.laidAll_os _ _ _)
      (World.shaped_of_ZipB (by kernel_rfl) (by kernel_rfl)) (by kernel_rfl) (by kernel_rfl) (by kernel_rfl)
      (by rw [MakeChecks.laidMetH_plain _ _ _ (by kernel_rfl)]; exact laidMet_laidAll _ (by kernel_rfl) (by kernel_rfl))) ?_
  · intro ds hl
    rw [Tryz.params4] at hl
    match ds, hl with
    | [d0, d1], _ => rfl
  · intro W base args ds p hval hA hlt hsz _ hsh
    rw [Tryz.params4] at hA hval hsz
    obtain ⟨v0, v1, d0, d1, p0, p1, hargs, rfl, rfl, h0, h1⟩ := trodAll_two hA
    obtain ⟨a0, c0, x0, rfl, hr0, hc0, hl0, hn0⟩ := arg_rules (j := 0) (s := 9) (i := 3) Tryz.underlying22 (by kernel_rfl) (by kernel_rfl) Tryz.underlying9 Tryz.underlying3 (hval 0 22 v0 rfl (by simp [hargs])) h0 (fun x hx => hlt x (by simp [hx])) hsz rfl rfl
    obtain ⟨n1, rfl, hn1, hm1⟩ := arg_int Tryz.underlying3 (hval 1 3 v1 rfl (by simp [hargs])) h1
    obtain rfl : args = #[.slice a0 x0.length c0, .int .i64 n1] := by cases args; simp_all
    exact law_normLeast a0 c0 x0 n1 W (Nat.le_trans (Nat.le_mul_of_pos_right _ (by decide +kernel)) hl0) hr0 hn1 hm1 (maxAt_shaped hsh)

theorem normLeast_row : Rows.NormLeastSaid :=
  OpenClaim.holds_of_wide 4 Tryz.f4 rfl rfl rfl rfl rfl rfl rfl ⟨rfl, rfl, rfl, rfl, rfl⟩ rfl rfl rfl rfl rfl (by kernel_rfl) Tryz.func4 (by kernel_rfl)
    (of_decide_eq_true (by kernel_rfl)) (by unfold Func.isWrapper; first | (rw [if_pos (by decide +kernel)]; kernel_rfl) | (rw [if_neg (by decide +kernel)]; exact ⟨rfl, rfl⟩))
    (fun os started H enc _ => normLeast_lifted os started H enc)

theorem normLeast_holds : Rows.NormLeastCardSaid :=
  Claim7.holds_tied_plain_at .later [] [.data, .pinned] true Rows.normLeastCard.stood.harness false
    normLeast_row (fun _ h => by cases h) (by kernel_rfl) (fun _ h => by cases h) normLeast_row_tie rfl ⟨rfl, rfl⟩ (by kernel_rfl) rfl
    (fun f fn hf hfn => by
      obtain rfl : f = 4 := Option.some.inj ((show Tryz.prog.funcNamed "arbour/arbourlaw10.NormLeast" = some 4 by kernel_rfl).symm.trans hf) |>.symm
      obtain rfl : fn = Tryz.f4 := (Option.some.inj (Tryz.func4.symm.trans hfn)).symm
      exact ⟨by kernel_rfl, fun j t ht => by
        rw [Tryz.params4] at ht
        have hm : t ∈ [22, 3] := by simpa using Array.mem_of_getElem? ht
        have hall : ([22, 3].all fun u => !Tryz.prog.wantsStandIn u) = true := by kernel_rfl
        exact (show Tryz.prog.wantsStandIn t = false by simpa using List.all_eq_true.1 hall t hm)⟩)
    (by kernel_rfl)
#print axioms normLeast_holds
end Go.Proofs.YteeaaphpahnjcaaGreatDoor
