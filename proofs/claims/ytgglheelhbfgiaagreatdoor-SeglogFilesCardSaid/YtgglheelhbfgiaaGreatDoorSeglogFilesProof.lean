/-
  SeglogFiles returns true for any two numbers. Condition: none beside the own reach of the form.
-/
import Derived.Test.YtgglheelhbfgiaaGreatDoorSegGC
import Derived.Test.YtgglheelhbfgiaaGreatDoorSegFrame
import Derived.SevenTiedAt
namespace Go.Proofs.YtgglheelhbfgiaaGreatDoor
open Go Go.RowKit Go.ChangeShapes Go.WideShapes Go.ChangeAt

set_option maxRecDepth 100000 in
theorem seglogFiles_lifted (os : Os) (started : os.Started) (H : Type) (enc : TypeId × Value → H) :
    ReturnsInHanded {} Tryz.checked os 4 .any (fun w args => (Rows.seglogFilesSpec.pre enc Tryz.prog Tryz.f4 [] false w args ∧ laidMetH Tryz.prog Rows.seglogFilesRow.laid w) ∧ sizedMet enc Tryz.prog Tryz.f4 (OpenSpec.ofChange Rows.seglogFilesSpec) false w args)
      (Rows.seglogFilesSpec.post enc Tryz.prog Tryz.f4 false true false false) := by
  refine lifted_of_contract (C := Tryz.checked) (laid := Rows.seglogFilesRow.laid) (t4 := 4) own started (by kernel_rfl) Tryz.func4 rfl laidOut (by rw [Tryz.params4]; decide +kernel) (by kernel_rfl) Tryz.underlying4 ?_
    (ChangeSpec.witness_shaped (enc := enc) (C := Tryz.checked) (os := os) (X := fun w _ => laidMetH Tryz.prog Rows.seglogFilesRow.laid w) false (World.laidAll Tryz.prog os Rows.seglogFilesRow.laid) #[.int .i64 0, .int .i64 0] 8 (World.laidAll_os _ _ _)
      (World.shaped_of_ZipB (by kernel_rfl) (by kernel_rfl)) (by kernel_rfl) (by kernel_rfl) (by kernel_rfl)
      (by rw [MakeChecks.laidMetH_plain _ _ _ (by kernel_rfl)]; exact laidMet_laidAll _ (by kernel_rfl) (by kernel_rfl))) ?_
  · intro ds hl
    rw [Tryz.params4] at hl
    match ds, hl with
    | [d0, d1], _ => rfl
  · intro W base args ds p hval hA hlt hsz hL
    rw [Tryz.params4] at hA hval hsz
    obtain ⟨v0, v1, d0, d1, p0, p1, hargs, rfl, rfl, h0, h1⟩ := trodAll_two hA
    obtain ⟨n0, rfl, hn0, hm0⟩ := arg_int Tryz.underlying3 (hval 0 3 v0 rfl (by simp [hargs])) h0
    obtain ⟨n1, rfl, hn1, hm1⟩ := arg_int Tryz.underlying3 (hval 1 3 v1 rfl (by simp [hargs])) h1
    obtain rfl : args = #[.int .i64 n0, .int .i64 n1] := by cases args; simp_all
    exact law_seglogFiles n0 n1 W hn0 hm0 hn1 hm1 (tab_of_laid (.tail _ (.tail _ (.head _))) (by kernel_rfl) hL)

theorem seglogFiles_row : Rows.SeglogFilesSaid :=
  OpenClaim.holds_of_wide 4 Tryz.f4 rfl rfl rfl rfl rfl rfl rfl ⟨rfl, rfl, rfl, rfl, rfl⟩ rfl rfl rfl rfl rfl (by kernel_rfl) Tryz.func4 (by kernel_rfl)
    (of_decide_eq_true (by kernel_rfl)) (by unfold Func.isWrapper; first | (rw [if_pos (by decide +kernel)]; kernel_rfl) | (rw [if_neg (by decide +kernel)]; exact ⟨rfl, rfl⟩))
    (fun os started H enc _ => seglogFiles_lifted os started H enc)

theorem seglogFiles_holds : Rows.SeglogFilesCardSaid :=
  Claim7.holds_tied_plain_at .later [] [.data, .data, .data] true Rows.seglogFilesCard.stood.harness true
    seglogFiles_row (fun _ h => by cases h) (by kernel_rfl) (fun _ h => by cases h) seglogFiles_row_tie rfl ⟨rfl, rfl⟩ (by kernel_rfl) rfl
    (fun f fn hf hfn => by
      obtain rfl : f = 4 := Option.some.inj ((show Tryz.prog.funcNamed "arbour/arbourlaw16.SeglogFiles" = some 4 by kernel_rfl).symm.trans hf) |>.symm
      obtain rfl : fn = Tryz.f4 := (Option.some.inj (Tryz.func4.symm.trans hfn)).symm
      exact ⟨by kernel_rfl, fun j t ht => by
        rw [Tryz.params4] at ht
        have hm : t ∈ [3, 3] := by simpa using Array.mem_of_getElem? ht
        have hall : ([3, 3].all fun u => !Tryz.prog.wantsStandIn u) = true := by kernel_rfl
        exact (show Tryz.prog.wantsStandIn t = false by simpa using List.all_eq_true.1 hall t hm)⟩)
    (by kernel_rfl)
#print axioms seglogFiles_holds
end Go.Proofs.YtgglheelhbfgiaaGreatDoor
