/-
  SeglogNil returns true for every text. Condition: none beside the own reach of the form.
-/
import Derived.Test.YtgglheelhbfgiaaGreatDoorSegL3
import Derived.Test.YtgglheelhbfgiaaGreatDoorSegFrame
import Derived.SevenTiedAt
namespace Go.Proofs.YtgglheelhbfgiaaGreatDoor
open Go Go.RowKit Go.ChangeShapes Go.WideShapes Go.ChangeAt

set_option maxRecDepth 100000 in
theorem seglogNil_lifted (os : Os) (started : os.Started) (H : Type) (enc : TypeId × Value → H) :
    ReturnsInHanded {} Tryz.checked os 3 .any (fun w args => (Rows.seglogNilSpec.pre enc Tryz.prog Tryz.f3 [] false w args ∧ laidMetH Tryz.prog Rows.seglogNilRow.laid w) ∧ sizedMet enc Tryz.prog Tryz.f3 (OpenSpec.ofChange Rows.seglogNilSpec) false w args)
      (Rows.seglogNilSpec.post enc Tryz.prog Tryz.f3 false true false false) := by
  refine lifted_of_contract (C := Tryz.checked) (laid := Rows.seglogNilRow.laid) (t4 := 4) own started (by kernel_rfl) Tryz.func3 rfl laidOut (by rw [Tryz.params3]; decide +kernel) (by kernel_rfl) Tryz.underlying4 ?_
    (ChangeSpec.witness_shaped (enc := enc) (C := Tryz.checked) (os := os) (X := fun w _ => laidMetH Tryz.prog Rows.seglogNilRow.laid w) false (World.laidAll Tryz.prog os Rows.seglogNilRow.laid) #[.string ByteArray.empty] 8 (World.laidAll_os _ _ _)
      (World.shaped_of_ZipB (by kernel_rfl) (by kernel_rfl)) (by kernel_rfl) (by kernel_rfl) (by kernel_rfl)
      (by rw [MakeChecks.laidMetH_plain _ _ _ (by kernel_rfl)]; exact laidMet_laidAll _ (by kernel_rfl) (by kernel_rfl))) ?_
  · intro ds hl
    rw [Tryz.params3] at hl
    match ds, hl with
    | [d0], _ => rfl
  · intro W base args ds p hval hA hlt hsz hL
    rw [Tryz.params3] at hA hval hsz
    obtain ⟨v0, d0, hargs, rfl, h0⟩ := trodAll_one hA
    obtain ⟨s0, rfl, hs0⟩ := arg_string (j := 0) Tryz.underlying9 (hval 0 9 v0 rfl (by simp [hargs])) h0 hsz rfl rfl
    obtain rfl : args = #[.string s0] := by cases args; simp_all
    exact law_seglogNil s0 W hs0 (tab_of_laid (.tail _ (.tail _ (.head _))) (by kernel_rfl) hL)

theorem seglogNil_row : Rows.SeglogNilSaid :=
  OpenClaim.holds_of_wide 3 Tryz.f3 rfl rfl rfl rfl rfl rfl rfl ⟨rfl, rfl, rfl, rfl, rfl⟩ rfl rfl rfl rfl rfl (by kernel_rfl) Tryz.func3 (by kernel_rfl)
    (of_decide_eq_true (by kernel_rfl)) (by unfold Func.isWrapper; first | (rw [if_pos (by decide +kernel)]; kernel_rfl) | (rw [if_neg (by decide +kernel)]; exact ⟨rfl, rfl⟩))
    (fun os started H enc _ => seglogNil_lifted os started H enc)

theorem seglogNil_holds : Rows.SeglogNilCardSaid :=
  Claim7.holds_tied_plain_at .later [] [.data, .data, .data] true Rows.seglogNilCard.stood.harness true
    seglogNil_row (fun _ h => by cases h) (by kernel_rfl) (fun _ h => by cases h) seglogNil_row_tie rfl ⟨rfl, rfl⟩ (by kernel_rfl) rfl
    (fun f fn hf hfn => by
      obtain rfl : f = 3 := Option.some.inj ((show Tryz.prog.funcNamed "arbour/arbourlaw16.SeglogNil" = some 3 by kernel_rfl).symm.trans hf) |>.symm
      obtain rfl : fn = Tryz.f3 := (Option.some.inj (Tryz.func3.symm.trans hfn)).symm
      exact ⟨by kernel_rfl, fun j t ht => by
        rw [Tryz.params3] at ht
        have hm : t ∈ [9] := by simpa using Array.mem_of_getElem? ht
        have hall : ([9].all fun u => !Tryz.prog.wantsStandIn u) = true := by kernel_rfl
        exact (show Tryz.prog.wantsStandIn t = false by simpa using List.all_eq_true.1 hall t hm)⟩)
    (by kernel_rfl)
#print axioms seglogNil_holds
end Go.Proofs.YtgglheelhbfgiaaGreatDoor
