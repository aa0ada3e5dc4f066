/-
  ViewRight returns true for all lists of operations. Condition: none beside the own reach of the form.
-/
import Derived.Test.YtfbdbjookkogjaaDoorDeepW
import Derived.Test.YtfbdbjookkogjaaDoorShownG
import Derived.Test.YtfbdbjookkogjaaDoorNamesFrame
import Derived.SevenTiedAt
namespace Go.Proofs.YtfbdbjookkogjaaDoor
open Go Go.RowKit Go.ChangeShapes Go.WideShapes Go.ChangeAt

set_option maxRecDepth 100000 in
theorem viewRight_lifted (os : Os) (started : os.Started) (H : Type) (enc : TypeId × Value → H) :
    ReturnsInHanded {} Tryd.checked os 7 .any (fun w args => (Rows.viewRightSpec.pre enc Tryd.prog Tryd.f7 [] false w args ∧ laidMetH Tryd.prog Rows.viewRightRow.laid w) ∧ sizedMet enc Tryd.prog Tryd.f7 (OpenSpec.ofChange Rows.viewRightSpec) false w args)
      (Rows.viewRightSpec.post enc Tryd.prog Tryd.f7 false true false false) := by
  refine lifted_of_contract (C := Tryd.checked) (laid := Rows.viewRightRow.laid) (t4 := 4) own started (by kernel_rfl) Tryd.func7 rfl laidOut (by rw [Tryd.params7]; decide +kernel) (by kernel_rfl) Tryd.underlying4 ?_
    (ChangeSpec.witness_shaped (enc := enc) (C := Tryd.checked) (os := os) (X := fun w _ => laidMetH Tryd.prog Rows.viewRightRow.laid w) false (World.laidAll Tryd.prog os Rows.viewRightRow.laid) #[.slice none 0 0] 8 (World.laidAll_os _ _ _)
      (World.shaped_of_ZipB (by kernel_rfl) (by kernel_rfl)) (by kernel_rfl) (by kernel_rfl) (by kernel_rfl)
      (by rw [MakeChecks.laidMetH_plain _ _ _ (by kernel_rfl)]; exact laidMet_laidAll _ (by kernel_rfl) (by kernel_rfl))) ?_
  · intro ds hl
    rw [Tryd.params7] at hl
    match ds, hl with
    | [d0], _ => rfl
  · intro W base args ds p hval hA hlt hsz hL
    rw [Tryd.params7] at hA hval hsz
    obtain ⟨v0, d0, hargs, rfl, h0⟩ := trodAll_one hA
    obtain ⟨a0, c0, x0, rfl, hr0, hc0, hl0, hn0, hd0⟩ := arg_opsW (j := 0) (s := 9) (i := 3) (b := 4) Tryd.underlying40 (by kernel_rfl) (by kernel_rfl) (by kernel_rfl) Tryd.underlying9 Tryd.underlying3 Tryd.underlying4 (hval 0 40 v0 rfl (by simp [hargs])) h0 hlt hsz rfl rfl
    obtain rfl : args = #[.slice a0 x0.length c0] := by cases args; simp_all
    exact law_viewRight a0 c0 x0 W hl0 hr0 hd0 (tab_of_laid (.tail _ (.tail _ (.head _))) (by kernel_rfl) hL)

theorem viewRight_row : Rows.ViewRightSaid :=
  OpenClaim.holds_of_wide 7 Tryd.f7 rfl rfl rfl rfl rfl rfl rfl ⟨rfl, rfl, rfl, rfl, rfl⟩ rfl rfl rfl rfl rfl (by kernel_rfl) Tryd.func7 (by kernel_rfl)
    (of_decide_eq_true (by kernel_rfl)) (by unfold Func.isWrapper; first | (rw [if_pos (by decide +kernel)]; kernel_rfl) | (rw [if_neg (by decide +kernel)]; exact ⟨rfl, rfl⟩))
    (fun os started H enc _ => viewRight_lifted os started H enc)

theorem viewRight_holds : Rows.ViewRightCardSaid :=
  Claim7.holds_tied_plain_at .later [] [.data, .data, .data, .data, .pinned] true Rows.viewRightCard.stood.harness false
    viewRight_row (fun _ h => by cases h) (by kernel_rfl) (fun _ h => by cases h) viewRight_row_tie rfl ⟨rfl, rfl⟩ (by kernel_rfl) rfl
    (fun f fn hf hfn => by
      obtain rfl : f = 7 := Option.some.inj ((show Tryd.prog.funcNamed "arbour/arbourlaw11.ViewRight" = some 7 by kernel_rfl).symm.trans hf) |>.symm
      obtain rfl : fn = Tryd.f7 := (Option.some.inj (Tryd.func7.symm.trans hfn)).symm
      exact ⟨by kernel_rfl, fun j t ht => by
        rw [Tryd.params7] at ht
        have hm : t ∈ [40] := by simpa using Array.mem_of_getElem? ht
        have hall : ([40].all fun u => !Tryd.prog.wantsStandIn u) = true := by kernel_rfl
        exact (show Tryd.prog.wantsStandIn t = false by simpa using List.all_eq_true.1 hall t hm)⟩)
    (by kernel_rfl)
#print axioms viewRight_holds
end Go.Proofs.YtfbdbjookkogjaaDoor
