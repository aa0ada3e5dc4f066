/-
  ViewShows returns true for all lists of nodes. Condition: none beside the own reach of the form.
-/
import Derived.Test.YtfbdbjookkogjaaDoorViewR5
import Derived.Test.YtfbdbjookkogjaaDoorNdArgs
import Derived.Test.YtfbdbjookkogjaaDoorNamesFrame
import Derived.SevenTiedAt
namespace Go.Proofs.YtfbdbjookkogjaaDoor
open Go Go.RowKit Go.ChangeShapes Go.WideShapes Go.ChangeAt

set_option maxRecDepth 100000 in
theorem viewShows_lifted (os : Os) (started : os.Started) (H : Type) (enc : TypeId × Value → H) :
    ReturnsInHanded {} Tryd.checked os 3 .any (fun w args => (Rows.viewShowsSpec.pre enc Tryd.prog Tryd.f3 [] false w args ∧ laidMetH Tryd.prog Rows.viewShowsRow.laid w) ∧ sizedMet enc Tryd.prog Tryd.f3 (OpenSpec.ofChange Rows.viewShowsSpec) false w args)
      (Rows.viewShowsSpec.post enc Tryd.prog Tryd.f3 false true false false) := by
  refine lifted_of_contract (C := Tryd.checked) (laid := Rows.viewShowsRow.laid) (t4 := 4) own started (by kernel_rfl) Tryd.func3 rfl laidOut (by rw [Tryd.params3]; decide +kernel) (by kernel_rfl) Tryd.underlying4 ?_
    (ChangeSpec.witness_shaped (enc := enc) (C := Tryd.checked) (os := os) (X := fun w _ => laidMetH Tryd.prog Rows.viewShowsRow.laid w) false (World.laidAll Tryd.prog os Rows.viewShowsRow.laid) #[.slice none 0 0] 8 (World.laidAll_os _ _ _)
      (World.shaped_of_ZipB (by kernel_rfl) (by kernel_rfl)) (by kernel_rfl) (by kernel_rfl) (by kernel_rfl)
      (by rw [MakeChecks.laidMetH_plain _ _ _ (by kernel_rfl)]; exact laidMet_laidAll _ (by kernel_rfl) (by kernel_rfl))) ?_
  · intro ds hl
    rw [Tryd.params3] at hl
    match ds, hl with
    | [d0], _ => rfl
  · intro W base args ds p hval hA hlt hsz hL
    rw [Tryd.params3] at hA hval hsz
    obtain ⟨v0, d0, hargs, rfl, h0⟩ := trodAll_one hA
    obtain ⟨a0, c0, x0, rfl, hr0, hc0, hl0, hn0, hd0⟩ := arg_nodes (j := 0) (s := 9) (i := 3) (b := 4) Tryd.underlying22 (by kernel_rfl) (by kernel_rfl) (by kernel_rfl) Tryd.underlying9 Tryd.underlying3 Tryd.underlying4 (hval 0 22 v0 rfl (by simp [hargs])) h0 hlt hsz rfl rfl
    obtain rfl : args = #[.slice a0 x0.length c0] := by cases args; simp_all
    exact law_viewShows a0 c0 x0 W hl0 hr0 hd0 (tab_of_laid (.tail _ (.tail _ (.head _))) (by kernel_rfl) hL)

theorem viewShows_row : Rows.ViewShowsSaid :=
  OpenClaim.holds_of_wide 3 Tryd.f3 rfl rfl rfl rfl rfl rfl rfl ⟨rfl, rfl, rfl, rfl, rfl⟩ rfl rfl rfl rfl rfl (by kernel_rfl) Tryd.func3 (by kernel_rfl)
    (of_decide_eq_true (by kernel_rfl)) (by unfold Func.isWrapper; first | (rw [if_pos (by decide +kernel)]; kernel_rfl) | (rw [if_neg (by decide +kernel)]; exact ⟨rfl, rfl⟩))
    (fun os started H enc _ => viewShows_lifted os started H enc)

theorem viewShows_holds : Rows.ViewShowsCardSaid :=
  Claim7.holds_tied_plain_at .later [] [.data, .data, .data, .data, .pinned] true Rows.viewShowsCard.stood.harness false
    viewShows_row (fun _ h => by cases h) (by kernel_rfl) (fun _ h => by cases h) viewShows_row_tie rfl ⟨rfl, rfl⟩ (by kernel_rfl) rfl
    (fun f fn hf hfn => by
      obtain rfl : f = 3 := Option.some.inj ((show Tryd.prog.funcNamed "arbour/arbourlaw11.ViewShows" = some 3 by kernel_rfl).symm.trans hf) |>.symm
      obtain rfl : fn = Tryd.f3 := (Option.some.inj (Tryd.func3.symm.trans hfn)).symm
      exact ⟨by kernel_rfl, fun j t ht => by
        rw [Tryd.params3] at ht
        have hm : t ∈ [22] := by simpa using Array.mem_of_getElem? ht
        have hall : ([22].all fun u => !Tryd.prog.wantsStandIn u) = true := by kernel_rfl
        exact (show Tryd.prog.wantsStandIn t = false by simpa using List.all_eq_true.1 hall t hm)⟩)
    (by kernel_rfl)
#print axioms viewShows_holds
end Go.Proofs.YtfbdbjookkogjaaDoor
