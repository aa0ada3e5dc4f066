/-
  OpsSets returns true for all operations. Condition: none beside the own reach of the form.
-/
import Derived.Test.YtifpdejgkofnaaaDoorOpsW29
import Derived.Test.YtifpdejgkofnaaaDoorOpsArgs
import Derived.Test.YtifpdejgkofnaaaDoorOwn
import Derived.SevenTiedAt
namespace Go.Proofs.YtifpdejgkofnaaaDoor
open Go Go.RowKit Go.ChangeShapes Go.WideShapes Go.ChangeAt

set_option maxRecDepth 100000 in
theorem opsSets_lifted (os : Os) (started : os.Started) (H : Type) (enc : TypeId × Value → H) :
    ReturnsInHanded {} Tryd.checked os 9 .any (fun w args => (Rows.opsSetsSpec.pre enc Tryd.prog Tryd.f9 [] false w args ∧ laidMetH Tryd.prog Rows.opsSetsRow.laid w) ∧ sizedMet enc Tryd.prog Tryd.f9 (OpenSpec.ofChange Rows.opsSetsSpec) false w args)
      (Rows.opsSetsSpec.post enc Tryd.prog Tryd.f9 false true false false) := by
  refine lifted_of_contract (C := Tryd.checked) (laid := Rows.opsSetsRow.laid) (t4 := 4) own started (by kernel_rfl) Tryd.func9 rfl laidOut (by rw [Tryd.params9]; decide +kernel) (by kernel_rfl) Tryd.underlying4 ?_
    (ChangeSpec.witness_shaped (enc := enc) (C := Tryd.checked) (os := os) (X := fun w _ => laidMetH Tryd.prog Rows.opsSetsRow.laid w) false (World.laidAll Tryd.prog os Rows.opsSetsRow.laid) #[.slice none 0 0] 8 (World.laidAll_os _ _ _)
      (World.shaped_of_ZipB (by kernel_rfl) (by kernel_rfl)) (by kernel_rfl) (by kernel_rfl) (by kernel_rfl)
      (by rw [MakeChecks.laidMetH_plain _ _ _ (by kernel_rfl)]; exact laidMet_laidAll _ (by kernel_rfl) (by kernel_rfl))) ?_
  · intro ds hl
    rw [Tryd.params9] at hl
    match ds, hl with
    | [d0], _ => rfl
  · intro W base args ds p hval hA hlt hsz _
    rw [Tryd.params9] at hA hval hsz
    obtain ⟨v0, d0, hargs, rfl, h0⟩ := trodAll_one hA
    obtain ⟨a0, c0, l0, rfl, hr0, hc0, hl0, hn0, hw0⟩ := arg_ops2 (j := 0) (i := 3) (b := 4) (s := 9) Tryd.underlying27 (by kernel_rfl) (by kernel_rfl) (by kernel_rfl) Tryd.underlying9 Tryd.underlying3 Tryd.underlying4 (hval 0 27 v0 rfl (by simp [hargs])) h0 hlt hsz rfl rfl
    obtain rfl : args = #[.slice a0 l0.length c0] := by cases args; simp_all
    exact law_opsSets a0 c0 l0 W hr0 hc0 hl0 hn0 hw0

theorem opsSets_row : Rows.OpsSetsSaid :=
  OpenClaim.holds_of_wide 9 Tryd.f9 rfl rfl rfl rfl rfl rfl rfl ⟨rfl, rfl, rfl, rfl, rfl⟩ rfl rfl rfl rfl rfl (by kernel_rfl) Tryd.func9 (by kernel_rfl)
    (of_decide_eq_true (by kernel_rfl)) (by unfold Func.isWrapper; first | (rw [if_pos (by decide +kernel)]; kernel_rfl) | (rw [if_neg (by decide +kernel)]; exact ⟨rfl, rfl⟩))
    (fun os started H enc _ => opsSets_lifted os started H enc)

theorem opsSets_holds : Rows.OpsSetsCardSaid :=
  Claim7.holds_tied_plain_at .later [] [.data, .pinned] true Rows.opsSetsCard.stood.harness false
    opsSets_row (fun _ h => by cases h) (by kernel_rfl) (fun _ h => by cases h) opsSets_row_tie rfl ⟨rfl, rfl⟩ (by kernel_rfl) rfl
    (fun f fn hf hfn => by
      obtain rfl : f = 9 := Option.some.inj ((show Tryd.prog.funcNamed "arbour/arbourlaw06.OpsSets" = some 9 by kernel_rfl).symm.trans hf) |>.symm
      obtain rfl : fn = Tryd.f9 := (Option.some.inj (Tryd.func9.symm.trans hfn)).symm
      exact ⟨by kernel_rfl, fun j t ht => by
        rw [Tryd.params9] at ht
        have hm : t ∈ [27] := by simpa using Array.mem_of_getElem? ht
        have hall : ([27].all fun u => !Tryd.prog.wantsStandIn u) = true := by kernel_rfl
        exact (show Tryd.prog.wantsStandIn t = false by simpa using List.all_eq_true.1 hall t hm)⟩)
    (by kernel_rfl)
#print axioms opsSets_holds
end Go.Proofs.YtifpdejgkofnaaaDoor
