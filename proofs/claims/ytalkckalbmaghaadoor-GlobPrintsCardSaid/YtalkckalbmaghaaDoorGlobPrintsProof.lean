/-
  GlobPrints returns true for all rules. Condition: none beside the own reach of the form.
-/
import Derived.Test.YtalkckalbmaghaaDoorGlp15
import Derived.Test.YtalkckalbmaghaaDoorShaped
import Derived.Test.YtalkckalbmaghaaDoorRules
import Derived.Test.YtalkckalbmaghaaDoorOwn
import Derived.SevenTiedAt
namespace Go.Proofs.YtalkckalbmaghaaDoor
open Go Go.RowKit Go.ChangeShapes Go.WideShapes Go.ChangeAt

set_option maxRecDepth 100000 in
theorem globPrints_lifted (os : Os) (started : os.Started) (H : Type) (enc : TypeId × Value → H) :
    ReturnsInHanded {} Tryd.checked os 9 .any (fun w args => (Rows.globPrintsSpec.pre enc Tryd.prog Tryd.f9 [] false w args ∧ laidMetH Tryd.prog Rows.globPrintsRow.laid w) ∧ sizedMet enc Tryd.prog Tryd.f9 (OpenSpec.ofChange Rows.globPrintsSpec) false w args)
      (Rows.globPrintsSpec.post enc Tryd.prog Tryd.f9 false true false false) := by
  refine lifted_shaped (C := Tryd.checked) (laid := Rows.globPrintsRow.laid) (t4 := 4) own started (by kernel_rfl) Tryd.func9 rfl laidOut (by rw [Tryd.params9]; decide +kernel) (by kernel_rfl) Tryd.underlying4 ?_
    (ChangeSpec.witness_shaped (enc := enc) (C := Tryd.checked) (os := os) (X := fun w _ => laidMetH Tryd.prog Rows.globPrintsRow.laid w) false (World.laidAll Tryd.prog os Rows.globPrintsRow.laid) #[.slice none 0 0] 8 (World.laidAll_os _ _ _)
      (World.shaped_of_ZipB (by kernel_rfl) (by kernel_rfl)) (by kernel_rfl) (by kernel_rfl) (by kernel_rfl)
      (by rw [MakeChecks.laidMetH_plain _ _ _ (by kernel_rfl)]; exact laidMet_laidAll _ (by kernel_rfl) (by kernel_rfl))) ?_
  · intro ds hl
    rw [Tryd.params9] at hl
    match ds, hl with
    | [d0], _ => rfl
  · intro W base args ds p hval hA hlt hsz _ hsh
    rw [Tryd.params9] at hA hval hsz
    obtain ⟨v0, d0, hargs, rfl, h0⟩ := trodAll_one hA
    obtain ⟨a0, c0, x0, rfl, hr0, hc0, hl0, hn0⟩ := arg_rules (j := 0) (s := 9) (i := 3) Tryd.underlying23 (by kernel_rfl) (by kernel_rfl) Tryd.underlying9 Tryd.underlying3 (hval 0 23 v0 rfl (by simp [hargs])) h0 hlt hsz rfl rfl
    obtain rfl : args = #[.slice a0 x0.length c0] := by cases args; simp_all
    exact law_globPrints a0 c0 x0 W (Nat.le_trans (Nat.le_mul_of_pos_right _ (by decide +kernel)) hl0) hr0 (maxAt_shaped hsh)

theorem globPrints_row : Rows.GlobPrintsSaid :=
  OpenClaim.holds_of_wide 9 Tryd.f9 rfl rfl rfl rfl rfl rfl rfl ⟨rfl, rfl, rfl, rfl, rfl⟩ rfl rfl rfl rfl rfl (by kernel_rfl) Tryd.func9 (by kernel_rfl)
    (of_decide_eq_true (by kernel_rfl)) (by unfold Func.isWrapper; first | (rw [if_pos (by decide +kernel)]; kernel_rfl) | (rw [if_neg (by decide +kernel)]; exact ⟨rfl, rfl⟩))
    (fun os started H enc _ => globPrints_lifted os started H enc)

theorem globPrints_holds : Rows.GlobPrintsCardSaid :=
  Claim7.holds_tied_plain_at .later [] [.data, .pinned] true Rows.globPrintsCard.stood.harness false
    globPrints_row (fun _ h => by cases h) (by kernel_rfl) (fun _ h => by cases h) globPrints_row_tie rfl ⟨rfl, rfl⟩ (by kernel_rfl) rfl
    (fun f fn hf hfn => by
      obtain rfl : f = 9 := Option.some.inj ((show Tryd.prog.funcNamed "arbour/arbourlaw09.GlobPrints" = some 9 by kernel_rfl).symm.trans hf) |>.symm
      obtain rfl : fn = Tryd.f9 := (Option.some.inj (Tryd.func9.symm.trans hfn)).symm
      exact ⟨by kernel_rfl, fun j t ht => by
        rw [Tryd.params9] at ht
        have hm : t ∈ [23] := by simpa using Array.mem_of_getElem? ht
        have hall : ([23].all fun u => !Tryd.prog.wantsStandIn u) = true := by kernel_rfl
        exact (show Tryd.prog.wantsStandIn t = false by simpa using List.all_eq_true.1 hall t hm)⟩)
    (by kernel_rfl)
#print axioms globPrints_holds
end Go.Proofs.YtalkckalbmaghaaDoor
