/-
  ViewAt returns true for all lists of items and every path. Condition: none beside the own reach of the form.
-/
import Derived.Test.YtfbdbjookkogjaaDoorViewF3
import Derived.Test.YtfbdbjookkogjaaDoorItems
import Derived.Test.YtfbdbjookkogjaaDoorNamesFrame
import Derived.SevenTiedAt
namespace Go.Proofs.YtfbdbjookkogjaaDoor
open Go Go.RowKit Go.ChangeShapes Go.WideShapes Go.ChangeAt

set_option maxRecDepth 100000 in
theorem viewAt_lifted (os : Os) (started : os.Started) (H : Type) (enc : TypeId × Value → H) :
    ReturnsInHanded {} Tryd.checked os 4 .any (fun w args => (Rows.viewAtSpec.pre enc Tryd.prog Tryd.f4 [] false w args ∧ laidMetH Tryd.prog Rows.viewAtRow.laid w) ∧ sizedMet enc Tryd.prog Tryd.f4 (OpenSpec.ofChange Rows.viewAtSpec) false w args)
      (Rows.viewAtSpec.post enc Tryd.prog Tryd.f4 false true false false) := by
  refine lifted_of_contract (C := Tryd.checked) (laid := Rows.viewAtRow.laid) (t4 := 4) own started (by kernel_rfl) Tryd.func4 rfl laidOut (by rw [Tryd.params4]; decide +kernel) (by kernel_rfl) Tryd.underlying4 ?_
    (ChangeSpec.witness_shaped (enc := enc) (C := Tryd.checked) (os := os) (X := fun w _ => laidMetH Tryd.prog Rows.viewAtRow.laid w) false (World.laidAll Tryd.prog os Rows.viewAtRow.laid) #[.slice none 0 0, .string ByteArray.empty] 8 (World.laidAll_os _ _ _)
      (World.shaped_of_ZipB (by kernel_rfl) (by kernel_rfl)) (by kernel_rfl) (by kernel_rfl) (by kernel_rfl)
      (by rw [MakeChecks.laidMetH_plain _ _ _ (by kernel_rfl)]; exact laidMet_laidAll _ (by kernel_rfl) (by kernel_rfl))) ?_
  · intro ds hl
    rw [Tryd.params4] at hl
    match ds, hl with
    | [d0, d1], _ => rfl
  · intro W base args ds p hval hA hlt hsz hL
    rw [Tryd.params4] at hA hval hsz
    obtain ⟨v0, v1, d0, d1, p0, p1, hargs, rfl, rfl, h0, h1⟩ := trodAll_two hA
    obtain ⟨a0, c0, x0, rfl, hr0, hc0, hl0, hn0⟩ := arg_items (j := 0) (s := 9) (i := 3) (b := 4) Tryd.underlying25 (by kernel_rfl) (by kernel_rfl) Tryd.underlying9 Tryd.underlying3 Tryd.underlying4 (hval 0 25 v0 rfl (by simp [hargs])) h0 (fun x hx => hlt x (by simp [hx])) hsz rfl rfl
    obtain ⟨s1, rfl, hs1⟩ := arg_string (j := 1) Tryd.underlying9 (hval 1 9 v1 rfl (by simp [hargs])) h1 hsz rfl rfl
    obtain rfl : args = #[.slice a0 x0.length c0, .string s1] := by cases args; simp_all
    exact law_viewAt a0 c0 x0 s1 W (Nat.le_trans (Nat.le_mul_of_pos_right _ (by decide +kernel)) hl0) hr0 hs1 (tab_of_laid (.tail _ (.tail _ (.head _))) (by kernel_rfl) hL)

theorem viewAt_row : Rows.ViewAtSaid :=
  OpenClaim.holds_of_wide 4 Tryd.f4 rfl rfl rfl rfl rfl rfl rfl ⟨rfl, rfl, rfl, rfl, rfl⟩ rfl rfl rfl rfl rfl (by kernel_rfl) Tryd.func4 (by kernel_rfl)
    (of_decide_eq_true (by kernel_rfl)) (by unfold Func.isWrapper; first | (rw [if_pos (by decide +kernel)]; kernel_rfl) | (rw [if_neg (by decide +kernel)]; exact ⟨rfl, rfl⟩))
    (fun os started H enc _ => viewAt_lifted os started H enc)

theorem viewAt_holds : Rows.ViewAtCardSaid :=
  Claim7.holds_tied_plain_at .later [] [.data, .data, .data, .data, .pinned] true Rows.viewAtCard.stood.harness false
    viewAt_row (fun _ h => by cases h) (by kernel_rfl) (fun _ h => by cases h) viewAt_row_tie rfl ⟨rfl, rfl⟩ (by kernel_rfl) rfl
    (fun f fn hf hfn => by
      obtain rfl : f = 4 := Option.some.inj ((show Tryd.prog.funcNamed "arbour/arbourlaw11.ViewAt" = some 4 by kernel_rfl).symm.trans hf) |>.symm
      obtain rfl : fn = Tryd.f4 := (Option.some.inj (Tryd.func4.symm.trans hfn)).symm
      exact ⟨by kernel_rfl, fun j t ht => by
        rw [Tryd.params4] at ht
        have hm : t ∈ [25, 9] := by simpa using Array.mem_of_getElem? ht
        have hall : ([25, 9].all fun u => !Tryd.prog.wantsStandIn u) = true := by kernel_rfl
        exact (show Tryd.prog.wantsStandIn t = false by simpa using List.all_eq_true.1 hall t hm)⟩)
    (by kernel_rfl)
#print axioms viewAt_holds
end Go.Proofs.YtfbdbjookkogjaaDoor
