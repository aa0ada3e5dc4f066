/-
  SeglogLasts returns true for any records, any acts and any keeps. Condition: none beside the own reach of the form.
-/
import Derived.Test.YtgglheelhbfgiaaGreatDoorSegL7
import Derived.Test.YtgglheelhbfgiaaGreatDoorSegFrame
import Derived.SevenTiedAt
namespace Go.Proofs.YtgglheelhbfgiaaGreatDoor
open Go Go.RowKit Go.ChangeShapes Go.WideShapes Go.ChangeAt

set_option maxRecDepth 100000 in
theorem seglogLasts_lifted (os : Os) (started : os.Started) (H : Type) (enc : TypeId × Value → H) :
    ReturnsInHanded {} Tryz.checked os 6 .any (fun w args => (Rows.seglogLastsSpec.pre enc Tryz.prog Tryz.f6 [] false w args ∧ laidMetH Tryz.prog Rows.seglogLastsRow.laid w) ∧ sizedMet enc Tryz.prog Tryz.f6 (OpenSpec.ofChange Rows.seglogLastsSpec) false w args)
      (Rows.seglogLastsSpec.post enc Tryz.prog Tryz.f6 false true false false) := by
  refine lifted_of_contract (C := Tryz.checked) (laid := Rows.seglogLastsRow.laid) (t4 := 4) own started (by kernel_rfl) Tryz.func6 rfl laidOut (by rw [Tryz.params6]; decide +kernel) (by kernel_rfl) Tryz.underlying4 ?_
    (ChangeSpec.witness_shaped (enc := enc) (C := Tryz.checked) (os := os) (X := fun w _ => laidMetH Tryz.prog Rows.seglogLastsRow.laid w) false (World.laidAll Tryz.prog os Rows.seglogLastsRow.laid) #[.slice none 0 0, .slice none 0 0, .slice none 0 0] 8 (World.laidAll_os _ _ _)
      (World.shaped_of_ZipB (by kernel_rfl) (by kernel_rfl)) (by kernel_rfl) (by kernel_rfl) (by kernel_rfl)
      (by rw [MakeChecks.laidMetH_plain _ _ _ (by kernel_rfl)]; exact laidMet_laidAll _ (by kernel_rfl) (by kernel_rfl))) ?_
  · intro ds hl
    rw [Tryz.params6] at hl
    match ds, hl with
    | [d0, d1, d2], _ => rfl
  · intro W base args ds p hval hA hlt hsz hL
    rw [Tryz.params6] at hA hval hsz
    obtain ⟨v0, v1, v2, d0, d1, d2, p0, p1, p2, hargs, rfl, rfl, h0, h1, h2⟩ := trodAll_three hA
    obtain ⟨a0, c0, x0, rfl, hr0, hl0⟩ := arg_strss (j := 0) (s := 9) Tryz.underlying54 (by kernel_rfl) Tryz.underlying23 Tryz.underlying9 (by kernel_rfl) (by kernel_rfl) (hval 0 54 v0 rfl (by simp [hargs])) h0 (fun x hx => hlt x (by simp [hx])) hsz rfl rfl
    obtain ⟨a1, c1, x1, rfl, hr1, hc1, hl1, hn1⟩ := arg_ints (j := 1) Tryz.underlying55 Tryz.underlying3 (by kernel_rfl) (by kernel_rfl) (hval 1 55 v1 rfl (by simp [hargs])) h1 (fun x hx => hlt x (by simp [hx])) hsz rfl rfl
    obtain ⟨a2, c2, x2, rfl, hr2, hc2, hl2, hn2⟩ := arg_ints (j := 2) Tryz.underlying55 Tryz.underlying3 (by kernel_rfl) (by kernel_rfl) (hval 2 55 v2 rfl (by simp [hargs])) h2 (fun x hx => hlt x (by simp [hx])) hsz rfl rfl
    obtain rfl : args = #[.slice a0 x0.length c0, .slice a1 x1.length c1, .slice a2 x2.length c2] := by cases args; simp_all
    exact law_seglogLasts a0 c0 x0 a1 c1 x1 a2 c2 x2 W (Nat.le_trans (Nat.le_mul_of_pos_right _ (by decide +kernel)) hl0) hr0 (Nat.le_trans (Nat.le_mul_of_pos_right _ (by decide +kernel)) hl1) hr1 (Nat.le_trans (Nat.le_mul_of_pos_right _ (by decide +kernel)) hl2) hr2 (tab_of_laid (.tail _ (.tail _ (.head _))) (by kernel_rfl) hL)

theorem seglogLasts_row : Rows.SeglogLastsSaid :=
  OpenClaim.holds_of_wide 6 Tryz.f6 rfl rfl rfl rfl rfl rfl rfl ⟨rfl, rfl, rfl, rfl, rfl⟩ rfl rfl rfl rfl rfl (by kernel_rfl) Tryz.func6 (by kernel_rfl)
    (of_decide_eq_true (by kernel_rfl)) (by unfold Func.isWrapper; first | (rw [if_pos (by decide +kernel)]; kernel_rfl) | (rw [if_neg (by decide +kernel)]; exact ⟨rfl, rfl⟩))
    (fun os started H enc _ => seglogLasts_lifted os started H enc)

theorem seglogLasts_holds : Rows.SeglogLastsCardSaid :=
  Claim7.holds_tied_plain_at .later [] [.data, .data, .data] true Rows.seglogLastsCard.stood.harness true
    seglogLasts_row (fun _ h => by cases h) (by kernel_rfl) (fun _ h => by cases h) seglogLasts_row_tie rfl ⟨rfl, rfl⟩ (by kernel_rfl) rfl
    (fun f fn hf hfn => by
      obtain rfl : f = 6 := Option.some.inj ((show Tryz.prog.funcNamed "arbour/arbourlaw16.SeglogLasts" = some 6 by kernel_rfl).symm.trans hf) |>.symm
      obtain rfl : fn = Tryz.f6 := (Option.some.inj (Tryz.func6.symm.trans hfn)).symm
      exact ⟨by kernel_rfl, fun j t ht => by
        rw [Tryz.params6] at ht
        have hm : t ∈ [54, 55, 55] := by simpa using Array.mem_of_getElem? ht
        have hall : ([54, 55, 55].all fun u => !Tryz.prog.wantsStandIn u) = true := by kernel_rfl
        exact (show Tryz.prog.wantsStandIn t = false by simpa using List.all_eq_true.1 hall t hm)⟩)
    (by kernel_rfl)
#print axioms seglogLasts_holds
end Go.Proofs.YtgglheelhbfgiaaGreatDoor
