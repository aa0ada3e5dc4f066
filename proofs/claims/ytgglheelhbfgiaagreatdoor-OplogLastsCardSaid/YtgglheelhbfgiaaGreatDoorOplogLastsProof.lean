/-
  OplogLasts returns true for any adds, any acts and any keeps. Condition: none beside the own reach of the form.
-/
import Derived.Test.YtgglheelhbfgiaaGreatDoorMg29
import Derived.Test.YtgglheelhbfgiaaGreatDoorMg30
import Derived.SevenTiedAt
namespace Go.Proofs.YtgglheelhbfgiaaGreatDoor
open Go Go.RowKit Go.ChangeShapes Go.WideShapes Go.ChangeAt

set_option maxRecDepth 100000 in
theorem oplogLasts_lifted (os : Os) (started : os.Started) (H : Type) (enc : TypeId × Value → H) :
    ReturnsInHanded {} Tryz.checked os 8 .any (fun w args => (Rows.oplogLastsSpec.pre enc Tryz.prog Tryz.f8 [] false w args ∧ laidMetH Tryz.prog Rows.oplogLastsRow.laid w) ∧ sizedMet enc Tryz.prog Tryz.f8 (OpenSpec.ofChange Rows.oplogLastsSpec) false w args)
      (Rows.oplogLastsSpec.post enc Tryz.prog Tryz.f8 false true false false) := by
  refine lifted_of_contract (C := Tryz.checked) (laid := Rows.oplogLastsRow.laid) (t4 := 4) own started (by kernel_rfl) Tryz.func8 rfl laidOut (by rw [Tryz.params8]; decide +kernel) (by kernel_rfl) Tryz.underlying4 ?_
    (ChangeSpec.witness_shaped (enc := enc) (C := Tryz.checked) (os := os) (X := fun w _ => laidMetH Tryz.prog Rows.oplogLastsRow.laid w) false (World.laidAll Tryz.prog os Rows.oplogLastsRow.laid) #[.slice none 0 0, .slice none 0 0, .slice none 0 0] 8 (World.laidAll_os _ _ _)
      (World.shaped_of_ZipB (by kernel_rfl) (by kernel_rfl)) (by kernel_rfl) (by kernel_rfl) (by kernel_rfl)
      (by rw [MakeChecks.laidMetH_plain _ _ _ (by kernel_rfl)]; exact laidMet_laidAll _ (by kernel_rfl) (by kernel_rfl))) ?_
  · intro ds hl
    rw [Tryz.params8] at hl
    match ds, hl with
    | [d0, d1, d2], _ => rfl
  · intro W base args ds p hval hA hlt hsz hL
    rw [Tryz.params8] at hA hval hsz
    obtain ⟨v0, v1, v2, d0, d1, d2, p0, p1, p2, hargs, rfl, rfl, h0, h1, h2⟩ := trodAll_three hA
    obtain ⟨a0, c0, x0, rfl, hr0, hq0, hc0, hl0, hn0⟩ := arg_addvs (j := 0) Tryz.underlying71 (by kernel_rfl) (by kernel_rfl) Tryz.underlying9 Tryz.underlying3 Tryz.underlying4 Tryz.underlying23 Tryz.underlying68 (by kernel_rfl) (by kernel_rfl) (by kernel_rfl) (by kernel_rfl) (hval 0 71 v0 rfl (by simp [hargs])) h0 (fun x hx => hlt x (by simp [hx])) hsz rfl rfl
    obtain ⟨a1, c1, x1, rfl, hr1, hc1, hl1, hn1⟩ := arg_ints (j := 1) Tryz.underlying55 Tryz.underlying3 (by kernel_rfl) (by kernel_rfl) (hval 1 55 v1 rfl (by simp [hargs])) h1 (fun x hx => hlt x (by simp [hx])) hsz rfl rfl
    obtain ⟨a2, c2, x2, rfl, hr2, hc2, hl2, hn2⟩ := arg_ints (j := 2) Tryz.underlying55 Tryz.underlying3 (by kernel_rfl) (by kernel_rfl) (hval 2 55 v2 rfl (by simp [hargs])) h2 (fun x hx => hlt x (by simp [hx])) hsz rfl rfl
    obtain rfl : args = #[.slice a0 x0.length c0, .slice a1 x1.length c1, .slice a2 x2.length c2] := by cases args; simp_all
    exact law_oplogLasts a0 c0 x0 a1 c1 x1 a2 c2 x2 W (Nat.le_trans (Nat.le_mul_of_pos_right _ (by decide +kernel)) hl0) ⟨hr0, hq0⟩ (Nat.le_trans (Nat.le_mul_of_pos_right _ (by decide +kernel)) hl1) hr1 (Nat.le_trans (Nat.le_mul_of_pos_right _ (by decide +kernel)) hl2) hr2 (tab_of_laid (.tail _ (.tail _ (.head _))) (by kernel_rfl) hL)

theorem oplogLasts_row : Rows.OplogLastsSaid :=
  OpenClaim.holds_of_wide 8 Tryz.f8 rfl rfl rfl rfl rfl rfl rfl ⟨rfl, rfl, rfl, rfl, rfl⟩ rfl rfl rfl rfl rfl (by kernel_rfl) Tryz.func8 (by kernel_rfl)
    (of_decide_eq_true (by kernel_rfl)) (by unfold Func.isWrapper; first | (rw [if_pos (by decide +kernel)]; kernel_rfl) | (rw [if_neg (by decide +kernel)]; exact ⟨rfl, rfl⟩))
    (fun os started H enc _ => oplogLasts_lifted os started H enc)

theorem oplogLasts_holds : Rows.OplogLastsCardSaid :=
  Claim7.holds_tied_plain_at .later [] [.data, .data, .data, .data, .pinned] true Rows.oplogLastsCard.stood.harness true
    oplogLasts_row (fun _ h => by cases h) (by kernel_rfl) (fun _ h => by cases h) oplogLasts_row_tie rfl ⟨rfl, rfl⟩ (by kernel_rfl) rfl
    (fun f fn hf hfn => by
      obtain rfl : f = 8 := Option.some.inj ((show Tryz.prog.funcNamed "arbour/arbourlaw18.OplogLasts" = some 8 by kernel_rfl).symm.trans hf) |>.symm
      obtain rfl : fn = Tryz.f8 := (Option.some.inj (Tryz.func8.symm.trans hfn)).symm
      exact ⟨by kernel_rfl, fun j t ht => by
        rw [Tryz.params8] at ht
        have hm : t ∈ [71, 55, 55] := by simpa using Array.mem_of_getElem? ht
        have hall : ([71, 55, 55].all fun u => !Tryz.prog.wantsStandIn u) = true := by kernel_rfl
        exact (show Tryz.prog.wantsStandIn t = false by simpa using List.all_eq_true.1 hall t hm)⟩)
    (by kernel_rfl)
#print axioms oplogLasts_holds
end Go.Proofs.YtgglheelhbfgiaaGreatDoor
