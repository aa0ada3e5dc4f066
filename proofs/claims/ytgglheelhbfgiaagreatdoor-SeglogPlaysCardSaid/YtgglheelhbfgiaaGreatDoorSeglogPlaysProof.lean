/-
  SeglogPlays returns true for any size of a disk and any calls. Condition: none beside the own reach of the form.
-/
import Derived.Test.YtgglheelhbfgiaaGreatDoorMg23
import Derived.SevenTiedAt
namespace Go.Proofs.YtgglheelhbfgiaaGreatDoor
open Go Go.RowKit Go.ChangeShapes Go.WideShapes Go.ChangeAt

set_option maxRecDepth 100000 in
theorem seglogPlays_lifted (os : Os) (started : os.Started) (H : Type) (enc : TypeId × Value → H) :
    ReturnsInHanded {} Tryz.checked os 5 .any (fun w args => (Rows.seglogPlaysSpec.pre enc Tryz.prog Tryz.f5 [] false w args ∧ laidMetH Tryz.prog Rows.seglogPlaysRow.laid w) ∧ sizedMet enc Tryz.prog Tryz.f5 (OpenSpec.ofChange Rows.seglogPlaysSpec) false w args)
      (Rows.seglogPlaysSpec.post enc Tryz.prog Tryz.f5 false true false false) := by
  refine lifted_of_contract (C := Tryz.checked) (laid := Rows.seglogPlaysRow.laid) (t4 := 4) own started (by kernel_rfl) Tryz.func5 rfl laidOut (by rw [Tryz.params5]; decide +kernel) (by kernel_rfl) Tryz.underlying4 ?_
    (ChangeSpec.witness_shaped (enc := enc) (C := Tryz.checked) (os := os) (X := fun w _ => laidMetH Tryz.prog Rows.seglogPlaysRow.laid w) false (World.laidAll Tryz.prog os Rows.seglogPlaysRow.laid) #[.int .i64 0, .slice none 0 0] 8 (World.laidAll_os _ _ _)
      (World.shaped_of_ZipB (by kernel_rfl) (by kernel_rfl)) (by kernel_rfl) (by kernel_rfl) (by kernel_rfl)
      (by rw [MakeChecks.laidMetH_plain _ _ _ (by kernel_rfl)]; exact laidMet_laidAll _ (by kernel_rfl) (by kernel_rfl))) ?_
  · intro ds hl
    rw [Tryz.params5] at hl
    match ds, hl with
    | [d0, d1], _ => rfl
  · intro W base args ds p hval hA hlt hsz hL
    rw [Tryz.params5] at hA hval hsz
    obtain ⟨v0, v1, d0, d1, p0, p1, hargs, rfl, rfl, h0, h1⟩ := trodAll_two hA
    obtain ⟨n0, rfl, hn0, hm0⟩ := arg_int Tryz.underlying3 (hval 0 3 v0 rfl (by simp [hargs])) h0
    obtain ⟨a1, c1, x1, rfl, hr1, hq1, hc1, hl1, hn1⟩ := arg_opvs (j := 1) Tryz.underlying36 (by kernel_rfl) (by kernel_rfl) Tryz.underlying9 Tryz.underlying3 Tryz.underlying4 Tryz.underlying23 (by kernel_rfl) (by kernel_rfl) (hval 1 36 v1 rfl (by simp [hargs])) h1 (fun x hx => hlt x (by simp [hx])) hsz rfl rfl
    obtain rfl : args = #[.int .i64 n0, .slice a1 x1.length c1] := by cases args; simp_all
    exact law_seglogPlays n0 a1 c1 x1 W hn0 hm0 (Nat.le_trans (Nat.le_mul_of_pos_right _ (by decide +kernel)) hl1) ⟨hr1, hq1⟩ (tab_of_laid (.tail _ (.tail _ (.head _))) (by kernel_rfl) hL)

theorem seglogPlays_row : Rows.SeglogPlaysSaid :=
  OpenClaim.holds_of_wide 5 Tryz.f5 rfl rfl rfl rfl rfl rfl rfl ⟨rfl, rfl, rfl, rfl, rfl⟩ rfl rfl rfl rfl rfl (by kernel_rfl) Tryz.func5 (by kernel_rfl)
    (of_decide_eq_true (by kernel_rfl)) (by unfold Func.isWrapper; first | (rw [if_pos (by decide +kernel)]; kernel_rfl) | (rw [if_neg (by decide +kernel)]; exact ⟨rfl, rfl⟩))
    (fun os started H enc _ => seglogPlays_lifted os started H enc)

theorem seglogPlays_holds : Rows.SeglogPlaysCardSaid :=
  Claim7.holds_tied_plain_at .later [] [.data, .data, .data] true Rows.seglogPlaysCard.stood.harness true
    seglogPlays_row (fun _ h => by cases h) (by kernel_rfl) (fun _ h => by cases h) seglogPlays_row_tie rfl ⟨rfl, rfl⟩ (by kernel_rfl) rfl
    (fun f fn hf hfn => by
      obtain rfl : f = 5 := Option.some.inj ((show Tryz.prog.funcNamed "arbour/arbourlaw16.SeglogPlays" = some 5 by kernel_rfl).symm.trans hf) |>.symm
      obtain rfl : fn = Tryz.f5 := (Option.some.inj (Tryz.func5.symm.trans hfn)).symm
      exact ⟨by kernel_rfl, fun j t ht => by
        rw [Tryz.params5] at ht
        have hm : t ∈ [3, 36] := by simpa using Array.mem_of_getElem? ht
        have hall : ([3, 36].all fun u => !Tryz.prog.wantsStandIn u) = true := by kernel_rfl
        exact (show Tryz.prog.wantsStandIn t = false by simpa using List.all_eq_true.1 hall t hm)⟩)
    (by kernel_rfl)
#print axioms seglogPlays_holds
end Go.Proofs.YtgglheelhbfgiaaGreatDoor
