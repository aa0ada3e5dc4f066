/-
  SessionEncodes returns true for every message.
-/
import Derived.Test.YtaimbhphepopmaaDoorSessGL
import Derived.Test.YtaimbhphepopmaaDoorOwn
import Derived.SevenTiedAt
namespace Go.Proofs.YtaimbhphepopmaaDoor
open Go Go.RowKit Go.ChangeShapes Go.WideShapes Go.ChangeAt

set_option maxRecDepth 100000 in
theorem sessionEncodes_lifted (os : Os) (started : os.Started) (H : Type) (enc : TypeId × Value → H) :
    ReturnsInHanded {} Tryd.checked os 3 .any (fun w args => (Rows.sessionEncodesSpec.pre enc Tryd.prog Tryd.f3 [] false w args ∧ laidMetH Tryd.prog Rows.sessionEncodesRow.laid w) ∧ sizedMet enc Tryd.prog Tryd.f3 (OpenSpec.ofChange Rows.sessionEncodesSpec) false w args)
      (Rows.sessionEncodesSpec.post enc Tryd.prog Tryd.f3 false true false false) := by
  refine lifted_of_contract (C := Tryd.checked) (laid := Rows.sessionEncodesRow.laid) (t4 := 4) own started (by kernel_rfl) Tryd.func3 rfl laidOut (by rw [Tryd.params3]; decide +kernel) (by kernel_rfl) Tryd.underlying4 ?_
    (ChangeSpec.witness_shaped (enc := enc) (C := Tryd.checked) (os := os) (X := fun w _ => laidMetH Tryd.prog Rows.sessionEncodesRow.laid w) false (World.laidAll Tryd.prog os Rows.sessionEncodesRow.laid) #[.agg #[.int .i64 0, .slice none 0 0, .slice none 0 0, .slice none 0 0, .slice none 0 0]] 8 (World.laidAll_os _ _ _)
      (World.shaped_of_ZipB (by kernel_rfl) (by kernel_rfl)) (by kernel_rfl) (by kernel_rfl) (by kernel_rfl)
      (by rw [MakeChecks.laidMetH_plain _ _ _ (by kernel_rfl)]; exact laidMet_laidAll _ (by kernel_rfl) (by kernel_rfl))) ?_
  · intro ds hl
    rw [Tryd.params3] at hl
    match ds, hl with
    | [d0], _ => rfl
  · intro W base args ds p hval hA hlt hsz _
    rw [Tryd.params3] at hA hval hsz
    obtain ⟨v0, d0, hargs, rfl, h0⟩ := trodAll_one hA
    obtain ⟨kd0, av0, aw0, ao0, ap0, cv0, cw0, co0, cp0, vec0, wants0, ops0, pcs0, rfl, r10, r20, r30, r40⟩ := arg_msg (i := 3) (b := 4) (s := 9) (o := 45) (li := 22) (ls := 23) (lo := 24) Tryd.underlying26 (by kernel_rfl) (by kernel_rfl) Tryd.underlying9 Tryd.underlying3 Tryd.underlying4 Tryd.underlying22 Tryd.underlying23 Tryd.underlying24 (by kernel_rfl) (by kernel_rfl) (by kernel_rfl) (by kernel_rfl) (by kernel_rfl) (by kernel_rfl) (hval 0 26 v0 rfl (by simp [hargs])) h0 hlt
    obtain rfl : args = #[.agg #[.int .i64 kd0, .slice av0 vec0.length cv0, .slice aw0 wants0.length cw0, .slice ao0 ops0.length co0, .slice ap0 pcs0.length cp0]] := by cases args; simp_all
    exact law_sessionEncodes kd0 av0 aw0 ao0 ap0 cv0 cw0 co0 cp0 vec0 wants0 ops0 pcs0 W r10 r20 r30 r40

theorem sessionEncodes_row : Rows.SessionEncodesSaid :=
  OpenClaim.holds_of_wide 3 Tryd.f3 rfl rfl rfl rfl rfl rfl rfl ⟨rfl, rfl, rfl, rfl, rfl⟩ rfl rfl rfl rfl rfl (by kernel_rfl) Tryd.func3 (by kernel_rfl)
    (of_decide_eq_true (by kernel_rfl)) (by unfold Func.isWrapper; first | (rw [if_pos (by decide +kernel)]; kernel_rfl) | (rw [if_neg (by decide +kernel)]; exact ⟨rfl, rfl⟩))
    (fun os started H enc _ => sessionEncodes_lifted os started H enc)

theorem sessionEncodes_holds : Rows.SessionEncodesCardSaid :=
  Claim7.holds_tied_plain_at .later [] [.data, .pinned] true Rows.sessionEncodesCard.stood.harness false
    sessionEncodes_row (fun _ h => by cases h) (by kernel_rfl) (fun _ h => by cases h) sessionEncodes_row_tie rfl ⟨rfl, rfl⟩ (by kernel_rfl) rfl
    (fun f fn hf hfn => by
      obtain rfl : f = 3 := Option.some.inj ((show Tryd.prog.funcNamed "arbour/arbourlaw23.SessionEncodes" = some 3 by kernel_rfl).symm.trans hf) |>.symm
      obtain rfl : fn = Tryd.f3 := (Option.some.inj (Tryd.func3.symm.trans hfn)).symm
      exact ⟨by kernel_rfl, fun j t ht => by
        rw [Tryd.params3] at ht
        have hm : t ∈ [26] := by simpa using Array.mem_of_getElem? ht
        have hall : ([26].all fun u => !Tryd.prog.wantsStandIn u) = true := by kernel_rfl
        exact (show Tryd.prog.wantsStandIn t = false by simpa using List.all_eq_true.1 hall t hm)⟩)
    (by kernel_rfl)
#print axioms sessionEncodes_holds
end Go.Proofs.YtaimbhphepopmaaDoor
