/-
  SessionBack returns true for every message and every text.
-/
import Derived.Test.YtaimbhphepopmaaDoorSessGL
import Derived.Test.YtaimbhphepopmaaDoorOwn
import Derived.SevenTiedAt
namespace Go.Proofs.YtaimbhphepopmaaDoor
open Go Go.RowKit Go.ChangeShapes Go.WideShapes Go.ChangeAt

set_option maxRecDepth 100000 in
theorem sessionBack_lifted (os : Os) (started : os.Started) (H : Type) (enc : TypeId × Value → H) :
    ReturnsInHanded {} Tryd.checked os 5 .any (fun w args => (Rows.sessionBackSpec.pre enc Tryd.prog Tryd.f5 [] false w args ∧ laidMetH Tryd.prog Rows.sessionBackRow.laid w) ∧ sizedMet enc Tryd.prog Tryd.f5 (OpenSpec.ofChange Rows.sessionBackSpec) false w args)
      (Rows.sessionBackSpec.post enc Tryd.prog Tryd.f5 false true false false) := by
  refine lifted_of_contract (C := Tryd.checked) (laid := Rows.sessionBackRow.laid) (t4 := 4) own started (by kernel_rfl) Tryd.func5 rfl laidOut (by rw [Tryd.params5]; decide +kernel) (by kernel_rfl) Tryd.underlying4 ?_
    (ChangeSpec.witness_shaped (enc := enc) (C := Tryd.checked) (os := os) (X := fun w _ => laidMetH Tryd.prog Rows.sessionBackRow.laid w) false (World.laidAll Tryd.prog os Rows.sessionBackRow.laid) #[.agg #[.int .i64 0, .slice none 0 0, .slice none 0 0, .slice none 0 0, .slice none 0 0], .string ByteArray.empty] 8 (World.laidAll_os _ _ _)
      (World.shaped_of_ZipB (by kernel_rfl) (by kernel_rfl)) (by kernel_rfl) (by kernel_rfl) (by kernel_rfl)
      (by rw [MakeChecks.laidMetH_plain _ _ _ (by kernel_rfl)]; exact laidMet_laidAll _ (by kernel_rfl) (by kernel_rfl))) ?_
  · intro ds hl
    rw [Tryd.params5] at hl
    match ds, hl with
    | [d0, d1], _ => rfl
  · intro W base args ds p hval hA hlt hsz _
    rw [Tryd.params5] at hA hval hsz
    obtain ⟨v0, v1, d0, d1, p0, p1, hargs, rfl, rfl, h0, h1⟩ := trodAll_two hA
    obtain ⟨kd0, av0, aw0, ao0, ap0, cv0, cw0, co0, cp0, vec0, wants0, ops0, pcs0, rfl, r10, r20, r30, r40⟩ := arg_msg (i := 3) (b := 4) (s := 9) (o := 45) (li := 22) (ls := 23) (lo := 24) Tryd.underlying26 (by kernel_rfl) (by kernel_rfl) Tryd.underlying9 Tryd.underlying3 Tryd.underlying4 Tryd.underlying22 Tryd.underlying23 Tryd.underlying24 (by kernel_rfl) (by kernel_rfl) (by kernel_rfl) (by kernel_rfl) (by kernel_rfl) (by kernel_rfl) (hval 0 26 v0 rfl (by simp [hargs])) h0 (fun x hx => hlt x (by simp [hx]))
    obtain ⟨s1, rfl, hs1⟩ := arg_string (j := 1) Tryd.underlying9 (hval 1 9 v1 rfl (by simp [hargs])) h1 hsz rfl rfl
    obtain rfl : args = #[.agg #[.int .i64 kd0, .slice av0 vec0.length cv0, .slice aw0 wants0.length cw0, .slice ao0 ops0.length co0, .slice ap0 pcs0.length cp0], .string s1] := by cases args; simp_all
    exact law_sessionBack kd0 av0 aw0 ao0 ap0 cv0 cw0 co0 cp0 vec0 wants0 ops0 pcs0 s1 W r10 r20 r30 r40 hs1

theorem sessionBack_row : Rows.SessionBackSaid :=
  OpenClaim.holds_of_wide 5 Tryd.f5 rfl rfl rfl rfl rfl rfl rfl ⟨rfl, rfl, rfl, rfl, rfl⟩ rfl rfl rfl rfl rfl (by kernel_rfl) Tryd.func5 (by kernel_rfl)
    (of_decide_eq_true (by kernel_rfl)) (by unfold Func.isWrapper; first | (rw [if_pos (by decide +kernel)]; kernel_rfl) | (rw [if_neg (by decide +kernel)]; exact ⟨rfl, rfl⟩))
    (fun os started H enc _ => sessionBack_lifted os started H enc)

theorem sessionBack_holds : Rows.SessionBackCardSaid :=
  Claim7.holds_tied_plain_at .later [] [.data, .pinned] true Rows.sessionBackCard.stood.harness false
    sessionBack_row (fun _ h => by cases h) (by kernel_rfl) (fun _ h => by cases h) sessionBack_row_tie rfl ⟨rfl, rfl⟩ (by kernel_rfl) rfl
    (fun f fn hf hfn => by
      obtain rfl : f = 5 := Option.some.inj ((show Tryd.prog.funcNamed "arbour/arbourlaw23.SessionBack" = some 5 by kernel_rfl).symm.trans hf) |>.symm
      obtain rfl : fn = Tryd.f5 := (Option.some.inj (Tryd.func5.symm.trans hfn)).symm
      exact ⟨by kernel_rfl, fun j t ht => by
        rw [Tryd.params5] at ht
        have hm : t ∈ [26, 9] := by simpa using Array.mem_of_getElem? ht
        have hall : ([26, 9].all fun u => !Tryd.prog.wantsStandIn u) = true := by kernel_rfl
        exact (show Tryd.prog.wantsStandIn t = false by simpa using List.all_eq_true.1 hall t hm)⟩)
    (by kernel_rfl)
#print axioms sessionBack_holds
end Go.Proofs.YtaimbhphepopmaaDoor
