/-
  SessionNearer returns true for all operations, whoever has some of them.
-/
import Derived.Test.YtlenpifjkbcmdaaGreatDoorNearG
import Derived.Test.YtlenpifjkbcmdaaGreatDoorArgG
import Derived.Test.YtlenpifjkbcmdaaGreatDoorOwn
import Derived.SevenTiedAt
namespace Go.Proofs.YtlenpifjkbcmdaaGreatDoor
open Go Go.RowKit Go.ChangeShapes Go.WideShapes Go.ChangeAt

set_option maxRecDepth 100000 in
theorem sessionNearer_lifted (os : Os) (started : os.Started) (H : Type) (enc : TypeId × Value → H) :
    ReturnsInHanded {} Tryz.checked os 3 .any (fun w args => (Rows.sessionNearerSpec.pre enc Tryz.prog Tryz.f3 [] false w args ∧ laidMetH Tryz.prog Rows.sessionNearerRow.laid w) ∧ sizedMet enc Tryz.prog Tryz.f3 (OpenSpec.ofChange Rows.sessionNearerSpec) false w args)
      (Rows.sessionNearerSpec.post enc Tryz.prog Tryz.f3 false true false false) := by
  refine lifted_of_contract (C := Tryz.checked) (laid := Rows.sessionNearerRow.laid) (t4 := 4) own started (by kernel_rfl) Tryz.func3 rfl laidOut (by rw [Tryz.params3]; decide +kernel) (by kernel_rfl) Tryz.underlying4 ?_
    (ChangeSpec.witness_shaped (enc := enc) (C := Tryz.checked) (os := os) (X := fun w _ => laidMetH Tryz.prog Rows.sessionNearerRow.laid w) false (World.laidAll Tryz.prog os Rows.sessionNearerRow.laid) #[.slice none 0 0, .slice none 0 0] 8 (World.laidAll_os _ _ _)
      (World.shaped_of_ZipB (by kernel_rfl) (by kernel_rfl)) (by kernel_rfl) (by kernel_rfl) (by kernel_rfl)
      (by rw [MakeChecks.laidMetH_plain _ _ _ (by kernel_rfl)]; exact laidMet_laidAll _ (by kernel_rfl) (by kernel_rfl))) ?_
  · intro ds hl
    rw [Tryz.params3] at hl
    match ds, hl with
    | [d0, d1], _ => rfl
  · intro W base args ds p hval hA hlt hsz _
    rw [Tryz.params3] at hA hval hsz
    obtain ⟨v0, v1, d0, d1, p0, p1, hargs, rfl, rfl, h0, h1⟩ := trodAll_two hA
    obtain ⟨a0, c0, l0, rfl, hr0, hc0, hl0, hn0, hw0⟩ := arg_ops2 (j := 0) (i := 3) (b := 4) (s := 9) Tryz.underlying22 (by kernel_rfl) (by kernel_rfl) (by kernel_rfl) Tryz.underlying9 Tryz.underlying3 Tryz.underlying4 (hval 0 22 v0 rfl (by simp [hargs])) h0 (fun x hx => hlt x (by simp [hx])) hsz rfl rfl
    obtain ⟨a1, c1, l1, rfl, hr1, hc1, hl1, hn1⟩ := arg_bools (j := 1) Tryz.underlying23 Tryz.underlying4 (by kernel_rfl) (by kernel_rfl) (hval 1 23 v1 rfl (by simp [hargs])) h1 (fun x hx => hlt x (by simp [hx])) hsz rfl rfl
    obtain rfl : args = #[.slice a0 l0.length c0, .slice a1 l1.length c1] := by cases args; simp_all
    exact law_sessionNearer a0 c0 l0 a1 c1 l1 W hr0 hl0 hr1

theorem sessionNearer_row : Rows.SessionNearerSaid :=
  OpenClaim.holds_of_wide 3 Tryz.f3 rfl rfl rfl rfl rfl rfl rfl ⟨rfl, rfl, rfl, rfl, rfl⟩ rfl rfl rfl rfl rfl (by kernel_rfl) Tryz.func3 (by kernel_rfl)
    (of_decide_eq_true (by kernel_rfl)) (by unfold Func.isWrapper; first | (rw [if_pos (by decide +kernel)]; kernel_rfl) | (rw [if_neg (by decide +kernel)]; exact ⟨rfl, rfl⟩))
    (fun os started H enc _ => sessionNearer_lifted os started H enc)

theorem sessionNearer_holds : Rows.SessionNearerCardSaid :=
  Claim7.holds_tied_plain_at .later [] [.data, .pinned] true Rows.sessionNearerCard.stood.harness false
    sessionNearer_row (fun _ h => by cases h) (by kernel_rfl) (fun _ h => by cases h) sessionNearer_row_tie rfl ⟨rfl, rfl⟩ (by kernel_rfl) rfl
    (fun f fn hf hfn => by
      obtain rfl : f = 3 := Option.some.inj ((show Tryz.prog.funcNamed "arbour/arbourlaw23.SessionNearer" = some 3 by kernel_rfl).symm.trans hf) |>.symm
      obtain rfl : fn = Tryz.f3 := (Option.some.inj (Tryz.func3.symm.trans hfn)).symm
      exact ⟨by kernel_rfl, fun j t ht => by
        rw [Tryz.params3] at ht
        have hm : t ∈ [22, 23] := by simpa using Array.mem_of_getElem? ht
        have hall : ([22, 23].all fun u => !Tryz.prog.wantsStandIn u) = true := by kernel_rfl
        exact (show Tryz.prog.wantsStandIn t = false by simpa using List.all_eq_true.1 hall t hm)⟩)
    (by kernel_rfl)
#print axioms sessionNearer_holds
end Go.Proofs.YtlenpifjkbcmdaaGreatDoor
