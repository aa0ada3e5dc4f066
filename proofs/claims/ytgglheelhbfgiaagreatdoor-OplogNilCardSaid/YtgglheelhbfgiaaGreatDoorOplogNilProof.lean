/-
  OplogNil returns true for every device. Condition: none beside the own reach of the form.
-/
import Derived.Test.YtgglheelhbfgiaaGreatDoorMg27
import Derived.SevenTiedAt
namespace Go.Proofs.YtgglheelhbfgiaaGreatDoor
open Go Go.RowKit Go.ChangeShapes Go.WideShapes Go.ChangeAt

set_option maxRecDepth 100000 in
theorem oplogNil_lifted (os : Os) (started : os.Started) (H : Type) (enc : TypeId × Value → H) :
    ReturnsInHanded {} Tryz.checked os 7 .any (fun w args => (Rows.oplogNilSpec.pre enc Tryz.prog Tryz.f7 [] false w args ∧ laidMetH Tryz.prog Rows.oplogNilRow.laid w) ∧ sizedMet enc Tryz.prog Tryz.f7 (OpenSpec.ofChange Rows.oplogNilSpec) false w args)
      (Rows.oplogNilSpec.post enc Tryz.prog Tryz.f7 false true false false) := by
  refine lifted_of_contract (C := Tryz.checked) (laid := Rows.oplogNilRow.laid) (t4 := 4) own started (by kernel_rfl) Tryz.func7 rfl laidOut (by rw [Tryz.params7]; decide +kernel) (by kernel_rfl) Tryz.underlying4 ?_
    (ChangeSpec.witness_shaped (enc := enc) (C := Tryz.checked) (os := os) (X := fun w _ => laidMetH Tryz.prog Rows.oplogNilRow.laid w) false (World.laidAll Tryz.prog os Rows.oplogNilRow.laid) #[.int .i64 0] 8 (World.laidAll_os _ _ _)
      (World.shaped_of_ZipB (by kernel_rfl) (by kernel_rfl)) (by kernel_rfl) (by kernel_rfl) (by kernel_rfl)
      (by rw [MakeChecks.laidMetH_plain _ _ _ (by kernel_rfl)]; exact laidMet_laidAll _ (by kernel_rfl) (by kernel_rfl))) ?_
  · intro ds hl
    rw [Tryz.params7] at hl
    match ds, hl with
    | [d0], _ => rfl
  · intro W base args ds p hval hA hlt hsz hL
    rw [Tryz.params7] at hA hval hsz
    obtain ⟨v0, d0, hargs, rfl, h0⟩ := trodAll_one hA
    obtain ⟨n0, rfl, hn0, hm0⟩ := arg_int Tryz.underlying3 (hval 0 3 v0 rfl (by simp [hargs])) h0
    obtain rfl : args = #[.int .i64 n0] := by cases args; simp_all
    exact law_oplogNil n0 W hn0 hm0 (tab_of_laid (.tail _ (.tail _ (.head _))) (by kernel_rfl) hL)

theorem oplogNil_row : Rows.OplogNilSaid :=
  OpenClaim.holds_of_wide 7 Tryz.f7 rfl rfl rfl rfl rfl rfl rfl ⟨rfl, rfl, rfl, rfl, rfl⟩ rfl rfl rfl rfl rfl (by kernel_rfl) Tryz.func7 (by kernel_rfl)
    (of_decide_eq_true (by kernel_rfl)) (by unfold Func.isWrapper; first | (rw [if_pos (by decide +kernel)]; kernel_rfl) | (rw [if_neg (by decide +kernel)]; exact ⟨rfl, rfl⟩))
    (fun os started H enc _ => oplogNil_lifted os started H enc)

theorem oplogNil_holds : Rows.OplogNilCardSaid :=
  Claim7.holds_tied_plain_at .later [] [.data, .data, .data, .data, .pinned] true Rows.oplogNilCard.stood.harness true
    oplogNil_row (fun _ h => by cases h) (by kernel_rfl) (fun _ h => by cases h) oplogNil_row_tie rfl ⟨rfl, rfl⟩ (by kernel_rfl) rfl
    (fun f fn hf hfn => by
      obtain rfl : f = 7 := Option.some.inj ((show Tryz.prog.funcNamed "arbour/arbourlaw18.OplogNil" = some 7 by kernel_rfl).symm.trans hf) |>.symm
      obtain rfl : fn = Tryz.f7 := (Option.some.inj (Tryz.func7.symm.trans hfn)).symm
      exact ⟨by kernel_rfl, fun j t ht => by
        rw [Tryz.params7] at ht
        have hm : t ∈ [3] := by simpa using Array.mem_of_getElem? ht
        have hall : ([3].all fun u => !Tryz.prog.wantsStandIn u) = true := by kernel_rfl
        exact (show Tryz.prog.wantsStandIn t = false by simpa using List.all_eq_true.1 hall t hm)⟩)
    (by kernel_rfl)
#print axioms oplogNil_holds
end Go.Proofs.YtgglheelhbfgiaaGreatDoor
