/-
  LayNil returns true for every kind. Condition: none beside the own reach of the form.
-/
import Derived.Test.YtnglplmkiamhbaaDoorLayNil
import Derived.Test.YtnglplmkiamhbaaDoorFrame
import Derived.Test.YtnglplmkiamhbaaDoorOwn
import Derived.SevenTiedAt
namespace Go.Proofs.YtnglplmkiamhbaaDoor
open Go Go.RowKit Go.ChangeShapes Go.WideShapes Go.ChangeAt

set_option maxRecDepth 100000 in
theorem layNil_lifted (os : Os) (started : os.Started) (H : Type) (enc : TypeId × Value → H) :
    ReturnsInHanded {} Tryd.checked os 3 .any (fun w args => (Rows.layNilSpec.pre enc Tryd.prog Tryd.f3 [] false w args ∧ laidMetH Tryd.prog Rows.layNilRow.laid w) ∧ sizedMet enc Tryd.prog Tryd.f3 (OpenSpec.ofChange Rows.layNilSpec) false w args)
      (Rows.layNilSpec.post enc Tryd.prog Tryd.f3 false true false false) := by
  refine lifted_of_contract (C := Tryd.checked) (laid := Rows.layNilRow.laid) (t4 := 4) own started (by kernel_rfl) Tryd.func3 rfl laidOut (by rw [Tryd.params3]; decide +kernel) (by kernel_rfl) Tryd.underlying4 ?_
    (ChangeSpec.witness_shaped (enc := enc) (C := Tryd.checked) (os := os) (X := fun w _ => laidMetH Tryd.prog Rows.layNilRow.laid w) false (World.laidAll Tryd.prog os Rows.layNilRow.laid) #[.int .i64 0] 8 (World.laidAll_os _ _ _)
      (World.shaped_of_ZipB (by kernel_rfl) (by kernel_rfl)) (by kernel_rfl) (by kernel_rfl) (by kernel_rfl)
      (by rw [MakeChecks.laidMetH_plain _ _ _ (by kernel_rfl)]; exact laidMet_laidAll _ (by kernel_rfl) (by kernel_rfl))) ?_
  · intro ds hl
    rw [Tryd.params3] at hl
    match ds, hl with
    | [d0], _ => rfl
  · intro W base args ds p hval hA hlt hsz _
    rw [Tryd.params3] at hA hval hsz
    obtain ⟨v0, d0, hargs, rfl, h0⟩ := trodAll_one hA
    obtain ⟨n0, rfl, hn0, hm0⟩ := arg_int Tryd.underlying3 (hval 0 3 v0 rfl (by simp [hargs])) h0
    obtain rfl : args = #[.int .i64 n0] := by cases args; simp_all
    exact law_layNil n0 W hn0 hm0

theorem layNil_row : Rows.LayNilSaid :=
  OpenClaim.holds_of_wide 3 Tryd.f3 rfl rfl rfl rfl rfl rfl rfl ⟨rfl, rfl, rfl, rfl, rfl⟩ rfl rfl rfl rfl rfl (by kernel_rfl) Tryd.func3 (by kernel_rfl)
    (of_decide_eq_true (by kernel_rfl)) (by unfold Func.isWrapper; first | (rw [if_pos (by decide +kernel)]; kernel_rfl) | (rw [if_neg (by decide +kernel)]; exact ⟨rfl, rfl⟩))
    (fun os started H enc _ => layNil_lifted os started H enc)

theorem layNil_holds : Rows.LayNilCardSaid :=
  Claim7.holds_tied_plain_at .later [] [.data, .pinned] true Rows.layNilCard.stood.harness false
    layNil_row (fun _ h => by cases h) (by kernel_rfl) (fun _ h => by cases h) layNil_row_tie rfl ⟨rfl, rfl⟩ (by kernel_rfl) rfl
    (fun f fn hf hfn => by
      obtain rfl : f = 3 := Option.some.inj ((show Tryd.prog.funcNamed "arbour/arbourlaw21.LayNil" = some 3 by kernel_rfl).symm.trans hf) |>.symm
      obtain rfl : fn = Tryd.f3 := (Option.some.inj (Tryd.func3.symm.trans hfn)).symm
      exact ⟨by kernel_rfl, fun j t ht => by
        rw [Tryd.params3] at ht
        have hm : t ∈ [3] := by simpa using Array.mem_of_getElem? ht
        have hall : ([3].all fun u => !Tryd.prog.wantsStandIn u) = true := by kernel_rfl
        exact (show Tryd.prog.wantsStandIn t = false by simpa using List.all_eq_true.1 hall t hm)⟩)
    (by kernel_rfl)
#print axioms layNil_holds
end Go.Proofs.YtnglplmkiamhbaaDoor
