/-
  OpsBack returns true for every operation and every text. Condition: none beside the own reach of the form.
-/
import Derived.Test.YtifpdejgkofnaaaDoorOpsW18
import Derived.Test.YtifpdejgkofnaaaDoorOpsArgs
import Derived.Test.YtifpdejgkofnaaaDoorOwn
import Derived.SevenTiedAt
namespace Go.Proofs.YtifpdejgkofnaaaDoor
open Go Go.RowKit Go.ChangeShapes Go.WideShapes Go.ChangeAt

set_option maxRecDepth 100000 in
theorem opsBack_lifted (os : Os) (started : os.Started) (H : Type) (enc : TypeId × Value → H) :
    ReturnsInHanded {} Tryd.checked os 11 .any (fun w args => (Rows.opsBackSpec.pre enc Tryd.prog Tryd.f11 [] false w args ∧ laidMetH Tryd.prog Rows.opsBackRow.laid w) ∧ sizedMet enc Tryd.prog Tryd.f11 (OpenSpec.ofChange Rows.opsBackSpec) false w args)
      (Rows.opsBackSpec.post enc Tryd.prog Tryd.f11 false true false false) := by
  refine lifted_of_contract (C := Tryd.checked) (laid := Rows.opsBackRow.laid) (t4 := 4) own started (by kernel_rfl) Tryd.func11 rfl laidOut (by rw [Tryd.params11]; decide +kernel) (by kernel_rfl) Tryd.underlying4 ?_
    (ChangeSpec.witness_shaped (enc := enc) (C := Tryd.checked) (os := os) (X := fun w _ => laidMetH Tryd.prog Rows.opsBackRow.laid w) false (World.laidAll Tryd.prog os Rows.opsBackRow.laid) #[.agg #[.int .i64 0, .int .i64 0, .int .i64 0, .int .i64 0, .int .i64 0, .int .i64 0, .bool false, .int .i64 0, .int .i64 0, .string ByteArray.empty, .string ByteArray.empty], .string ByteArray.empty] 8 (World.laidAll_os _ _ _)
      (World.shaped_of_ZipB (by kernel_rfl) (by kernel_rfl)) (by kernel_rfl) (by kernel_rfl) (by kernel_rfl)
      (by rw [MakeChecks.laidMetH_plain _ _ _ (by kernel_rfl)]; exact laidMet_laidAll _ (by kernel_rfl) (by kernel_rfl))) ?_
  · intro ds hl
    rw [Tryd.params11] at hl
    match ds, hl with
    | [d0, d1], _ => rfl
  · intro W base args ds p hval hA hlt hsz _
    rw [Tryd.params11] at hA hval hsz
    obtain ⟨v0, v1, d0, d1, p0, p1, hargs, rfl, rfl, h0, h1⟩ := trodAll_two hA
    obtain ⟨x0, rfl⟩ := arg_op (i := 3) (b := 4) (s := 9) Tryd.underlying25 (by kernel_rfl) (by kernel_rfl) Tryd.underlying9 Tryd.underlying3 Tryd.underlying4 (hval 0 25 v0 rfl (by simp [hargs])) h0
    obtain ⟨s1, rfl, hs1⟩ := arg_string (j := 1) Tryd.underlying9 (hval 1 9 v1 rfl (by simp [hargs])) h1 hsz rfl rfl
    obtain rfl : args = #[.agg (Opr.cells x0).toArray, .string s1] := by cases args; simp_all
    exact law_opsBack x0 s1 W hs1

theorem opsBack_row : Rows.OpsBackSaid :=
  OpenClaim.holds_of_wide 11 Tryd.f11 rfl rfl rfl rfl rfl rfl rfl ⟨rfl, rfl, rfl, rfl, rfl⟩ rfl rfl rfl rfl rfl (by kernel_rfl) Tryd.func11 (by kernel_rfl)
    (of_decide_eq_true (by kernel_rfl)) (by unfold Func.isWrapper; first | (rw [if_pos (by decide +kernel)]; kernel_rfl) | (rw [if_neg (by decide +kernel)]; exact ⟨rfl, rfl⟩))
    (fun os started H enc _ => opsBack_lifted os started H enc)

theorem opsBack_holds : Rows.OpsBackCardSaid :=
  Claim7.holds_tied_plain_at .later [] [.data, .pinned] true Rows.opsBackCard.stood.harness false
    opsBack_row (fun _ h => by cases h) (by kernel_rfl) (fun _ h => by cases h) opsBack_row_tie rfl ⟨rfl, rfl⟩ (by kernel_rfl) rfl
    (fun f fn hf hfn => by
      obtain rfl : f = 11 := Option.some.inj ((show Tryd.prog.funcNamed "arbour/arbourlaw06.OpsBack" = some 11 by kernel_rfl).symm.trans hf) |>.symm
      obtain rfl : fn = Tryd.f11 := (Option.some.inj (Tryd.func11.symm.trans hfn)).symm
      exact ⟨by kernel_rfl, fun j t ht => by
        rw [Tryd.params11] at ht
        have hm : t ∈ [25, 9] := by simpa using Array.mem_of_getElem? ht
        have hall : ([25, 9].all fun u => !Tryd.prog.wantsStandIn u) = true := by kernel_rfl
        exact (show Tryd.prog.wantsStandIn t = false by simpa using List.all_eq_true.1 hall t hm)⟩)
    (by kernel_rfl)
#print axioms opsBack_holds
end Go.Proofs.YtifpdejgkofnaaaDoor
