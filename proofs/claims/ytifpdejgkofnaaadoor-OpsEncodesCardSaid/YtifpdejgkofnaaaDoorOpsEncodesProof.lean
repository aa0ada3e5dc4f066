/-
  OpsEncodes returns true for every operation. Condition: none beside the own reach of the form.
-/
import Derived.Test.YtifpdejgkofnaaaDoorOpsW16
import Derived.Test.YtifpdejgkofnaaaDoorOpsArgs
import Derived.Test.YtifpdejgkofnaaaDoorOwn
import Derived.SevenTiedAt
namespace Go.Proofs.YtifpdejgkofnaaaDoor
open Go Go.RowKit Go.ChangeShapes Go.WideShapes Go.ChangeAt

set_option maxRecDepth 100000 in
theorem opsEncodes_lifted (os : Os) (started : os.Started) (H : Type) (enc : TypeId × Value → H) :
    ReturnsInHanded {} Tryd.checked os 10 .any (fun w args => (Rows.opsEncodesSpec.pre enc Tryd.prog Tryd.f10 [] false w args ∧ laidMetH Tryd.prog Rows.opsEncodesRow.laid w) ∧ sizedMet enc Tryd.prog Tryd.f10 (OpenSpec.ofChange Rows.opsEncodesSpec) false w args)
      (Rows.opsEncodesSpec.post enc Tryd.prog Tryd.f10 false true false false) := by
  refine lifted_of_contract (C := Tryd.checked) (laid := Rows.opsEncodesRow.laid) (t4 := 4) own started (by kernel_rfl) Tryd.func10 rfl laidOut (by rw [Tryd.params10]; decide +kernel) (by kernel_rfl) Tryd.underlying4 ?_
    (ChangeSpec.witness_shaped (enc := enc) (C := Tryd.checked) (os := os) (X := fun w _ => laidMetH Tryd.prog Rows.opsEncodesRow.laid w) false (World.laidAll Tryd.prog os Rows.opsEncodesRow.laid) #[.agg #[.int .i64 0, .int .i64 0, .int .i64 0, .int .i64 0, .int .i64 0, .int .i64 0, .bool false, .int .i64 0, .int .i64 0, .string ByteArray.empty, .string ByteArray.empty]] 8 (World.laidAll_os _ _ _)
      (World.shaped_of_ZipB (by kernel_rfl) (by kernel_rfl)) (by kernel_rfl) (by kernel_rfl) (by kernel_rfl)
      (by rw [MakeChecks.laidMetH_plain _ _ _ (by kernel_rfl)]; exact laidMet_laidAll _ (by kernel_rfl) (by kernel_rfl))) ?_
  · intro ds hl
    rw [Tryd.params10] at hl
    match ds, hl with
    | [d0], _ => rfl
  · intro W base args ds p hval hA hlt hsz _
    rw [Tryd.params10] at hA hval hsz
    obtain ⟨v0, d0, hargs, rfl, h0⟩ := trodAll_one hA
    obtain ⟨x0, rfl⟩ := arg_op (i := 3) (b := 4) (s := 9) Tryd.underlying25 (by kernel_rfl) (by kernel_rfl) Tryd.underlying9 Tryd.underlying3 Tryd.underlying4 (hval 0 25 v0 rfl (by simp [hargs])) h0
    obtain rfl : args = #[.agg (Opr.cells x0).toArray] := by cases args; simp_all
    exact law_opsEncodes x0 W 

theorem opsEncodes_row : Rows.OpsEncodesSaid :=
  OpenClaim.holds_of_wide 10 Tryd.f10 rfl rfl rfl rfl rfl rfl rfl ⟨rfl, rfl, rfl, rfl, rfl⟩ rfl rfl rfl rfl rfl (by kernel_rfl) Tryd.func10 (by kernel_rfl)
    (of_decide_eq_true (by kernel_rfl)) (by unfold Func.isWrapper; first | (rw [if_pos (by decide +kernel)]; kernel_rfl) | (rw [if_neg (by decide +kernel)]; exact ⟨rfl, rfl⟩))
    (fun os started H enc _ => opsEncodes_lifted os started H enc)

theorem opsEncodes_holds : Rows.OpsEncodesCardSaid :=
  Claim7.holds_tied_plain_at .later [] [.data, .pinned] true Rows.opsEncodesCard.stood.harness false
    opsEncodes_row (fun _ h => by cases h) (by kernel_rfl) (fun _ h => by cases h) opsEncodes_row_tie rfl ⟨rfl, rfl⟩ (by kernel_rfl) rfl
    (fun f fn hf hfn => by
      obtain rfl : f = 10 := Option.some.inj ((show Tryd.prog.funcNamed "arbour/arbourlaw06.OpsEncodes" = some 10 by kernel_rfl).symm.trans hf) |>.symm
      obtain rfl : fn = Tryd.f10 := (Option.some.inj (Tryd.func10.symm.trans hfn)).symm
      exact ⟨by kernel_rfl, fun j t ht => by
        rw [Tryd.params10] at ht
        have hm : t ∈ [25] := by simpa using Array.mem_of_getElem? ht
        have hall : ([25].all fun u => !Tryd.prog.wantsStandIn u) = true := by kernel_rfl
        exact (show Tryd.prog.wantsStandIn t = false by simpa using List.all_eq_true.1 hall t hm)⟩)
    (by kernel_rfl)
#print axioms opsEncodes_holds
end Go.Proofs.YtifpdejgkofnaaaDoor
