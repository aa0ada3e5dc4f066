/-
  OpsAdds returns true for all operations and every one that is added. Condition: none beside the own reach of the form.
-/
import Derived.Test.YtifpdejgkofnaaaDoorOpsW28
import Derived.Test.YtifpdejgkofnaaaDoorOpsArgs
import Derived.Test.YtifpdejgkofnaaaDoorOwn
import Derived.SevenTiedAt
namespace Go.Proofs.YtifpdejgkofnaaaDoor
open Go Go.RowKit Go.ChangeShapes Go.WideShapes Go.ChangeAt

set_option maxRecDepth 100000 in
theorem opsAdds_lifted (os : Os) (started : os.Started) (H : Type) (enc : TypeId × Value → H) :
    ReturnsInHanded {} Tryd.checked os 5 .any (fun w args => (Rows.opsAddsSpec.pre enc Tryd.prog Tryd.f5 [] false w args ∧ laidMetH Tryd.prog Rows.opsAddsRow.laid w) ∧ sizedMet enc Tryd.prog Tryd.f5 (OpenSpec.ofChange Rows.opsAddsSpec) false w args)
      (Rows.opsAddsSpec.post enc Tryd.prog Tryd.f5 false true false false) := by
  refine lifted_of_contract (C := Tryd.checked) (laid := Rows.opsAddsRow.laid) (t4 := 4) own started (by kernel_rfl) Tryd.func5 rfl laidOut (by rw [Tryd.params5]; decide +kernel) (by kernel_rfl) Tryd.underlying4 ?_
    (ChangeSpec.witness_shaped (enc := enc) (C := Tryd.checked) (os := os) (X := fun w _ => laidMetH Tryd.prog Rows.opsAddsRow.laid w) false (World.laidAll Tryd.prog os Rows.opsAddsRow.laid) #[.slice none 0 0, .agg #[.int .i64 0, .int .i64 0, .int .i64 0, .int .i64 0, .int .i64 0, .int .i64 0, .bool false, .int .i64 0, .int .i64 0, .string ByteArray.empty, .string ByteArray.empty]] 8 (World.laidAll_os _ _ _)
      (World.shaped_of_ZipB (by kernel_rfl) (by kernel_rfl)) (by kernel_rfl) (by kernel_rfl) (by kernel_rfl)
      (by rw [MakeChecks.laidMetH_plain _ _ _ (by kernel_rfl)]; exact laidMet_laidAll _ (by kernel_rfl) (by kernel_rfl))) ?_
  · intro ds hl
    rw [Tryd.params5] at hl
    match ds, hl with
    | [d0, d1], _ => rfl
  · intro W base args ds p hval hA hlt hsz _
    rw [Tryd.params5] at hA hval hsz
    obtain ⟨v0, v1, d0, d1, p0, p1, hargs, rfl, rfl, h0, h1⟩ := trodAll_two hA
    obtain ⟨a0, c0, l0, rfl, hr0, hc0, hl0, hn0, hw0⟩ := arg_ops2 (j := 0) (i := 3) (b := 4) (s := 9) Tryd.underlying27 (by kernel_rfl) (by kernel_rfl) (by kernel_rfl) Tryd.underlying9 Tryd.underlying3 Tryd.underlying4 (hval 0 27 v0 rfl (by simp [hargs])) h0 (fun x hx => hlt x (by simp [hx])) hsz rfl rfl
    obtain ⟨x1, rfl⟩ := arg_op (i := 3) (b := 4) (s := 9) Tryd.underlying25 (by kernel_rfl) (by kernel_rfl) Tryd.underlying9 Tryd.underlying3 Tryd.underlying4 (hval 1 25 v1 rfl (by simp [hargs])) h1
    obtain rfl : args = #[.slice a0 l0.length c0, .agg (Opr.cells x1).toArray] := by cases args; simp_all
    exact law_opsAdds a0 c0 l0 x1 W hr0 hc0 hl0 hn0 hw0

theorem opsAdds_row : Rows.OpsAddsSaid :=
  OpenClaim.holds_of_wide 5 Tryd.f5 rfl rfl rfl rfl rfl rfl rfl ⟨rfl, rfl, rfl, rfl, rfl⟩ rfl rfl rfl rfl rfl (by kernel_rfl) Tryd.func5 (by kernel_rfl)
    (of_decide_eq_true (by kernel_rfl)) (by unfold Func.isWrapper; first | (rw [if_pos (by decide +kernel)]; kernel_rfl) | (rw [if_neg (by decide +kernel)]; exact ⟨rfl, rfl⟩))
    (fun os started H enc _ => opsAdds_lifted os started H enc)

theorem opsAdds_holds : Rows.OpsAddsCardSaid :=
  Claim7.holds_tied_plain_at .later [] [.data, .pinned] true Rows.opsAddsCard.stood.harness false
    opsAdds_row (fun _ h => by cases h) (by kernel_rfl) (fun _ h => by cases h) opsAdds_row_tie rfl ⟨rfl, rfl⟩ (by kernel_rfl) rfl
    (fun f fn hf hfn => by
      obtain rfl : f = 5 := Option.some.inj ((show Tryd.prog.funcNamed "arbour/arbourlaw06.OpsAdds" = some 5 by kernel_rfl).symm.trans hf) |>.symm
      obtain rfl : fn = Tryd.f5 := (Option.some.inj (Tryd.func5.symm.trans hfn)).symm
      exact ⟨by kernel_rfl, fun j t ht => by
        rw [Tryd.params5] at ht
        have hm : t ∈ [27, 25] := by simpa using Array.mem_of_getElem? ht
        have hall : ([27, 25].all fun u => !Tryd.prog.wantsStandIn u) = true := by kernel_rfl
        exact (show Tryd.prog.wantsStandIn t = false by simpa using List.all_eq_true.1 hall t hm)⟩)
    (by kernel_rfl)
#print axioms opsAdds_holds
end Go.Proofs.YtifpdejgkofnaaaDoor
