/-
  OpsOrder returns true for all operations and all picks. Condition: none beside the own reach of the form.
-/
import Derived.Test.YtifpdejgkofnaaaDoorOpsW30
import Derived.Test.YtifpdejgkofnaaaDoorOpsArgs
import Derived.Test.YtifpdejgkofnaaaDoorOwn
import Derived.Test.YtifpdejgkofnaaaDoorNums
import Derived.SevenTiedAt
namespace Go.Proofs.YtifpdejgkofnaaaDoor
open Go Go.RowKit Go.ChangeShapes Go.WideShapes Go.ChangeAt

set_option maxRecDepth 100000 in
theorem opsOrder_lifted (os : Os) (started : os.Started) (H : Type) (enc : TypeId × Value → H) :
    ReturnsInHanded {} Tryd.checked os 6 .any (fun w args => (Rows.opsOrderSpec.pre enc Tryd.prog Tryd.f6 [] false w args ∧ laidMetH Tryd.prog Rows.opsOrderRow.laid w) ∧ sizedMet enc Tryd.prog Tryd.f6 (OpenSpec.ofChange Rows.opsOrderSpec) false w args)
      (Rows.opsOrderSpec.post enc Tryd.prog Tryd.f6 false true false false) := by
  refine lifted_of_contract (C := Tryd.checked) (laid := Rows.opsOrderRow.laid) (t4 := 4) own started (by kernel_rfl) Tryd.func6 rfl laidOut (by rw [Tryd.params6]; decide +kernel) (by kernel_rfl) Tryd.underlying4 ?_
    (ChangeSpec.witness_shaped (enc := enc) (C := Tryd.checked) (os := os) (X := fun w _ => laidMetH Tryd.prog Rows.opsOrderRow.laid w) false (World.laidAll Tryd.prog os Rows.opsOrderRow.laid) #[.slice none 0 0, .slice none 0 0] 8 (World.laidAll_os _ _ _)
      (World.shaped_of_ZipB (by kernel_rfl) (by kernel_rfl)) (by kernel_rfl) (by kernel_rfl) (by kernel_rfl)
      (by rw [MakeChecks.laidMetH_plain _ _ _ (by kernel_rfl)]; exact laidMet_laidAll _ (by kernel_rfl) (by kernel_rfl))) ?_
  · intro ds hl
    rw [Tryd.params6] at hl
    match ds, hl with
    | [d0, d1], _ => rfl
  · intro W base args ds p hval hA hlt hsz _
    rw [Tryd.params6] at hA hval hsz
    obtain ⟨v0, v1, d0, d1, p0, p1, hargs, rfl, rfl, h0, h1⟩ := trodAll_two hA
    obtain ⟨a0, c0, l0, rfl, hr0, hc0, hl0, hn0, hw0⟩ := arg_ops2 (j := 0) (i := 3) (b := 4) (s := 9) Tryd.underlying27 (by kernel_rfl) (by kernel_rfl) (by kernel_rfl) Tryd.underlying9 Tryd.underlying3 Tryd.underlying4 (hval 0 27 v0 rfl (by simp [hargs])) h0 (fun x hx => hlt x (by simp [hx])) hsz rfl rfl
    obtain ⟨a1, c1, l1, rfl, hr1, hc1, hl1, hn1⟩ := arg_ints (j := 1) Tryd.underlying39 Tryd.underlying3 (by kernel_rfl) (by kernel_rfl) (hval 1 39 v1 rfl (by simp [hargs])) h1 (fun x hx => hlt x (by simp [hx])) hsz rfl rfl
    obtain rfl : args = #[.slice a0 l0.length c0, .slice a1 l1.length c1] := by cases args; simp_all
    exact law_opsOrder a0 c0 l0 a1 c1 l1 W hr0 hc0 hl0 hn0 hw0 hr1 hc1 hl1 hn1

theorem opsOrder_row : Rows.OpsOrderSaid :=
  OpenClaim.holds_of_wide 6 Tryd.f6 rfl rfl rfl rfl rfl rfl rfl ⟨rfl, rfl, rfl, rfl, rfl⟩ rfl rfl rfl rfl rfl (by kernel_rfl) Tryd.func6 (by kernel_rfl)
    (of_decide_eq_true (by kernel_rfl)) (by unfold Func.isWrapper; first | (rw [if_pos (by decide +kernel)]; kernel_rfl) | (rw [if_neg (by decide +kernel)]; exact ⟨rfl, rfl⟩))
    (fun os started H enc _ => opsOrder_lifted os started H enc)

theorem opsOrder_holds : Rows.OpsOrderCardSaid :=
  Claim7.holds_tied_plain_at .later [] [.data, .pinned] true Rows.opsOrderCard.stood.harness false
    opsOrder_row (fun _ h => by cases h) (by kernel_rfl) (fun _ h => by cases h) opsOrder_row_tie rfl ⟨rfl, rfl⟩ (by kernel_rfl) rfl
    (fun f fn hf hfn => by
      obtain rfl : f = 6 := Option.some.inj ((show Tryd.prog.funcNamed "arbour/arbourlaw06.OpsOrder" = some 6 by kernel_rfl).symm.trans hf) |>.symm
      obtain rfl : fn = Tryd.f6 := (Option.some.inj (Tryd.func6.symm.trans hfn)).symm
      exact ⟨by kernel_rfl, fun j t ht => by
        rw [Tryd.params6] at ht
        have hm : t ∈ [27, 39] := by simpa using Array.mem_of_getElem? ht
        have hall : ([27, 39].all fun u => !Tryd.prog.wantsStandIn u) = true := by kernel_rfl
        exact (show Tryd.prog.wantsStandIn t = false by simpa using List.all_eq_true.1 hall t hm)⟩)
    (by kernel_rfl)
#print axioms opsOrder_holds
end Go.Proofs.YtifpdejgkofnaaaDoor
