/-
  ScanEdited returns true for any calls, any path and any bytes. Condition: none beside the own reach of the form.
-/
import Derived.Test.YtgjgeojhhglidaaDoorFsS5
import Derived.Test.YtgjgeojhhglidaaDoorShaped
import Derived.Test.YtgjgeojhhglidaaDoorFsArgs
import Derived.Test.YtgjgeojhhglidaaDoorOwn
import Derived.SevenTiedAt
namespace Go.Proofs.YtgjgeojhhglidaaDoor
open Go Go.RowKit Go.ChangeShapes Go.WideShapes Go.ChangeAt

set_option maxRecDepth 100000 in
theorem scanEdited_lifted (os : Os) (started : os.Started) (H : Type) (enc : TypeId × Value → H) :
    ReturnsInHanded {} Tryd.checked os 11 .any (fun w args => (Rows.scanEditedSpec.pre enc Tryd.prog Tryd.f11 [] false w args ∧ laidMetH Tryd.prog Rows.scanEditedRow.laid w) ∧ sizedMet enc Tryd.prog Tryd.f11 (OpenSpec.ofChange Rows.scanEditedSpec) false w args)
      (Rows.scanEditedSpec.post enc Tryd.prog Tryd.f11 false true false false) := by
  refine lifted_shaped (C := Tryd.checked) (laid := Rows.scanEditedRow.laid) (t4 := 4) own started (by kernel_rfl) Tryd.func11 rfl laidOut (by rw [Tryd.params11]; decide +kernel) (by kernel_rfl) Tryd.underlying4 ?_
    (ChangeSpec.witness_shaped (enc := enc) (C := Tryd.checked) (os := os) (X := fun w _ => laidMetH Tryd.prog Rows.scanEditedRow.laid w) false (World.laidAll Tryd.prog os Rows.scanEditedRow.laid) #[.slice none 0 0, .string ByteArray.empty, .string ByteArray.empty] 8 (World.laidAll_os _ _ _)
      (World.shaped_of_ZipB (by kernel_rfl) (by kernel_rfl)) (by kernel_rfl) (by kernel_rfl) (by kernel_rfl)
      (by rw [MakeChecks.laidMetH_plain _ _ _ (by kernel_rfl)]; exact laidMet_laidAll _ (by kernel_rfl) (by kernel_rfl))) ?_
  · intro ds hl
    rw [Tryd.params11] at hl
    match ds, hl with
    | [d0, d1, d2], _ => rfl
  · intro W base args ds p hval hA hlt hsz _ hsh
    rw [Tryd.params11] at hA hval hsz
    obtain ⟨v0, v1, v2, d0, d1, d2, p0, p1, p2, hargs, rfl, rfl, h0, h1, h2⟩ := trodAll_three hA
    obtain ⟨a0, c0, x0, rfl, hr0, hc0, hl0, hn0⟩ := arg_asks (j := 0) (s := 9) (i := 3) Tryd.underlying22 (by kernel_rfl) (by kernel_rfl) Tryd.underlying9 Tryd.underlying3 (hval 0 22 v0 rfl (by simp [hargs])) h0 (fun x hx => hlt x (by simp [hx])) hsz rfl rfl
    obtain ⟨s1, rfl, _⟩ := arg_string (j := 1) Tryd.underlying9 (hval 1 9 v1 rfl (by simp [hargs])) h1 hsz rfl rfl
    obtain ⟨s2, rfl, _⟩ := arg_string (j := 2) Tryd.underlying9 (hval 2 9 v2 rfl (by simp [hargs])) h2 hsz rfl rfl
    obtain rfl : args = #[.slice a0 x0.length c0, .string s1, .string s2] := by cases args; simp_all
    exact law_scanEdited a0 c0 x0 s1 s2 W (Nat.le_trans (Nat.le_mul_of_pos_right _ (by decide +kernel)) hl0) hr0 (maxAt_shaped hsh)

theorem scanEdited_row : Rows.ScanEditedSaid :=
  OpenClaim.holds_of_wide 11 Tryd.f11 rfl rfl rfl rfl rfl rfl rfl ⟨rfl, rfl, rfl, rfl, rfl⟩ rfl rfl rfl rfl rfl (by kernel_rfl) Tryd.func11 (by kernel_rfl)
    (of_decide_eq_true (by kernel_rfl)) (by unfold Func.isWrapper; first | (rw [if_pos (by decide +kernel)]; kernel_rfl) | (rw [if_neg (by decide +kernel)]; exact ⟨rfl, rfl⟩))
    (fun os started H enc _ => scanEdited_lifted os started H enc)

theorem scanEdited_holds : Rows.ScanEditedCardSaid :=
  Claim7.holds_tied_plain_at .later [] [.data, .pinned] true Rows.scanEditedCard.stood.harness true
    scanEdited_row (fun _ h => by cases h) (by kernel_rfl) (fun _ h => by cases h) scanEdited_row_tie rfl ⟨rfl, rfl⟩ (by kernel_rfl) rfl
    (fun f fn hf hfn => by
      obtain rfl : f = 11 := Option.some.inj ((show Tryd.prog.funcNamed "arbour/arbourlaw20.ScanEdited" = some 11 by kernel_rfl).symm.trans hf) |>.symm
      obtain rfl : fn = Tryd.f11 := (Option.some.inj (Tryd.func11.symm.trans hfn)).symm
      exact ⟨by kernel_rfl, fun j t ht => by
        rw [Tryd.params11] at ht
        have hm : t ∈ [22, 9, 9] := by simpa using Array.mem_of_getElem? ht
        have hall : ([22, 9, 9].all fun u => !Tryd.prog.wantsStandIn u) = true := by kernel_rfl
        exact (show Tryd.prog.wantsStandIn t = false by simpa using List.all_eq_true.1 hall t hm)⟩)
    (by kernel_rfl)
#print axioms scanEdited_holds
end Go.Proofs.YtgjgeojhhglidaaDoor
