/-
  ScanSame returns true for any calls and any more. Condition: none beside the own reach of the form.
-/
import Derived.Test.YtgjgeojhhglidaaDoorFsS8
import Derived.Test.YtgjgeojhhglidaaDoorShaped
import Derived.Test.YtgjgeojhhglidaaDoorFsArgs
import Derived.Test.YtgjgeojhhglidaaDoorOwn
import Derived.SevenTiedAt
namespace Go.Proofs.YtgjgeojhhglidaaDoor
open Go Go.RowKit Go.ChangeShapes Go.WideShapes Go.ChangeAt

set_option maxRecDepth 100000 in
theorem scanSame_lifted (os : Os) (started : os.Started) (H : Type) (enc : TypeId × Value → H) :
    ReturnsInHanded {} Tryd.checked os 9 .any (fun w args => (Rows.scanSameSpec.pre enc Tryd.prog Tryd.f9 [] false w args ∧ laidMetH Tryd.prog Rows.scanSameRow.laid w) ∧ sizedMet enc Tryd.prog Tryd.f9 (OpenSpec.ofChange Rows.scanSameSpec) false w args)
      (Rows.scanSameSpec.post enc Tryd.prog Tryd.f9 false true false false) := by
  refine lifted_shaped (C := Tryd.checked) (laid := Rows.scanSameRow.laid) (t4 := 4) own started (by kernel_rfl) Tryd.func9 rfl laidOut (by rw [Tryd.params9]; decide +kernel) (by kernel_rfl) Tryd.underlying4 ?_
    (ChangeSpec.witness_shaped (enc := enc) (C := Tryd.checked) (os := os) (X := fun w _ => laidMetH Tryd.prog Rows.scanSameRow.laid w) false (World.laidAll Tryd.prog os Rows.scanSameRow.laid) #[.slice none 0 0, .slice none 0 0] 8 (World.laidAll_os _ _ _)
      (World.shaped_of_ZipB (by kernel_rfl) (by kernel_rfl)) (by kernel_rfl) (by kernel_rfl) (by kernel_rfl)
      (by rw [MakeChecks.laidMetH_plain _ _ _ (by kernel_rfl)]; exact laidMet_laidAll _ (by kernel_rfl) (by kernel_rfl))) ?_
  · intro ds hl
    rw [Tryd.params9] at hl
    match ds, hl with
    | [d0, d1], _ => rfl
  · intro W base args ds p hval hA hlt hsz _ hsh
    rw [Tryd.params9] at hA hval hsz
    obtain ⟨v0, v1, d0, d1, p0, p1, hargs, rfl, rfl, h0, h1⟩ := trodAll_two hA
    obtain ⟨a0, c0, x0, rfl, hr0, hc0, hl0, hn0⟩ := arg_asks (j := 0) (s := 9) (i := 3) Tryd.underlying22 (by kernel_rfl) (by kernel_rfl) Tryd.underlying9 Tryd.underlying3 (hval 0 22 v0 rfl (by simp [hargs])) h0 (fun x hx => hlt x (by simp [hx])) hsz rfl rfl
    obtain ⟨a1, c1, x1, rfl, hr1, hc1, hl1, hn1⟩ := arg_asks (j := 1) (s := 9) (i := 3) Tryd.underlying22 (by kernel_rfl) (by kernel_rfl) Tryd.underlying9 Tryd.underlying3 (hval 1 22 v1 rfl (by simp [hargs])) h1 (fun x hx => hlt x (by simp [hx])) hsz rfl rfl
    obtain rfl : args = #[.slice a0 x0.length c0, .slice a1 x1.length c1] := by cases args; simp_all
    exact law_scanSame a0 c0 x0 a1 c1 x1 W (Nat.le_trans (Nat.le_mul_of_pos_right _ (by decide +kernel)) hl0) hr0 (Nat.le_trans (Nat.le_mul_of_pos_right _ (by decide +kernel)) hl1) hr1 (maxAt_shaped hsh)

theorem scanSame_row : Rows.ScanSameSaid :=
  OpenClaim.holds_of_wide 9 Tryd.f9 rfl rfl rfl rfl rfl rfl rfl ⟨rfl, rfl, rfl, rfl, rfl⟩ rfl rfl rfl rfl rfl (by kernel_rfl) Tryd.func9 (by kernel_rfl)
    (of_decide_eq_true (by kernel_rfl)) (by unfold Func.isWrapper; first | (rw [if_pos (by decide +kernel)]; kernel_rfl) | (rw [if_neg (by decide +kernel)]; exact ⟨rfl, rfl⟩))
    (fun os started H enc _ => scanSame_lifted os started H enc)

theorem scanSame_holds : Rows.ScanSameCardSaid :=
  Claim7.holds_tied_plain_at .later [] [.data, .pinned] true Rows.scanSameCard.stood.harness true
    scanSame_row (fun _ h => by cases h) (by kernel_rfl) (fun _ h => by cases h) scanSame_row_tie rfl ⟨rfl, rfl⟩ (by kernel_rfl) rfl
    (fun f fn hf hfn => by
      obtain rfl : f = 9 := Option.some.inj ((show Tryd.prog.funcNamed "arbour/arbourlaw20.ScanSame" = some 9 by kernel_rfl).symm.trans hf) |>.symm
      obtain rfl : fn = Tryd.f9 := (Option.some.inj (Tryd.func9.symm.trans hfn)).symm
      exact ⟨by kernel_rfl, fun j t ht => by
        rw [Tryd.params9] at ht
        have hm : t ∈ [22, 22] := by simpa using Array.mem_of_getElem? ht
        have hall : ([22, 22].all fun u => !Tryd.prog.wantsStandIn u) = true := by kernel_rfl
        exact (show Tryd.prog.wantsStandIn t = false by simpa using List.all_eq_true.1 hall t hm)⟩)
    (by kernel_rfl)
#print axioms scanSame_holds
end Go.Proofs.YtgjgeojhhglidaaDoor
