/-
  LayLeast returns true for any calls and any entries. Condition: none beside the own reach of the form.
-/
import Derived.Test.YtgjgeojhhglidaaDoorLayG
import Derived.Test.YtgjgeojhhglidaaDoorShaped
import Derived.Test.YtgjgeojhhglidaaDoorFsArgs
import Derived.Test.YtgjgeojhhglidaaDoorOwn
import Derived.SevenTiedAt
namespace Go.Proofs.YtgjgeojhhglidaaDoor
open Go Go.RowKit Go.ChangeShapes Go.WideShapes Go.ChangeAt

set_option maxRecDepth 100000 in
theorem layLeast_lifted (os : Os) (started : os.Started) (H : Type) (enc : TypeId × Value → H) :
    ReturnsInHanded {} Tryd.checked os 8 .any (fun w args => (Rows.layLeastSpec.pre enc Tryd.prog Tryd.f8 [] false w args ∧ laidMetH Tryd.prog Rows.layLeastRow.laid w) ∧ sizedMet enc Tryd.prog Tryd.f8 (OpenSpec.ofChange Rows.layLeastSpec) false w args)
      (Rows.layLeastSpec.post enc Tryd.prog Tryd.f8 false true false false) := by
  refine lifted_shaped (C := Tryd.checked) (laid := Rows.layLeastRow.laid) (t4 := 4) own started (by kernel_rfl) Tryd.func8 rfl laidOut (by rw [Tryd.params8]; decide +kernel) (by kernel_rfl) Tryd.underlying4 ?_
    (ChangeSpec.witness_shaped (enc := enc) (C := Tryd.checked) (os := os) (X := fun w _ => laidMetH Tryd.prog Rows.layLeastRow.laid w) false (World.laidAll Tryd.prog os Rows.layLeastRow.laid) #[.slice none 0 0, .slice none 0 0] 8 (World.laidAll_os _ _ _)
      (World.shaped_of_ZipB (by kernel_rfl) (by kernel_rfl)) (by kernel_rfl) (by kernel_rfl) (by kernel_rfl)
      (by rw [MakeChecks.laidMetH_plain _ _ _ (by kernel_rfl)]; exact laidMet_laidAll _ (by kernel_rfl) (by kernel_rfl))) ?_
  · intro ds hl
    rw [Tryd.params8] at hl
    match ds, hl with
    | [d0, d1], _ => rfl
  · intro W base args ds p hval hA hlt hsz _ hsh
    rw [Tryd.params8] at hA hval hsz
    obtain ⟨v0, v1, d0, d1, p0, p1, hargs, rfl, rfl, h0, h1⟩ := trodAll_two hA
    obtain ⟨a0, c0, x0, rfl, hr0, hc0, hl0, hn0⟩ := arg_asks (j := 0) (s := 9) (i := 3) Tryd.underlying22 (by kernel_rfl) (by kernel_rfl) Tryd.underlying9 Tryd.underlying3 (hval 0 22 v0 rfl (by simp [hargs])) h0 (fun x hx => hlt x (by simp [hx])) hsz rfl rfl
    obtain ⟨a1, c1, x1, rfl, hr1, hc1, hl1⟩ := arg_ents (j := 1) (s := 9) (i := 3) (b := 4) Tryd.underlying26 (by kernel_rfl) (by kernel_rfl) (by kernel_rfl) Tryd.underlying9 Tryd.underlying3 Tryd.underlying4 (hval 1 26 v1 rfl (by simp [hargs])) h1 (fun x hx => hlt x (by simp [hx])) hsz rfl rfl
    obtain rfl : args = #[.slice a0 x0.length c0, .slice a1 x1.length c1] := by cases args; simp_all
    exact law_layLeast a0 c0 x0 a1 c1 x1 W (Nat.le_trans (Nat.le_mul_of_pos_right _ (by decide +kernel)) hl0) hr0 (Nat.le_trans (Nat.le_mul_of_pos_right _ (by decide +kernel)) hl1) hr1 (maxAt_shaped hsh)

theorem layLeast_row : Rows.LayLeastSaid :=
  OpenClaim.holds_of_wide 8 Tryd.f8 rfl rfl rfl rfl rfl rfl rfl ⟨rfl, rfl, rfl, rfl, rfl⟩ rfl rfl rfl rfl rfl (by kernel_rfl) Tryd.func8 (by kernel_rfl)
    (of_decide_eq_true (by kernel_rfl)) (by unfold Func.isWrapper; first | (rw [if_pos (by decide +kernel)]; kernel_rfl) | (rw [if_neg (by decide +kernel)]; exact ⟨rfl, rfl⟩))
    (fun os started H enc _ => layLeast_lifted os started H enc)

theorem layLeast_holds : Rows.LayLeastCardSaid :=
  Claim7.holds_tied_plain_at .later [] [.data, .pinned] true Rows.layLeastCard.stood.harness true
    layLeast_row (fun _ h => by cases h) (by kernel_rfl) (fun _ h => by cases h) layLeast_row_tie rfl ⟨rfl, rfl⟩ (by kernel_rfl) rfl
    (fun f fn hf hfn => by
      obtain rfl : f = 8 := Option.some.inj ((show Tryd.prog.funcNamed "arbour/arbourlaw21.LayLeast" = some 8 by kernel_rfl).symm.trans hf) |>.symm
      obtain rfl : fn = Tryd.f8 := (Option.some.inj (Tryd.func8.symm.trans hfn)).symm
      exact ⟨by kernel_rfl, fun j t ht => by
        rw [Tryd.params8] at ht
        have hm : t ∈ [22, 26] := by simpa using Array.mem_of_getElem? ht
        have hall : ([22, 26].all fun u => !Tryd.prog.wantsStandIn u) = true := by kernel_rfl
        exact (show Tryd.prog.wantsStandIn t = false by simpa using List.all_eq_true.1 hall t hm)⟩)
    (by kernel_rfl)
#print axioms layLeast_holds
end Go.Proofs.YtgjgeojhhglidaaDoor
