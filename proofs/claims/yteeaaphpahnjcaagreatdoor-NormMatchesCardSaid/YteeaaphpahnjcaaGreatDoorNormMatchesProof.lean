/-
  NormMatches returns true for all rules, every path, of a directory or a file. Condition: none beside the own reach of the form.
-/
import Derived.Test.YteeaaphpahnjcaaGreatDoorNormG
import Derived.Test.YteeaaphpahnjcaaGreatDoorShaped
import Derived.Test.YteeaaphpahnjcaaGreatDoorRules
import Derived.Test.YteeaaphpahnjcaaGreatDoorOwn
import Derived.SevenTiedAt
namespace Go.Proofs.YteeaaphpahnjcaaGreatDoor
open Go Go.RowKit Go.ChangeShapes Go.WideShapes Go.ChangeAt

set_option maxRecDepth 100000 in
theorem normMatches_lifted (os : Os) (started : os.Started) (H : Type) (enc : TypeId × Value → H) :
    ReturnsInHanded {} Tryz.checked os 3 .any (fun w args => (Rows.normMatchesSpec.pre enc Tryz.prog Tryz.f3 [] false w args ∧ laidMetH Tryz.prog Rows.normMatchesRow.laid w) ∧ sizedMet enc Tryz.prog Tryz.f3 (OpenSpec.ofChange Rows.normMatchesSpec) false w args)
      (Rows.normMatchesSpec.post enc Tryz.prog Tryz.f3 false true false false) := by
  refine lifted_shaped (C := Tryz.checked) (laid := Rows.normMatchesRow.laid) (t4 := 4) own started (by kernel_rfl) Tryz.func3 rfl laidOut (by rw [Tryz.params3]; decide +kernel) (by kernel_rfl) Tryz.underlying4 ?_
    (ChangeSpec.witness_shaped (enc := enc) (C := Tryz.checked) (os := os) (X := fun w _ => laidMetH Tryz.prog Rows.normMatchesRow.laid w) false (World.laidAll Tryz.prog os Rows.normMatchesRow.laid) #[.slice none 0 0, .string ByteArray.empty, .bool false] 8 (World.laidAll_os _ _ _)
      (World.shaped_of_ZipB (by kernel_rfl) (by kernel_rfl)) (by kernel_rfl) (by kernel_rfl) (by kernel_rfl)
      (by rw [MakeChecks.laidMetH_plain _ _ _ (by kernel_rfl)]; exact laidMet_laidAll _ (by kernel_rfl) (by kernel_rfl))) ?_
  · intro ds hl
    rw [Tryz.params3] at hl
    match ds, hl with
    | [d0, d1, d2], _ => rfl
  · intro W base args ds p hval hA hlt hsz _ hsh
    rw [Tryz.params3] at hA hval hsz
    obtain ⟨v0, v1, v2, d0, d1, d2, p0, p1, p2, hargs, rfl, rfl, h0, h1, h2⟩ := trodAll_three hA
    obtain ⟨a0, c0, x0, rfl, hr0, hc0, hl0, hn0⟩ := arg_rules (j := 0) (s := 9) (i := 3) Tryz.underlying22 (by kernel_rfl) (by kernel_rfl) Tryz.underlying9 Tryz.underlying3 (hval 0 22 v0 rfl (by simp [hargs])) h0 (fun x hx => hlt x (by simp [hx])) hsz rfl rfl
    obtain ⟨s1, rfl, _⟩ := arg_string (j := 1) Tryz.underlying9 (hval 1 9 v1 rfl (by simp [hargs])) h1 hsz rfl rfl
    obtain ⟨b2, rfl, _, _⟩ := open_bool Tryz.underlying4 (hval 2 4 v2 rfl (by simp [hargs])) h2
    obtain rfl : args = #[.slice a0 x0.length c0, .string s1, .bool b2] := by cases args; simp_all
    exact law_normMatches a0 c0 x0 s1 b2 W (Nat.le_trans (Nat.le_mul_of_pos_right _ (by decide +kernel)) hl0) hr0 (maxAt_shaped hsh)

theorem normMatches_row : Rows.NormMatchesSaid :=
  OpenClaim.holds_of_wide 3 Tryz.f3 rfl rfl rfl rfl rfl rfl rfl ⟨rfl, rfl, rfl, rfl, rfl⟩ rfl rfl rfl rfl rfl (by kernel_rfl) Tryz.func3 (by kernel_rfl)
    (of_decide_eq_true (by kernel_rfl)) (by unfold Func.isWrapper; first | (rw [if_pos (by decide +kernel)]; kernel_rfl) | (rw [if_neg (by decide +kernel)]; exact ⟨rfl, rfl⟩))
    (fun os started H enc _ => normMatches_lifted os started H enc)

theorem normMatches_holds : Rows.NormMatchesCardSaid :=
  Claim7.holds_tied_plain_at .later [] [.data, .pinned] true Rows.normMatchesCard.stood.harness false
    normMatches_row (fun _ h => by cases h) (by kernel_rfl) (fun _ h => by cases h) normMatches_row_tie rfl ⟨rfl, rfl⟩ (by kernel_rfl) rfl
    (fun f fn hf hfn => by
      obtain rfl : f = 3 := Option.some.inj ((show Tryz.prog.funcNamed "arbour/arbourlaw10.NormMatches" = some 3 by kernel_rfl).symm.trans hf) |>.symm
      obtain rfl : fn = Tryz.f3 := (Option.some.inj (Tryz.func3.symm.trans hfn)).symm
      exact ⟨by kernel_rfl, fun j t ht => by
        rw [Tryz.params3] at ht
        have hm : t ∈ [22, 9, 4] := by simpa using Array.mem_of_getElem? ht
        have hall : ([22, 9, 4].all fun u => !Tryz.prog.wantsStandIn u) = true := by kernel_rfl
        exact (show Tryz.prog.wantsStandIn t = false by simpa using List.all_eq_true.1 hall t hm)⟩)
    (by kernel_rfl)
#print axioms normMatches_holds
end Go.Proofs.YteeaaphpahnjcaaGreatDoor
