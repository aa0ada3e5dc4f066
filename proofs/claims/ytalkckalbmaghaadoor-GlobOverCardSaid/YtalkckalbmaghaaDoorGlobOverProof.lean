/-
  GlobOver returns true for all three texts. Condition: none beside the own reach of the form.
-/
import Derived.Test.YtalkckalbmaghaaDoorGlp16
import Derived.Test.YtalkckalbmaghaaDoorShaped
import Derived.Test.YtalkckalbmaghaaDoorOwn
import Derived.SevenTiedAt
namespace Go.Proofs.YtalkckalbmaghaaDoor
open Go Go.RowKit Go.ChangeShapes Go.WideShapes Go.ChangeAt

set_option maxRecDepth 100000 in
theorem globOver_lifted (os : Os) (started : os.Started) (H : Type) (enc : TypeId × Value → H) :
    ReturnsInHanded {} Tryd.checked os 8 .any (fun w args => (Rows.globOverSpec.pre enc Tryd.prog Tryd.f8 [] false w args ∧ laidMetH Tryd.prog Rows.globOverRow.laid w) ∧ sizedMet enc Tryd.prog Tryd.f8 (OpenSpec.ofChange Rows.globOverSpec) false w args)
      (Rows.globOverSpec.post enc Tryd.prog Tryd.f8 false true false false) := by
  refine lifted_shaped (C := Tryd.checked) (laid := Rows.globOverRow.laid) (t4 := 4) own started (by kernel_rfl) Tryd.func8 rfl laidOut (by rw [Tryd.params8]; decide +kernel) (by kernel_rfl) Tryd.underlying4 ?_
    (ChangeSpec.witness_shaped (enc := enc) (C := Tryd.checked) (os := os) (X := fun w _ => laidMetH Tryd.prog Rows.globOverRow.laid w) false (World.laidAll Tryd.prog os Rows.globOverRow.laid) #[.string ByteArray.empty, .string ByteArray.empty, .string ByteArray.empty] 8 (World.laidAll_os _ _ _)
      (World.shaped_of_ZipB (by kernel_rfl) (by kernel_rfl)) (by kernel_rfl) (by kernel_rfl) (by kernel_rfl)
      (by rw [MakeChecks.laidMetH_plain _ _ _ (by kernel_rfl)]; exact laidMet_laidAll _ (by kernel_rfl) (by kernel_rfl))) ?_
  · intro ds hl
    rw [Tryd.params8] at hl
    match ds, hl with
    | [d0, d1, d2], _ => rfl
  · intro W base args ds p hval hA hlt hsz _ hsh
    rw [Tryd.params8] at hA hval hsz
    obtain ⟨v0, v1, v2, d0, d1, d2, p0, p1, p2, hargs, rfl, rfl, h0, h1, h2⟩ := trodAll_three hA
    obtain ⟨s0, rfl, _⟩ := arg_string (j := 0) Tryd.underlying9 (hval 0 9 v0 rfl (by simp [hargs])) h0 hsz rfl rfl
    obtain ⟨s1, rfl, _⟩ := arg_string (j := 1) Tryd.underlying9 (hval 1 9 v1 rfl (by simp [hargs])) h1 hsz rfl rfl
    obtain ⟨s2, rfl, _⟩ := arg_string (j := 2) Tryd.underlying9 (hval 2 9 v2 rfl (by simp [hargs])) h2 hsz rfl rfl
    obtain rfl : args = #[.string s0, .string s1, .string s2] := by cases args; simp_all
    exact law_globOver s0 s1 s2 W  (maxAt_shaped hsh)

theorem globOver_row : Rows.GlobOverSaid :=
  OpenClaim.holds_of_wide 8 Tryd.f8 rfl rfl rfl rfl rfl rfl rfl ⟨rfl, rfl, rfl, rfl, rfl⟩ rfl rfl rfl rfl rfl (by kernel_rfl) Tryd.func8 (by kernel_rfl)
    (of_decide_eq_true (by kernel_rfl)) (by unfold Func.isWrapper; first | (rw [if_pos (by decide +kernel)]; kernel_rfl) | (rw [if_neg (by decide +kernel)]; exact ⟨rfl, rfl⟩))
    (fun os started H enc _ => globOver_lifted os started H enc)

theorem globOver_holds : Rows.GlobOverCardSaid :=
  Claim7.holds_tied_plain_at .later [] [.data, .pinned] true Rows.globOverCard.stood.harness false
    globOver_row (fun _ h => by cases h) (by kernel_rfl) (fun _ h => by cases h) globOver_row_tie rfl ⟨rfl, rfl⟩ (by kernel_rfl) rfl
    (fun f fn hf hfn => by
      obtain rfl : f = 8 := Option.some.inj ((show Tryd.prog.funcNamed "arbour/arbourlaw09.GlobOver" = some 8 by kernel_rfl).symm.trans hf) |>.symm
      obtain rfl : fn = Tryd.f8 := (Option.some.inj (Tryd.func8.symm.trans hfn)).symm
      exact ⟨by kernel_rfl, fun j t ht => by
        rw [Tryd.params8] at ht
        have hm : t ∈ [9, 9, 9] := by simpa using Array.mem_of_getElem? ht
        have hall : ([9, 9, 9].all fun u => !Tryd.prog.wantsStandIn u) = true := by kernel_rfl
        exact (show Tryd.prog.wantsStandIn t = false by simpa using List.all_eq_true.1 hall t hm)⟩)
    (by kernel_rfl)
#print axioms globOver_holds
end Go.Proofs.YtalkckalbmaghaaDoor
