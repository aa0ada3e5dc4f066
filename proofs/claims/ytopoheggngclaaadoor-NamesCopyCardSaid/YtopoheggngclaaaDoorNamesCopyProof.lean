/-
  NamesCopy returns true for every text and every number. Condition: none beside the own reach of the form.
-/
import Derived.Test.YtopoheggngclaaaDoorNamesFrame
import Derived.SevenTiedAt
namespace Go.Proofs.YtopoheggngclaaaDoor
open Go Go.RowKit Go.ChangeShapes Go.WideShapes Go.ChangeAt

set_option maxRecDepth 100000 in
theorem namesCopy_lifted (os : Os) (started : os.Started) (H : Type) (enc : TypeId × Value → H) :
    ReturnsInHanded {} Tryd.checked os 5 .any (fun w args => (Rows.namesCopySpec.pre enc Tryd.prog Tryd.f5 [] false w args ∧ laidMetH Tryd.prog Rows.namesCopyRow.laid w) ∧ sizedMet enc Tryd.prog Tryd.f5 (OpenSpec.ofChange Rows.namesCopySpec) false w args)
      (Rows.namesCopySpec.post enc Tryd.prog Tryd.f5 false true false false) := by
  refine lifted_of_contract (C := Tryd.checked) (laid := Rows.namesCopyRow.laid) (t4 := 4) own started (by kernel_rfl) Tryd.func5 rfl laidOut (by rw [Tryd.params5]; decide +kernel) (by kernel_rfl) Tryd.underlying4 ?_
    (ChangeSpec.witness_shaped (enc := enc) (C := Tryd.checked) (os := os) (X := fun w _ => laidMetH Tryd.prog Rows.namesCopyRow.laid w) false (World.laidAll Tryd.prog os Rows.namesCopyRow.laid) #[.string ByteArray.empty, .int .i64 0] 8 (World.laidAll_os _ _ _)
      (World.shaped_of_ZipB (by kernel_rfl) (by kernel_rfl)) (by kernel_rfl) (by kernel_rfl) (by kernel_rfl)
      (by rw [MakeChecks.laidMetH_plain _ _ _ (by kernel_rfl)]; exact laidMet_laidAll _ (by kernel_rfl) (by kernel_rfl))) ?_
  · intro ds hl
    rw [Tryd.params5] at hl
    match ds, hl with
    | [d0, d1], _ => rfl
  · intro W base args ds p hval hA hlt hsz hL
    rw [Tryd.params5] at hA hval hsz
    obtain ⟨v0, v1, d0, d1, p0, p1, hargs, rfl, rfl, h0, h1⟩ := trodAll_two hA
    obtain ⟨s0, rfl, hs0⟩ := arg_string (j := 0) Tryd.underlying9 (hval 0 9 v0 rfl (by simp [hargs])) h0 hsz rfl rfl
    obtain ⟨n1, rfl, hn1, hm1⟩ := arg_int Tryd.underlying3 (hval 1 3 v1 rfl (by simp [hargs])) h1
    obtain rfl : args = #[.string s0, .int .i64 n1] := by cases args; simp_all
    exact law_copy s0 n1 W hs0 hn1 hm1 (tab_of_laid (.tail _ (.tail _ (.head _))) (by kernel_rfl) hL)

theorem namesCopy_row : Rows.NamesCopySaid :=
  OpenClaim.holds_of_wide 5 Tryd.f5 rfl rfl rfl rfl rfl rfl rfl ⟨rfl, rfl, rfl, rfl, rfl⟩ rfl rfl rfl rfl rfl (by kernel_rfl) Tryd.func5 (by kernel_rfl)
    (of_decide_eq_true (by kernel_rfl)) (by unfold Func.isWrapper; first | (rw [if_pos (by decide +kernel)]; kernel_rfl) | (rw [if_neg (by decide +kernel)]; exact ⟨rfl, rfl⟩))
    (fun os started H enc _ => namesCopy_lifted os started H enc)

theorem namesCopy_holds : Rows.NamesCopyCardSaid :=
  Claim7.holds_tied_plain_at .later [] [.data, .data, .data, .data, .pinned] true Rows.namesCopyCard.stood.harness false
    namesCopy_row (fun _ h => by cases h) (by kernel_rfl) (fun _ h => by cases h) namesCopy_row_tie rfl ⟨rfl, rfl⟩ (by kernel_rfl) rfl
    (fun f fn hf hfn => by
      obtain rfl : f = 5 := Option.some.inj ((show Tryd.prog.funcNamed "arbour/arbourlaw05.NamesCopy" = some 5 by kernel_rfl).symm.trans hf) |>.symm
      obtain rfl : fn = Tryd.f5 := (Option.some.inj (Tryd.func5.symm.trans hfn)).symm
      exact ⟨by kernel_rfl, fun j t ht => by
        rw [Tryd.params5] at ht
        have hm : t ∈ [9, 3] := by simpa using Array.mem_of_getElem? ht
        have hall : ([9, 3].all fun u => !Tryd.prog.wantsStandIn u) = true := by kernel_rfl
        exact (show Tryd.prog.wantsStandIn t = false by simpa using List.all_eq_true.1 hall t hm)⟩)
    (by kernel_rfl)
#print axioms namesCopy_holds
end Go.Proofs.YtopoheggngclaaaDoor
