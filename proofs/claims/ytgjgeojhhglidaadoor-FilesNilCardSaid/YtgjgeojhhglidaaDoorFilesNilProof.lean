/-
  FilesNil returns true for every text. Condition: none beside the own reach of the form.
-/
import Derived.Test.YtgjgeojhhglidaaDoorFsX3
import Derived.Test.YtgjgeojhhglidaaDoorShaped
import Derived.Test.YtgjgeojhhglidaaDoorOwn
import Derived.SevenTiedAt
namespace Go.Proofs.YtgjgeojhhglidaaDoor
open Go Go.RowKit Go.ChangeShapes Go.WideShapes Go.ChangeAt

set_option maxRecDepth 100000 in
theorem filesNil_lifted (os : Os) (started : os.Started) (H : Type) (enc : TypeId × Value → H) :
    ReturnsInHanded {} Tryd.checked os 6 .any (fun w args => (Rows.filesNilSpec.pre enc Tryd.prog Tryd.f6 [] false w args ∧ laidMetH Tryd.prog Rows.filesNilRow.laid w) ∧ sizedMet enc Tryd.prog Tryd.f6 (OpenSpec.ofChange Rows.filesNilSpec) false w args)
      (Rows.filesNilSpec.post enc Tryd.prog Tryd.f6 false true false false) := by
  refine lifted_shaped (C := Tryd.checked) (laid := Rows.filesNilRow.laid) (t4 := 4) own started (by kernel_rfl) Tryd.func6 rfl laidOut (by rw [Tryd.params6]; decide +kernel) (by kernel_rfl) Tryd.underlying4 ?_
    (ChangeSpec.witness_shaped (enc := enc) (C := Tryd.checked) (os := os) (X := fun w _ => laidMetH Tryd.prog Rows.filesNilRow.laid w) false (World.laidAll Tryd.prog os Rows.filesNilRow.laid) #[.string ByteArray.empty] 8 (World.laidAll_os _ _ _)
      (World.shaped_of_ZipB (by kernel_rfl) (by kernel_rfl)) (by kernel_rfl) (by kernel_rfl) (by kernel_rfl)
      (by rw [MakeChecks.laidMetH_plain _ _ _ (by kernel_rfl)]; exact laidMet_laidAll _ (by kernel_rfl) (by kernel_rfl))) ?_
  · intro ds hl
    rw [Tryd.params6] at hl
    match ds, hl with
    | [d0], _ => rfl
  · intro W base args ds p hval hA hlt hsz _ hsh
    rw [Tryd.params6] at hA hval hsz
    obtain ⟨v0, d0, hargs, rfl, h0⟩ := trodAll_one hA
    obtain ⟨s0, rfl, _⟩ := arg_string (j := 0) Tryd.underlying9 (hval 0 9 v0 rfl (by simp [hargs])) h0 hsz rfl rfl
    obtain rfl : args = #[.string s0] := by cases args; simp_all
    exact law_filesNil s0 W  (maxAt_shaped hsh)

theorem filesNil_row : Rows.FilesNilSaid :=
  OpenClaim.holds_of_wide 6 Tryd.f6 rfl rfl rfl rfl rfl rfl rfl ⟨rfl, rfl, rfl, rfl, rfl⟩ rfl rfl rfl rfl rfl (by kernel_rfl) Tryd.func6 (by kernel_rfl)
    (of_decide_eq_true (by kernel_rfl)) (by unfold Func.isWrapper; first | (rw [if_pos (by decide +kernel)]; kernel_rfl) | (rw [if_neg (by decide +kernel)]; exact ⟨rfl, rfl⟩))
    (fun os started H enc _ => filesNil_lifted os started H enc)

theorem filesNil_holds : Rows.FilesNilCardSaid :=
  Claim7.holds_tied_plain_at .later [] [.data, .pinned] true Rows.filesNilCard.stood.harness true
    filesNil_row (fun _ h => by cases h) (by kernel_rfl) (fun _ h => by cases h) filesNil_row_tie rfl ⟨rfl, rfl⟩ (by kernel_rfl) rfl
    (fun f fn hf hfn => by
      obtain rfl : f = 6 := Option.some.inj ((show Tryd.prog.funcNamed "arbour/arbourlaw19.FilesNil" = some 6 by kernel_rfl).symm.trans hf) |>.symm
      obtain rfl : fn = Tryd.f6 := (Option.some.inj (Tryd.func6.symm.trans hfn)).symm
      exact ⟨by kernel_rfl, fun j t ht => by
        rw [Tryd.params6] at ht
        have hm : t ∈ [9] := by simpa using Array.mem_of_getElem? ht
        have hall : ([9].all fun u => !Tryd.prog.wantsStandIn u) = true := by kernel_rfl
        exact (show Tryd.prog.wantsStandIn t = false by simpa using List.all_eq_true.1 hall t hm)⟩)
    (by kernel_rfl)
#print axioms filesNil_holds
end Go.Proofs.YtgjgeojhhglidaaDoor
