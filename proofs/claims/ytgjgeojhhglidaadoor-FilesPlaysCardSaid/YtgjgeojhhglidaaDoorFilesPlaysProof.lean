/-
  FilesPlays returns true for any calls. Condition: none beside the own reach of the form.
-/
import Derived.Test.YtgjgeojhhglidaaDoorFsX8
import Derived.Test.YtgjgeojhhglidaaDoorShaped
import Derived.Test.YtgjgeojhhglidaaDoorFsAsks
import Derived.Test.YtgjgeojhhglidaaDoorOwn
import Derived.SevenTiedAt
namespace Go.Proofs.YtgjgeojhhglidaaDoor
open Go Go.RowKit Go.ChangeShapes Go.WideShapes Go.ChangeAt

set_option maxRecDepth 100000 in
theorem filesPlays_lifted (os : Os) (started : os.Started) (H : Type) (enc : TypeId × Value → H) :
    ReturnsInHanded {} Tryd.checked os 3 .any (fun w args => (Rows.filesPlaysSpec.pre enc Tryd.prog Tryd.f3 [] false w args ∧ laidMetH Tryd.prog Rows.filesPlaysRow.laid w) ∧ sizedMet enc Tryd.prog Tryd.f3 (OpenSpec.ofChange Rows.filesPlaysSpec) false w args)
      (Rows.filesPlaysSpec.post enc Tryd.prog Tryd.f3 false true false false) := by
  refine lifted_shaped (C := Tryd.checked) (laid := Rows.filesPlaysRow.laid) (t4 := 4) own started (by kernel_rfl) Tryd.func3 rfl laidOut (by rw [Tryd.params3]; decide +kernel) (by kernel_rfl) Tryd.underlying4 ?_
    (ChangeSpec.witness_shaped (enc := enc) (C := Tryd.checked) (os := os) (X := fun w _ => laidMetH Tryd.prog Rows.filesPlaysRow.laid w) false (World.laidAll Tryd.prog os Rows.filesPlaysRow.laid) #[.slice none 0 0] 8 (World.laidAll_os _ _ _)
      (World.shaped_of_ZipB (by kernel_rfl) (by kernel_rfl)) (by kernel_rfl) (by kernel_rfl) (by kernel_rfl)
      (by rw [MakeChecks.laidMetH_plain _ _ _ (by kernel_rfl)]; exact laidMet_laidAll _ (by kernel_rfl) (by kernel_rfl))) ?_
  · intro ds hl
    rw [Tryd.params3] at hl
    match ds, hl with
    | [d0], _ => rfl
  · intro W base args ds p hval hA hlt hsz _ hsh
    rw [Tryd.params3] at hA hval hsz
    obtain ⟨v0, d0, hargs, rfl, h0⟩ := trodAll_one hA
    obtain ⟨a0, c0, x0, rfl, hr0, hc0, hl0, hn0⟩ := arg_asks (j := 0) (s := 9) (i := 3) Tryd.underlying22 (by kernel_rfl) (by kernel_rfl) Tryd.underlying9 Tryd.underlying3 (hval 0 22 v0 rfl (by simp [hargs])) h0 hlt hsz rfl rfl
    obtain rfl : args = #[.slice a0 x0.length c0] := by cases args; simp_all
    exact law_filesPlays a0 c0 x0 W (Nat.le_trans (Nat.le_mul_of_pos_right _ (by decide +kernel)) hl0) hr0 (maxAt_shaped hsh)

theorem filesPlays_row : Rows.FilesPlaysSaid :=
  OpenClaim.holds_of_wide 3 Tryd.f3 rfl rfl rfl rfl rfl rfl rfl ⟨rfl, rfl, rfl, rfl, rfl⟩ rfl rfl rfl rfl rfl (by kernel_rfl) Tryd.func3 (by kernel_rfl)
    (of_decide_eq_true (by kernel_rfl)) (by unfold Func.isWrapper; first | (rw [if_pos (by decide +kernel)]; kernel_rfl) | (rw [if_neg (by decide +kernel)]; exact ⟨rfl, rfl⟩))
    (fun os started H enc _ => filesPlays_lifted os started H enc)

theorem filesPlays_holds : Rows.FilesPlaysCardSaid :=
  Claim7.holds_tied_plain_at .later [] [.data, .pinned] true Rows.filesPlaysCard.stood.harness true
    filesPlays_row (fun _ h => by cases h) (by kernel_rfl) (fun _ h => by cases h) filesPlays_row_tie rfl ⟨rfl, rfl⟩ (by kernel_rfl) rfl
    (fun f fn hf hfn => by
      obtain rfl : f = 3 := Option.some.inj ((show Tryd.prog.funcNamed "arbour/arbourlaw19.FilesPlays" = some 3 by kernel_rfl).symm.trans hf) |>.symm
      obtain rfl : fn = Tryd.f3 := (Option.some.inj (Tryd.func3.symm.trans hfn)).symm
      exact ⟨by kernel_rfl, fun j t ht => by
        rw [Tryd.params3] at ht
        have hm : t ∈ [22] := by simpa using Array.mem_of_getElem? ht
        have hall : ([22].all fun u => !Tryd.prog.wantsStandIn u) = true := by kernel_rfl
        exact (show Tryd.prog.wantsStandIn t = false by simpa using List.all_eq_true.1 hall t hm)⟩)
    (by kernel_rfl)
#print axioms filesPlays_holds
end Go.Proofs.YtgjgeojhhglidaaDoor
