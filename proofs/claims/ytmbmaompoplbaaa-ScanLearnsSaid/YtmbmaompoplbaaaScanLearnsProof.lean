/-
  ScanLearns returns true for all entries that come in. Condition: none.
-/
import Derived.Test.YtmbmaompoplbaaaScanW6
import Derived.Test.YtmbmaompoplbaaaOpened
import Derived.Test.YtmbmaompoplbaaaRows
import Derived.Stop.Joined
namespace Go.Proofs.Ytmbmaompoplbaaa
open Go Go.RowKit Go.ChangeShapes Go.WideShapes Go.ChangeAt

set_option maxRecDepth 100000 in
theorem scanLearns_lifted (os : Os) (started : os.Started) (H : Type) (enc : TypeId × Value → H) :
    ReturnsInHanded {} Try.checked os 4 .any (Rows.scanLearnsSpec.pre6 enc Try.prog Try.f4 [] false)
      (Rows.scanLearnsSpec.post enc Try.prog Try.f4 false true false false) := by
  refine lifted_plain (C := Try.checked) (t4 := 4) (by kernel_rfl) started (by kernel_rfl) Try.func4 rfl (by kernel_rfl) (by rw [Try.params4]; decide +kernel) (by kernel_rfl) Try.underlying4 ?_
    (ChangeSpec.witness6 (enc := enc) (C := Try.checked) false ⟨#[], #[.slice none 0 0], []⟩ 8 (by kernel_rfl) (by kernel_rfl) (by kernel_rfl) (by kernel_rfl)) ?_
  · intro ds hl
    rw [Try.params4] at hl
    match ds, hl with
    | [d0], _ => rfl
  · intro W base args ds p hval hA hlt hsz
    rw [Try.params4] at hA hval hsz
    obtain ⟨v0, d0, hargs, rfl, h0⟩ := trodAll_one hA
    obtain ⟨a, cap, now, rfl, hn, _⟩ := arg_ents (j := 0) (s := 9) (i := 3) (b := 4) Try.underlying22 (by kernel_rfl) (by kernel_rfl) (by kernel_rfl) Try.underlying9 Try.underlying3 Try.underlying4 (hval 0 22 v0 rfl (by simp [hargs])) h0 hlt hsz rfl rfl
    obtain rfl : args = #[.slice a now.length cap] := by cases args; simp_all
    exact law_learn a cap now W hn

theorem scanLearns_holds : Rows.ScanLearnsSaid :=
  OpenClaim.holds_of_wide 4 Try.f4 rfl rfl rfl rfl rfl rfl rfl ⟨rfl, rfl, rfl, rfl, rfl⟩ rfl rfl rfl rfl rfl (by kernel_rfl) Try.func4 (by kernel_rfl)
    (of_decide_eq_true (by kernel_rfl)) (by unfold Func.isWrapper; first | (rw [if_pos (by decide +kernel)]; kernel_rfl) | (rw [if_neg (by decide +kernel)]; exact ⟨rfl, rfl⟩))
    (fun os started H enc _ => scanLearns_lifted os started H enc)
#print axioms scanLearns_holds
end Go.Proofs.Ytmbmaompoplbaaa
