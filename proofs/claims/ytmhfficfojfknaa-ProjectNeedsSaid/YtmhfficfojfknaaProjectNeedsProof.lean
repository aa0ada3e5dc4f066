/-
  ProjectNeeds returns true for all items and rules that come in. Condition: none.
-/
import Derived.Test.YtmhfficfojfknaaProjNeeds
import Derived.Test.YtmhfficfojfknaaRules
import Derived.Test.YtmhfficfojfknaaRows
import Derived.Stop.Joined
namespace Go.Proofs.Ytmhfficfojfknaa
open Go Go.RowKit Go.ChangeShapes Go.WideShapes Go.ChangeAt

set_option maxRecDepth 100000 in
theorem projectNeeds_lifted (os : Os) (started : os.Started) (H : Type) (enc : TypeId × Value → H) :
    ReturnsInHanded {} Try.checked os 4 .any (Rows.projectNeedsSpec.pre6 enc Try.prog Try.f4 [] false)
      (Rows.projectNeedsSpec.post enc Try.prog Try.f4 false true false false) := by
  refine lifted_plain (C := Try.checked) (t4 := 4) (by kernel_rfl) started (by kernel_rfl) Try.func4 rfl (by kernel_rfl) (by rw [Try.params4]; decide +kernel) (by kernel_rfl) Try.underlying4 ?_
    (ChangeSpec.witness6 (enc := enc) (C := Try.checked) false ⟨#[], #[.slice none 0 0, .slice none 0 0], []⟩ 8 (by kernel_rfl) (by kernel_rfl) (by kernel_rfl) (by kernel_rfl)) ?_
  · intro ds hl
    rw [Try.params4] at hl
    match ds, hl with
    | [d0, d1], _ => rfl
  · intro W base args ds p hval hA hlt hsz
    rw [Try.params4] at hA hval hsz
    obtain ⟨v0, v1, d0, d1, p0, p1, hargs, rfl, rfl, h0, h1⟩ := trodAll_two hA
    obtain ⟨a0, c0, x0, rfl, hr0, hc0, hl0, hn0⟩ := arg_items (j := 0) (s := 9) (i := 3) (b := 4) Try.underlying22 (by kernel_rfl) (by kernel_rfl) Try.underlying9 Try.underlying3 Try.underlying4 (hval 0 22 v0 rfl (by simp [hargs])) h0 (fun x hx => hlt x (by simp [hx])) hsz rfl rfl
    obtain ⟨a1, c1, x1, rfl, hr1, hc1, hl1, hn1⟩ := arg_rules (j := 1) (s := 9) (i := 3) Try.underlying23 (by kernel_rfl) (by kernel_rfl) Try.underlying9 Try.underlying3 (hval 1 23 v1 rfl (by simp [hargs])) h1 (fun x hx => hlt x (by simp [hx])) hsz rfl rfl
    obtain rfl : args = #[.slice a0 x0.length c0, .slice a1 x1.length c1] := by cases args; simp_all
    exact law_needs a0 a1 c0 c1 x0 x1 W hr0 hr1

theorem projectNeeds_holds : Rows.ProjectNeedsSaid :=
  OpenClaim.holds_of_wide 4 Try.f4 rfl rfl rfl rfl rfl rfl rfl ⟨rfl, rfl, rfl, rfl, rfl⟩ rfl rfl rfl rfl rfl (by kernel_rfl) Try.func4 (by kernel_rfl)
    (of_decide_eq_true (by kernel_rfl)) (by unfold Func.isWrapper; first | (rw [if_pos (by decide +kernel)]; kernel_rfl) | (rw [if_neg (by decide +kernel)]; exact ⟨rfl, rfl⟩))
    (fun os started H enc _ => projectNeeds_lifted os started H enc)
#print axioms projectNeeds_holds
end Go.Proofs.Ytmhfficfojfknaa
