/-
  LayPlans returns true for all entries that come in. Condition: none.
-/
import Derived.Test.YtmbmaompoplbaaaLayW8
import Derived.Test.YtmbmaompoplbaaaOpened
import Derived.Test.YtmbmaompoplbaaaRows
import Derived.Stop.Joined
namespace Go.Proofs.Ytmbmaompoplbaaa
open Go Go.RowKit Go.ChangeShapes Go.WideShapes Go.ChangeAt

set_option maxRecDepth 100000 in
theorem layPlans_lifted (os : Os) (started : os.Started) (H : Type) (enc : TypeId × Value → H) :
    ReturnsInHanded {} Try.checked os 3 .any (Rows.layPlansSpec.pre6 enc Try.prog Try.f3 [] false)
      (Rows.layPlansSpec.post enc Try.prog Try.f3 false true false false) := by
  refine lifted_plain (C := Try.checked) (t4 := 4) (by kernel_rfl) started (by kernel_rfl) Try.func3 rfl (by kernel_rfl) (by rw [Try.params3]; decide +kernel) (by kernel_rfl) Try.underlying4 ?_
    (ChangeSpec.witness6 (enc := enc) (C := Try.checked) false ⟨#[], #[.slice none 0 0, .slice none 0 0], []⟩ 8 (by kernel_rfl) (by kernel_rfl) (by kernel_rfl) (by kernel_rfl)) ?_
  · intro ds hl
    rw [Try.params3] at hl
    match ds, hl with
    | [d0, d1], _ => rfl
  · intro W base args ds p hval hA hlt hsz
    rw [Try.params3] at hA hval hsz
    obtain ⟨v0, v1, d0, d1, p0, p1, hargs, rfl, rfl, h0, h1⟩ := trodAll_two hA
    obtain ⟨a, cap, now, rfl, hn, _⟩ := arg_ents (j := 0) (s := 9) (i := 3) (b := 4) Try.underlying22 (by kernel_rfl) (by kernel_rfl) (by kernel_rfl) Try.underlying9 Try.underlying3 Try.underlying4 (hval 0 22 v0 rfl (by simp [hargs])) h0 (fun x hx => hlt x (List.mem_append_left _ hx)) hsz rfl rfl
    obtain ⟨a', cap', want, rfl, hw, _⟩ := arg_ents (j := 1) (s := 9) (i := 3) (b := 4) Try.underlying22 (by kernel_rfl) (by kernel_rfl) (by kernel_rfl) Try.underlying9 Try.underlying3 Try.underlying4 (hval 1 22 v1 rfl (by simp [hargs])) h1 (fun x hx => hlt x (List.mem_append_right _ hx)) hsz rfl rfl
    obtain rfl : args = #[.slice a now.length cap, .slice a' want.length cap'] := by cases args; simp_all
    exact law_lay a a' cap cap' now want W hn hw

theorem layPlans_holds : Rows.LayPlansSaid :=
  OpenClaim.holds_of_wide 3 Try.f3 rfl rfl rfl rfl rfl rfl rfl ⟨rfl, rfl, rfl, rfl, rfl⟩ rfl rfl rfl rfl rfl (by kernel_rfl) Try.func3 (by kernel_rfl)
    (of_decide_eq_true (by kernel_rfl)) (by unfold Func.isWrapper; first | (rw [if_pos (by decide +kernel)]; kernel_rfl) | (rw [if_neg (by decide +kernel)]; exact ⟨rfl, rfl⟩))
    (fun os started H enc _ => layPlans_lifted os started H enc)
#print axioms layPlans_holds
end Go.Proofs.Ytmbmaompoplbaaa
