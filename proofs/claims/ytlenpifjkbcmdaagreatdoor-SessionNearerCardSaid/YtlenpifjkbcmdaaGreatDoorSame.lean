/-
  Are two lists the same? Of no program.
-/
import Derived.Test.YtlenpifjkbcmdaaGreatDoorBasics
namespace Go.Proofs.YtlenpifjkbcmdaaGreatDoor
open Go Go.RowKit Go.Lib
theorem toList_inj {a b : ByteArray} : a.toList = b.toList ↔ a = b := by
  rw [toList_data, toList_data]
  exact ⟨ba_ext, fun h => by rw [h]⟩
section
variable {α : Type} [DecidableEq α]
theorem same_len {xs ys : List α} (h : xs.length ≠ ys.length) : decide (xs = ys) = false := by
  rw [decide_eq_false_iff_not]; intro e; exact h (by rw [e])
theorem same_at {xs ys : List α} {k : Nat} {x y : α} (hx : xs[k]? = some x) (hy : ys[k]? = some y) (h : x ≠ y) : decide (xs = ys) = false := by
  rw [decide_eq_false_iff_not]; intro e; rw [e, hy] at hx; exact h (Option.some.inj hx).symm
theorem same_ok {xs ys : List α} (h : xs.length = ys.length) (h2 : ∀ k, k < xs.length → xs[k]? = ys[k]?) : decide (xs = ys) = true := by
  rw [decide_eq_true_eq]
  apply List.ext_getElem?
  intro i
  by_cases hi : i < xs.length
  · exact h2 i hi
  · rw [List.getElem?_eq_none (by omega), List.getElem?_eq_none (by omega)]
end
end Go.Proofs.YtlenpifjkbcmdaaGreatDoor
