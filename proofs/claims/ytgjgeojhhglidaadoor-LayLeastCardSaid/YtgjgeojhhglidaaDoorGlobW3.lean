import Derived.Test.YtgjgeojhhglidaaDoorGlobW2
namespace Go.Proofs.YtgjgeojhhglidaaDoor
open Go.RowKit Go.Lib

theorem idxT_miss {l : List Rul} (h : ∀ j y, j < l.length → l[j]? = some y → y.kind ≠ 3) : (l.any fun x => x.kind == 3) = false := by
  rw [List.any_eq_false]
  intro x hx
  obtain ⟨j, hj, e⟩ := List.getElem_of_mem hx
  have := h j x hj (by rw [List.getElem?_eq_getElem hj, e])
  simpa using this
theorem idxT_hit {l : List Rul} {k : Nat} {x : Rul} (hx : l[k]? = some x) (h : x.kind = 3) : (l.any fun x => x.kind == 3) = true := by
  rw [List.any_eq_true]
  exact ⟨x, List.mem_of_getElem? hx, by simpa using h⟩

theorem idxR_miss {l : List Rul} {r : Rul} (h : ∀ j y, j < l.length → l[j]? = some y → ¬ (y.kind = r.kind ∧ y.text = r.text)) : (l.any fun x => x.kind == r.kind && decide (x.text = r.text)) = false := by
  rw [List.any_eq_false]
  intro x hx
  obtain ⟨j, hj, e⟩ := List.getElem_of_mem hx
  have := h j x hj (by rw [List.getElem?_eq_getElem hj, e])
  simpa using this
theorem idxR_hit {l : List Rul} {r : Rul} {k : Nat} {x : Rul} (hx : l[k]? = some x) (h1 : x.kind = r.kind) (h2 : x.text = r.text) : (l.any fun x => x.kind == r.kind && decide (x.text = r.text)) = true := by
  rw [List.any_eq_true]
  exact ⟨x, List.mem_of_getElem? hx, by simp [h1, h2]⟩

end Go.Proofs.YtgjgeojhhglidaaDoor
