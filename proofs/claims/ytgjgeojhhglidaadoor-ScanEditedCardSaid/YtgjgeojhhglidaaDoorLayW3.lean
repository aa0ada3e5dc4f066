import Derived.Test.YtgjgeojhhglidaaDoorLayW2
namespace Go.Proofs.YtgjgeojhhglidaaDoor
open Go.RowKit Go.Lib

theorem thereE_hit {l want : List Ent} {p : ByteArray} {k : Nat} {x : Ent} (hx : l[k]? = some x) (hp : x.path = p) (hs : staysE x want = true) (h : ∀ j y, j < k → l[j]? = some y → ¬ (y.path = p ∧ staysE y want = true)) : thereE l want p = some x := by
  obtain ⟨hk, hx'⟩ := List.getElem?_eq_some_iff.1 hx
  unfold thereE
  rw [List.find?_eq_some_iff_getElem]
  refine ⟨by simp [hp, hs], k, hk, hx', fun j hj => ?_⟩
  have := h j l[j] hj (List.getElem?_eq_getElem (by omega))
  by_cases h1 : l[j].path = p <;> simp_all
theorem thereE_miss {l want : List Ent} {p : ByteArray} (h : ∀ j y, j < l.length → l[j]? = some y → ¬ (y.path = p ∧ staysE y want = true)) : thereE l want p = none := by
  unfold thereE
  rw [List.find?_eq_none]
  intro x hx
  obtain ⟨j, hj, e⟩ := List.getElem_of_mem hx
  have := h j x hj (by rw [List.getElem?_eq_getElem hj, e])
  simpa using this

end Go.Proofs.YtgjgeojhhglidaaDoor
