import Derived.Test.YtgjgeojhhglidaaDoorLayW1
import Derived.Handy
namespace Go.Proofs.YtgjgeojhhglidaaDoor
open Go.RowKit Go.Lib

theorem findE_hit {l : List Ent} {p : ByteArray} {k : Nat} {x : Ent} (hx : l[k]? = some x) (hp : x.path = p) (h : ∀ j y, j < k → l[j]? = some y → y.path ≠ p) : findE l p = some x := by
  obtain ⟨hk, hx'⟩ := List.getElem?_eq_some_iff.1 hx
  unfold findE
  rw [List.find?_eq_some_iff_getElem]
  refine ⟨by simpa using hp, k, hk, hx', fun j hj => ?_⟩
  have := h j l[j] hj (List.getElem?_eq_getElem (by omega))
  simpa using this
theorem findE_miss {l : List Ent} {p : ByteArray} (h : ∀ j y, j < l.length → l[j]? = some y → y.path ≠ p) : findE l p = none := by
  unfold findE
  rw [List.find?_eq_none]
  intro x hx
  obtain ⟨j, hj, e⟩ := List.getElem_of_mem hx
  have := h j x hj (by rw [List.getElem?_eq_getElem hj, e])
  simpa using this

theorem ret_bool2 (b : Bool) : Ending.returned (.bool b) = .returned (.bool b) := rfl
theorem staysE_some {x y : Ent} {want : List Ent} (h : findE want x.path = some y) : staysE x want = (x.dir == y.dir) := by simp [staysE, h]
theorem staysE_none {x : Ent} {want : List Ent} (h : findE want x.path = none) : staysE x want = false := by simp [staysE, h]

end Go.Proofs.YtgjgeojhhglidaaDoor
