/-
  A variable of several cells that is written, cell by cell. Of no program.
-/
import Derived.Test.YtgglheelhbfgiaaGreatDoorStructs
namespace Go.Proofs.YtgglheelhbfgiaaGreatDoor
open Go Go.RowKit

theorem cell_same {W W' : World} {b : Nat} (e : W'.heap[b]? = W.heap[b]?) (i : Nat) : W'.cell? ⟨b, i, none⟩ = W.cell? ⟨b, i, none⟩ := by simp [World.cell?, e]
theorem frozen_same {W W' : World} {b : Nat} (e : W'.heap[b]? = W.heap[b]?) (i : Nat) : W'.frozen? ⟨b, i, none⟩ = W.frozen? ⟨b, i, none⟩ := by simp [World.frozen?, e]
theorem heap_other (W : World) {b k i : Nat} (v : Value) (h : k ≠ b) : (W.setCell ⟨b, i, none⟩ v).heap[k]? = W.heap[k]? := Below.heap_setCell W ⟨b, i, none⟩ v k h

/-- Block b's first cells. -/
def VarAt (W : World) (b : Nat) (cs : List Value) : Prop := b < W.heap.size ∧ (∀ i, W.frozen? ⟨b, i, none⟩ = false) ∧ ∀ i v, cs[i]? = some v → W.cell? ⟨b, i, none⟩ = some v
theorem VarAt.same {W W' : World} {b : Nat} {cs : List Value} (h : VarAt W b cs) (e : W'.heap[b]? = W.heap[b]?) (hs : W.heap.size ≤ W'.heap.size) : VarAt W' b cs :=
  ⟨Nat.lt_of_lt_of_le h.1 hs, fun i => (frozen_same e i).trans (h.2.1 i), fun i v hv => (cell_same e i).trans (h.2.2 i v hv)⟩
theorem VarAt.grown {W W' : World} {b : Nat} {cs : List Value} {row : Option Nat} (h : VarAt W b cs) (hg : W.grownBy W' row) (hne : some b ≠ row) : VarAt W' b cs :=
  h.same (hg.block b h.1 hne) hg.size
theorem VarAt.keeps {W W' : World} {b B : Nat} {cs : List Value} (h : VarAt W b cs) (hb : Below B W W') (hlt : b < B) : VarAt W' b cs :=
  h.same (hb.block b hlt) hb.size
theorem VarAt.set {W : World} {b : Nat} {cs : List Value} (h : VarAt W b cs) (i : Nat) (v : Value) (hi : i < cs.length) : VarAt (W.setCell ⟨b, i, none⟩ v) b (cs.set i v) := by
  refine ⟨by simpa using h.1, fun j => by simpa using h.2.1 j, fun j u hj => ?_⟩
  by_cases e : j = i
  · subst e
    rw [List.getElem?_set_self hi] at hj
    cases hj
    exact World.cell?_setCell_same _ _ _ (h.2.2 j _ (List.getElem?_eq_getElem hi))
  · rw [List.getElem?_set_ne (Ne.symm e)] at hj
    rw [World.cell?_setCell_other _ _ _ _ (by intro h; injection h with _ h2; exact e h2.symm)]
    exact h.2.2 j u hj
theorem VarAt.other {W : World} {b k i : Nat} {cs : List Value} (h : VarAt W b cs) (v : Value) (hne : b ≠ k) : VarAt (W.setCell ⟨k, i, none⟩ v) b cs :=
  h.same (heap_other W v hne) (by simp)
theorem VarAt.new (W : World) (cs : Array Value) (T : TypeId) : VarAt (W.alloc (.cells cs T)) W.heap.size cs.toList := by
  refine ⟨by simp, fun i => by simp, fun i v h => ?_⟩
  rw [show (W.alloc (.cells cs T)).cell? ⟨W.heap.size, i, none⟩ = cs[i]? by simp]
  simpa using h
theorem VarAt.drew {W : World} {b : Nat} {cs : List Value} (h : VarAt W b cs) (n : Nat) : VarAt (W.drewN n) b cs := h
theorem belowDrew {B : Nat} {a w : World} (h : Below B a w) (n : Nat) : Below B a (w.drewN n) := h.trans ⟨rfl, rfl, rfl, Nat.le_refl _, fun _ _ => rfl⟩
end Go.Proofs.YtgglheelhbfgiaaGreatDoor
