/-
  Several cells of one block, written one behind the other. Of no program.
-/
import Derived.Test.YtgglheelhbfgiaaGreatDoorTurned
import Derived.Test.YtgglheelhbfgiaaGreatDoorCells
namespace Go.Proofs.YtgglheelhbfgiaaGreatDoor
open Go Go.RowKit

def putRow (W : World) (b : Nat) : Nat → List Value → World
  | _, [] => W
  | i, v :: vs => putRow (W.setCell ⟨b, i, none⟩ v) b (i + 1) vs
theorem putRow_block {b k : Nat} (h : k ≠ b) : ∀ (vs : List Value) (i : Nat) (W : World), (putRow W b i vs).heap[k]? = W.heap[k]?
  | [], _, _ => rfl
  | v :: vs, i, W => (putRow_block h vs (i + 1) _).trans (heap_other W v h)
theorem putRow_size {b : Nat} : ∀ (vs : List Value) (i : Nat) (W : World), (putRow W b i vs).heap.size = W.heap.size
  | [], _, _ => rfl
  | v :: vs, i, W => (putRow_size vs (i + 1) _).trans (by simp)
theorem VarAt.putFrom {b : Nat} : ∀ (vs : List Value) (i : Nat) (W : World) (cs : List Value), VarAt W b cs → cs.length = i + vs.length → VarAt (putRow W b i vs) b (cs.take i ++ vs)
  | [], i, W, cs, h, hl => by
    rw [List.append_nil, List.take_of_length_le (by simp at hl; omega)]
    exact h
  | v :: vs, i, W, cs, h, hl => by
    have hi : i < cs.length := by simp at hl; omega
    have := VarAt.putFrom vs (i + 1) _ _ (h.set i v hi) (by simp at hl ⊢; omega)
    rw [List.take_succ_eq_append_getElem (by simpa using hi), List.getElem_set_self, List.take_set_of_le (Nat.le_refl _), List.append_assoc] at this
    exact this
theorem VarAt.put {b : Nat} {W : World} {cs : List Value} (h : VarAt W b cs) (vs : List Value) (hl : cs.length = vs.length) : VarAt (putRow W b 0 vs) b vs := by
  have := VarAt.putFrom vs 0 W cs h (by omega)
  simpa using this
theorem VarAt.putOther {b k : Nat} {W : World} {cs : List Value} (h : VarAt W k cs) (vs : List Value) (i : Nat) (hne : k ≠ b) : VarAt (putRow W b i vs) k cs :=
  h.same (putRow_block hne vs i W) (Nat.le_of_eq (putRow_size vs i W).symm)
theorem Turned.put {S : Nat → Prop} {B b : Nat} {W W' : World} (h : Turned S B W W') (vs : List Value) (i : Nat) (hb : b < B → S b) : Turned S B W (putRow W' b i vs) := by
  induction vs generalizing W' i with
  | nil => exact h
  | cons v vs ih => exact ih (h.set i v hb) (i + 1)
theorem belowPut {B b : Nat} {W W' : World} (h : Below B W W') (vs : List Value) (i : Nat) (hb : B ≤ b) : Below B W (putRow W' b i vs) := by
  induction vs generalizing W' i with
  | nil => exact h
  | cons v vs ih => exact ih (h.setCell (p := ⟨b, i, none⟩) hb v) (i + 1)
end Go.Proofs.YtgglheelhbfgiaaGreatDoor
