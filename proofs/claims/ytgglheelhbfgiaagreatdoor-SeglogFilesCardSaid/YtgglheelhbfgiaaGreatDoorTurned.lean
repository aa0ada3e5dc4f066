/-
  A frame: below B nothing has turned but the blocks of S. Of no program.
-/
import Derived.Test.YtgglheelhbfgiaaGreatDoorStructs
namespace Go.Proofs.YtgglheelhbfgiaaGreatDoor
open Go Go.RowKit

structure Turned (S : Nat → Prop) (B : Nat) (W W' : World) : Prop where
  os : W'.os = W.os
  tape : W'.tape = W.tape
  output : W'.output = W.output
  size : W.heap.size ≤ W'.heap.size
  block : ∀ k, k < B → ¬ S k → W'.heap[k]? = W.heap[k]?
theorem Turned.refl (S : Nat → Prop) (B : Nat) (W : World) : Turned S B W W := ⟨rfl, rfl, rfl, Nat.le_refl _, fun _ _ _ => rfl⟩
theorem Turned.trans {S : Nat → Prop} {B : Nat} {W W1 W2 : World} (h1 : Turned S B W W1) (h2 : Turned S B W1 W2) : Turned S B W W2 :=
  ⟨h2.os.trans h1.os, h2.tape.trans h1.tape, h2.output.trans h1.output, Nat.le_trans h1.size h2.size, fun k hk hs => (h2.block k hk hs).trans (h1.block k hk hs)⟩
theorem Turned.of_below {S : Nat → Prop} {B B' : Nat} {W W' : World} (h : Below B' W W') (hB : B ≤ B') : Turned S B W W' :=
  ⟨h.os, h.tape, h.output, h.size, fun k hk _ => h.block k (Nat.lt_of_lt_of_le hk hB)⟩
theorem Turned.of_grown {S : Nat → Prop} {B : Nat} {W W' : World} {row : Option Nat} (h : W.grownBy W' row) (hB : B ≤ W.heap.size) (hS : ∀ k, row = some k → k < B → S k) : Turned S B W W' :=
  ⟨h.os, h.tape, h.output, h.size, fun k hk hs => h.block k (Nat.lt_of_lt_of_le hk hB) (fun e => hs (hS k e.symm hk))⟩
theorem Turned.mono {S S' : Nat → Prop} {B B' : Nat} {W W' : World} (h : Turned S B W W') (hB : B' ≤ B) (hS : ∀ k, k < B' → S k → S' k) : Turned S' B' W W' :=
  ⟨h.os, h.tape, h.output, h.size, fun k hk hs => h.block k (Nat.lt_of_lt_of_le hk hB) (fun e => hs (hS k hk e))⟩
theorem Turned.below {S : Nat → Prop} {B B' : Nat} {W W' : World} (h : Turned S B W W') (hB : B' ≤ B) (hS : ∀ k, k < B' → ¬ S k) : Below B' W W' :=
  ⟨h.os, h.tape, h.output, h.size, fun k hk => h.block k (Nat.lt_of_lt_of_le hk hB) (hS k hk)⟩
theorem Turned.set {S : Nat → Prop} {B b : Nat} {W W' : World} (h : Turned S B W W') (i : Nat) (v : Value) (hb : b < B → S b) : Turned S B W (W'.setCell ⟨b, i, none⟩ v) :=
  ⟨h.os, h.tape, h.output, by simpa using h.size, fun k hk hs => by
    rw [Below.heap_setCell W' ⟨b, i, none⟩ v k (fun e => hs (by
      have e2 : k = b := e
      rw [e2]
      exact hb (by rw [← e2]; exact hk)))]
    exact h.block k hk hs⟩
theorem Turned.alloc {S : Nat → Prop} {B : Nat} {W W' : World} (h : Turned S B W W') (hB : B ≤ W'.heap.size) (o : Obj) : Turned S B W (W'.alloc o) :=
  h.trans (Turned.of_below ((Below.refl W'.heap.size W').alloc (Nat.le_refl _) o) hB)
theorem Turned.drewN {S : Nat → Prop} {B : Nat} {W W' : World} (h : Turned S B W W') (n : Nat) : Turned S B W (W'.drewN n) :=
  ⟨h.os, h.tape, h.output, h.size, h.block⟩
theorem OwnRows.turned {α : Type} {L : Lay α} {W W' : World} {S : Nat → Prop} {base : Nat} {e : TypeId} {v : Value} {xs : List α} (h : OwnRows L W base e v xs) (ht : Turned S W.heap.size W W') (hS : ∀ k, S k → k < base) : OwnRows L W' base e v xs := by
  refine ⟨h.1, ?_⟩
  rcases h.2 with hn | ⟨g, cap, cur, rfl, hg, hgg, rest⟩
  · exact .inl hn
  · refine .inr ⟨g, cap, cur, rfl, hg, ?_, rest⟩
    rw [ht.block g (Array.getElem?_eq_some_iff.1 hgg).1 (fun hs => by have := hS g hs; omega)]
    exact hgg
theorem RowsAt.turned {α : Type} {L : Lay α} {W W' : World} {S : Nat → Prop} {B : Nat} {a : Option Addr} {xs : List α} (h : RowsAt L W a xs) (ht : Turned S B W W') (hB : ∀ ad, a = some ad → ad.block < B ∧ ¬ S ad.block) : RowsAt L W' a xs := by
  intro j x hj
  obtain ⟨b, off, rfl, hlt, hc⟩ := h j x hj
  obtain ⟨h1, h2⟩ := hB _ rfl
  refine ⟨b, off, rfl, Nat.lt_of_lt_of_le hlt ht.size, fun f v hf => ?_⟩
  have e : W'.cell? ⟨b, off + j * L.sz + f, none⟩ = W.cell? ⟨b, off + j * L.sz + f, none⟩ := World.cell?_of_block (ht.block b h1 h2)
  rw [e]
  exact hc f v hf
end Go.Proofs.YtgglheelhbfgiaaGreatDoor
