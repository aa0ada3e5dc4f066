/-
  Slices that are only read, as lists. Of no program.
-/
import Derived.WalkKit
import Derived.Deep.QuietTactic
import Derived.BigQuiet
import Derived.WalkSmall
import Derived.Lib.Hide
import Derived.Lib.TrimByte
namespace Go.Proofs.YtgglheelhbfgiaaGreatDoor
open Go Go.RowKit

theorem ba_ext {a b : ByteArray} (h : a.data.toList = b.data.toList) : a = b := by
  apply ByteArray.ext
  exact Array.toList_inj.1 h
instance baDec : DecidableEq ByteArray := fun a b => decidable_of_iff (a.data.toList = b.data.toList) ⟨ba_ext, fun h => by rw [h]⟩
/-- The cells from a on hold cs (where there are any). -/
def CellsAt (w : World) (a : Option Addr) (cs : List Value) : Prop :=
  ∀ j, j < cs.length → ∃ b off, a = some ⟨b, off, none⟩ ∧ b < w.heap.size ∧ w.cell? ⟨b, off + j, none⟩ = some (cs.getD j undef)
def StrsAt (w : World) (a : Option Addr) (ss : List ByteArray) : Prop :=
  ∀ j, j < ss.length → ∃ b off, a = some ⟨b, off, none⟩ ∧ b < w.heap.size ∧ w.cell? ⟨b, off + j, none⟩ = some (.string (ss.getD j ByteArray.empty))
theorem StrsAt.keeps {w w' : World} {a : Option Addr} {ss : List ByteArray} (h : StrsAt w a ss) (hb : Below w.heap.size w w') : StrsAt w' a ss := by
  intro j hj
  obtain ⟨b, off, e, hlt, hc⟩ := h j hj
  exact ⟨b, off, e, Nat.lt_of_lt_of_le hlt hb.size, by rw [hb.cell (p := ⟨b, off + j, none⟩) hlt]; exact hc⟩
theorem StrsAt.nil (w : World) (a : Option Addr) : StrsAt w a [] := fun _ hj => absurd hj (Nat.not_lt_zero _)
theorem StrsAt.take {w : World} {a : Option Addr} {ss : List ByteArray} (h : StrsAt w a ss) (k : Nat) : StrsAt w a (ss.take k) := by
  intro j hj
  simp only [List.length_take] at hj
  obtain ⟨b, off, e, hlt, hc⟩ := h j (by omega)
  refine ⟨b, off, e, hlt, ?_⟩
  rw [hc]
  simp only [List.getD_eq_getElem?_getD]
  rw [List.getElem?_take_of_lt (by omega)]
/-- What append leaves is such a slice. -/
theorem strsAt_of_ownsRow {w : World} {base : Nat} {e : TypeId} {a : Option Addr} {len cap n : Nat} {ss : List ByteArray} (h : w.ownsRow base e 1 (.slice a len cap) n (ss.map Value.string)) : StrsAt w a ss ∧ len = ss.length ∧ n = ss.length := by
  have hl := h.1
  simp at hl
  rcases h.2 with ⟨hv, hx⟩ | ⟨g, cap', cur, hv, hg, hh, hn, hcap, hsz, htake⟩
  · cases hv
    have : ss = [] := List.length_eq_zero_iff.1 (by omega)
    subst this
    exact ⟨StrsAt.nil _ _, rfl, by simpa using hx⟩
  · cases hv
    refine ⟨fun j hj => ⟨g, 0, rfl, (h.lt g rfl).2, ?_⟩, hl.symm, hl.symm⟩
    have := h.cells (g := g) rfl j (.string (ss.getD j ByteArray.empty)) (by simp [hj])
    have e : ((⟨g, 0, none⟩ : Addr).add j) = ⟨g, 0 + j, none⟩ := by unfold Addr.add; split <;> simp_all
    rwa [e] at this
end Go.Proofs.YtgglheelhbfgiaaGreatDoor
