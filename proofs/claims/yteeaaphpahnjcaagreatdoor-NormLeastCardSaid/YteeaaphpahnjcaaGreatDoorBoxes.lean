/-
  A variable of two cells that is written. Of no program.
-/
import Derived.Test.YteeaaphpahnjcaaGreatDoorStructs
namespace Go.Proofs.YteeaaphpahnjcaaGreatDoor
open Go Go.RowKit

/-- Two stores, one behind the other, into a block of its own. -/
theorem two_set {w : World} {b : Nat} {u0 u1 v0 v1 : Value} (h0 : w.cell? ⟨b, 0, none⟩ = some u0) (h1 : w.cell? ⟨b, 1, none⟩ = some u1) :
    ((w.setCell ⟨b, 0, none⟩ v0).setCell ⟨b, 1, none⟩ v1).cell? ⟨b, 0, none⟩ = some v0 ∧ ((w.setCell ⟨b, 0, none⟩ v0).setCell ⟨b, 1, none⟩ v1).cell? ⟨b, 1, none⟩ = some v1 ∧
    (∀ q i, q ≠ b → ((w.setCell ⟨b, 0, none⟩ v0).setCell ⟨b, 1, none⟩ v1).cell? ⟨q, i, none⟩ = w.cell? ⟨q, i, none⟩) ∧
    (∀ q i, ((w.setCell ⟨b, 0, none⟩ v0).setCell ⟨b, 1, none⟩ v1).frozen? ⟨q, i, none⟩ = w.frozen? ⟨q, i, none⟩) ∧
    ((w.setCell ⟨b, 0, none⟩ v0).setCell ⟨b, 1, none⟩ v1).heap.size = w.heap.size ∧
    (∀ B a, B ≤ b → Below B a w → Below B a ((w.setCell ⟨b, 0, none⟩ v0).setCell ⟨b, 1, none⟩ v1)) := by
  have hne : (⟨b, 1, none⟩ : Addr) ≠ ⟨b, 0, none⟩ := by simp
  have hne' : (⟨b, 0, none⟩ : Addr) ≠ ⟨b, 1, none⟩ := by simp
  refine ⟨?_, ?_, fun q i hq => ?_, fun q i => by simp, by simp, fun B a hB h => (h.setCell (p := ⟨b, 0, none⟩) hB v0).setCell (p := ⟨b, 1, none⟩) hB v1⟩
  · rw [World.cell?_setCell_other _ _ _ _ hne, World.cell?_setCell_same _ _ _ h0]
  · exact World.cell?_setCell_same _ _ _ ((World.cell?_setCell_other _ _ _ _ hne').trans h1)
  · have e0 : (⟨b, 0, none⟩ : Addr) ≠ ⟨q, i, none⟩ := fun e => hq (by injection e with e1; exact e1.symm)
    have e1 : (⟨b, 1, none⟩ : Addr) ≠ ⟨q, i, none⟩ := fun e => hq (by injection e with e1; exact e1.symm)
    rw [World.cell?_setCell_other _ _ _ _ e1, World.cell?_setCell_other _ _ _ _ e0]
end Go.Proofs.YteeaaphpahnjcaaGreatDoor
