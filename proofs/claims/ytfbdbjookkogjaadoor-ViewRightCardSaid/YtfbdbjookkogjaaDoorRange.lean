/-
  'for at := range s' at any world: the iterator lies in a block that is known. Of no program.
-/
import Derived.Test.YtfbdbjookkogjaaDoorBasics
import Derived.Laws.RangeAny
namespace Go.Proofs.YtfbdbjookkogjaaDoor
open Go Go.RowKit Go.MapKept
section
variable {P : Program}
theorem next_more {w : World} {k : Nat} {s : ByteArray} {pos : Nat} (hk : w.heap[k]? = some (.stringIter s pos)) (h : pos < s.size) : ∃ w', (∀ ty, (Instr.next (.pointer (some ⟨k, 0, none⟩)) true ty).run P w = .ok (.tuple #[.bool true, .int .i64 pos, .int .i32 (Utf8.decode s pos).1]) w') ∧
    w'.heap[k]? = some (.stringIter s (pos + (Utf8.decode s pos).2)) ∧ w.grownBy w' (some k) := by
  refine ⟨{ w with heap := w.heap.setIfInBounds k (.stringIter s (pos + (Utf8.decode s pos).2)) }, fun ty => ?_, (heap_set hk).1, ⟨rfl, rfl, rfl, by simp, fun i _ hi => (heap_set hk).2 i (fun e => hi (by rw [e]))⟩⟩
  simp only [Instr.next, getObj, setObj, Sem.run_bind, Sem.run, hk, Result.andThen, h, if_true]
  simp [goInt]
theorem next_done {w : World} {k : Nat} {s : ByteArray} {pos : Nat} (hk : w.heap[k]? = some (.stringIter s pos)) (h : ¬ pos < s.size) : ∀ ty, (Instr.next (.pointer (some ⟨k, 0, none⟩)) true ty).run P w = .ok (.tuple #[.bool false]) w := by
  intro ty
  simp [Instr.next, getObj, Sem.run, hk, h]
theorem iter_new (w : World) (s : ByteArray) (b : Nat) (hb : b = w.heap.size) : (w.iter s 0).heap[b]? = some (.stringIter s 0) := by
  subst hb; exact World.iter_heap w s 0
end
end Go.Proofs.YtfbdbjookkogjaaDoor
