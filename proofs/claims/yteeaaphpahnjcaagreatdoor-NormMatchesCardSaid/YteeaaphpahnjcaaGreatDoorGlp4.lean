/-
  strings.Lines: what its iterator gives.
-/
import Derived.Test.YteeaaphpahnjcaaGreatDoorGlp3
import Derived.Test.YteeaaphpahnjcaaGreatDoorRangeBox
import Derived.RangeFuncBox
import Derived.RangeFuncLeaves
import Derived.RangeFuncCalls
import Derived.Shelf.Abstract
import Derived.WalkKit
import Derived.OwnWalkIn
import Derived.TacticsInMore
import Derived.RegionIn
import Derived.LoopNIn
import Derived.LoopIn
import Derived.Sort.AtCallIn
namespace Go.Proofs.YteeaaphpahnjcaaGreatDoor
open Go Go.RowKit Go.Lib Go.Shelf

attribute [local go_sem] Oper.semAt_some

/-- The text that the iterator has still before it. -/
def restOf (W : World) (bx : Nat) : Nat := match W.cell? ⟨bx, 0, none⟩ with
  | some (.string s) => s.size
  | _ => 0
theorem restOf_eq {W : World} {bx : Nat} {s : ByteArray} (h : W.cell? ⟨bx, 0, none⟩ = some (.string s)) : restOf W bx = s.size := by unfold restOf; rw [h]
theorem linesF_nil (f : Nat) : linesF f [] = [] := by cases f <;> simp [linesF]
theorem linesF_last {f : Nat} {l : List UInt8} (h0 : l ≠ []) (h : indexByte l 10 = -1) : linesF (f + 1) l = [l] := by unfold linesF; rw [if_neg h0, if_pos h]
theorem linesF_cut {f i : Nat} {l : List UInt8} (h0 : l ≠ []) (h : indexByte l 10 = i) : linesF (f + 1) l = l.take (i + 1) :: linesF f (l.drop (i + 1)) := by
  have e : linesF (f + 1) l = if l = [] then [] else if indexByte l 10 = -1 then [l] else l.take ((indexByte l 10).toNat + 1) :: linesF f (l.drop ((indexByte l 10).toNat + 1)) := rfl
  rw [e, if_neg h0, if_neg (by rw [h]; omega), h, Int.toNat_natCast]

theorem extract_head (r : ByteArray) (k : Nat) : (r.extract 0 k).data.toList = r.data.toList.take k := by
  rw [ByteArray.data_extract, Array.toList_extract]
  simp [List.extract_eq_take_drop]
theorem extract_tail (r : ByteArray) (k : Nat) : (r.extract k r.size).data.toList = r.data.toList.drop k := by
  rw [ByteArray.data_extract, Array.toList_extract, List.extract_eq_take_drop, List.take_of_length_le (by rw [List.length_drop, ← size_eq]; exact Nat.le_refl _)]
theorem ba_head (r : ByteArray) (k : Nat) : ba (r.data.toList.take k) = r.extract 0 k := by rw [← extract_head, ba_back]

end Go.Proofs.YteeaaphpahnjcaaGreatDoor
