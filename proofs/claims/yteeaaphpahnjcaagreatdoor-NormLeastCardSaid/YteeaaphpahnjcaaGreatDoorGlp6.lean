/-
  glob.Parse: the ways out ahead of its loop.
-/
import Derived.Test.YteeaaphpahnjcaaGreatDoorGlp5
namespace Go.Proofs.YteeaaphpahnjcaaGreatDoor
open Go Go.RowKit Go.Lib Go.Shelf

attribute [local go_sem] Oper.semAt_some

theorem parse_short (s : ByteArray) (h : s.data.toList ≠ [] ∧ Lib.hasSuffix s.data.toList [10] = false) : parseG s.data.toList = ([], 30) := if_pos h
theorem parse_many (s : ByteArray) (h : Lib.hasSuffix s.data.toList [10] = true) (h2 : 16 < s.data.toList.count 10) : parseG s.data.toList = ([], 40) := by
  unfold parseG
  rw [if_neg (fun e => by rw [h] at e; exact Bool.noConfusion e.2), if_pos h2]
end Go.Proofs.YteeaaphpahnjcaaGreatDoor
