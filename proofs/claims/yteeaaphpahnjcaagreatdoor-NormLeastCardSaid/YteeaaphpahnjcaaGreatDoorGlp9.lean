/-
  glob.Parse, whole.
-/
import Derived.Test.YteeaaphpahnjcaaGreatDoorGlp8
namespace Go.Proofs.YteeaaphpahnjcaaGreatDoor
open Go Go.RowKit Go.Lib Go.Shelf

attribute [local go_sem] Oper.semAt_some

theorem parse_all_nil (s : ByteArray) (h : s = ⟨#[]⟩) : parseG s.data.toList = ansG (goG [] (((linesF (s.size + 1) s.data.toList).map ba).map trimB)) := by
  subst h
  rfl
end Go.Proofs.YteeaaphpahnjcaaGreatDoor
