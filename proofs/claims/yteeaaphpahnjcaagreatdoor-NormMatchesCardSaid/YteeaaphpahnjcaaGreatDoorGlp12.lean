/-
  The reference's Print: what it returns.
-/
import Derived.Test.YteeaaphpahnjcaaGreatDoorGlp11
namespace Go.Proofs.YteeaaphpahnjcaaGreatDoor
open Go Go.RowKit Go.Lib

theorem ba_app (a b : List UInt8) : ba a ++ ba b = ba (a ++ b) := by
  apply ByteArray.ext
  simp [ba]
end Go.Proofs.YteeaaphpahnjcaaGreatDoor
