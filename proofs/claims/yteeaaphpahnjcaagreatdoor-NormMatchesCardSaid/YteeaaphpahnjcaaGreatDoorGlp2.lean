/-
  arbourref09.Right.
-/
import Derived.Test.YteeaaphpahnjcaaGreatDoorGlp1
import Derived.Lib.QuietBelow
import Derived.BigQuiet
namespace Go.Proofs.YteeaaphpahnjcaaGreatDoor
open Go Go.RowKit Go.Lib
/-- A callee that leaves the world alone, met in a drawn region. -/
theorem regrown_same {P : Program} {f : FuncId} {args : Array Value} {w : World} {d : Nat} {os : Array Obj} {v : Value}
    (h : Calls P f args («Sort».grow (redrawn w d) os) fun e w' => e = .returned v ∧ «Sort».grow (redrawn w d) os = w') : Calls P f args («Sort».grow (redrawn w d) os) fun e w'' => e = .returned v ∧ ∃ p : Regrown, w'' = «Sort».grow (redrawn w p.d) p.os :=
  h.mono fun _ _ h => ⟨h.1, ⟨d, os⟩, h.2.symm⟩
end Go.Proofs.YteeaaphpahnjcaaGreatDoor
