/-
  What every row of this seat asks of the program's make.
-/
import Derived.Test.YtgglheelhbfgiaaGreatDoorFrame
import Derived.Test.YtgglheelhbfgiaaGreatDoorCards
import Derived.Test.YtgglheelhbfgiaaGreatDoorTie
import Derived.Stop.Joined
namespace Go.Proofs.YtgglheelhbfgiaaGreatDoor
open Go Go.RowKit Go.ChangeShapes Go.WideShapes Go.ChangeAt

theorem own : ownKnob Tryz.prog.godebug = none := by kernel_rfl
theorem laidOut : laidOutB Tryz.prog = true := by kernel_rfl
end Go.Proofs.YtgglheelhbfgiaaGreatDoor
