/-
  What every row of this seat asks of the program's make.
-/
import Derived.Test.YtgjgeojhhglidaaDoorFrame
import Derived.Test.YtgjgeojhhglidaaDoorCards
import Derived.Test.YtgjgeojhhglidaaDoorTie
import Derived.Stop.Joined
namespace Go.Proofs.YtgjgeojhhglidaaDoor
open Go Go.RowKit Go.ChangeShapes Go.WideShapes Go.ChangeAt

theorem own : ownKnob Tryd.prog.godebug = none := by kernel_rfl
theorem laidOut : laidOutB Tryd.prog = true := by kernel_rfl
end Go.Proofs.YtgjgeojhhglidaaDoor
