/-
  What every row of this seat asks of the program's make.
-/
import Derived.Test.YtalkckalbmaghaaDoorFrame
import Derived.Test.YtalkckalbmaghaaDoorCards
import Derived.Test.YtalkckalbmaghaaDoorTie
import Derived.Stop.Joined
namespace Go.Proofs.YtalkckalbmaghaaDoor
open Go Go.RowKit Go.ChangeShapes Go.WideShapes Go.ChangeAt

theorem own : ownKnob Tryd.prog.godebug = none := by kernel_rfl
theorem laidOut : laidOutB Tryd.prog = true := by kernel_rfl
end Go.Proofs.YtalkckalbmaghaaDoor
