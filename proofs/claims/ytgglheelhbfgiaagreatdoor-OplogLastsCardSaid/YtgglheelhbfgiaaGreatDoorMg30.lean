/-
  What every row of this seat asks of the program's make. What the listed tables give the laws of seglog.
-/
import Derived.Test.YtgglheelhbfgiaaGreatDoorMg3
import Derived.Test.YtgglheelhbfgiaaGreatDoorCards
import Derived.Test.YtgglheelhbfgiaaGreatDoorTie
import Derived.Stop.Joined
import Derived.Test.YtgglheelhbfgiaaGreatDoorMg23
namespace Go.Proofs.YtgglheelhbfgiaaGreatDoor
open Go Go.RowKit Go.ChangeShapes Go.WideShapes Go.ChangeAt

theorem own : ownKnob Tryz.prog.godebug = none := by kernel_rfl
theorem laidOut : laidOutB Tryz.prog = true := by kernel_rfl
end Go.Proofs.YtgglheelhbfgiaaGreatDoor

namespace Go.Proofs.YtgglheelhbfgiaaGreatDoor
open Go Go.RowKit Go.ChangeShapes Go.WideShapes Go.ChangeAt
/-- What the listed tables give: the table of powers of ten. -/
theorem tab_of_laid {W : World} {l : List (String × DataW Unit)} (hm : ("internal/strconv.uint64pow10", Rows.laid_internal_strconv_uint64pow10) ∈ l) (hp : (l.all fun x => x.2.handleName?.isNone) = true) (h : laidMetH Tryz.prog l W) : TabD W := by
  rw [MakeChecks.laidMetH_plain _ _ _ hp] at h
  exact tabIs_of_reads (g := 0) (t := 253) (by kernel_rfl) (by kernel_rfl) Tryz.underlying253 Tryz.underlying173 (by kernel_rfl) (by kernel_rfl) (Lib.laidMet.reads h hm)
end Go.Proofs.YtgglheelhbfgiaaGreatDoor

