/-
  What the listed tables give the laws of names.
-/
import Derived.Test.YtfbdbjookkogjaaDoorNamesLaws
import Derived.Test.YtfbdbjookkogjaaDoorFrame
import Derived.Test.YtfbdbjookkogjaaDoorCards
import Derived.Test.YtfbdbjookkogjaaDoorTie
import Derived.Stop.Joined
namespace Go.Proofs.YtfbdbjookkogjaaDoor
open Go Go.RowKit Go.ChangeShapes Go.WideShapes Go.ChangeAt

theorem own : ownKnob Tryd.prog.godebug = none := by kernel_rfl
theorem laidOut : laidOutB Tryd.prog = true := by kernel_rfl
/-- What the listed tables give: the table of powers of ten. -/
theorem tab_of_laid {W : World} {l : List (String × DataW Unit)} (hm : ("internal/strconv.uint64pow10", Rows.laid_internal_strconv_uint64pow10) ∈ l) (hp : (l.all fun x => x.2.handleName?.isNone) = true) (h : laidMetH Tryd.prog l W) : Tab W := by
  rw [MakeChecks.laidMetH_plain _ _ _ hp] at h
  exact tabIs_of_reads (g := 3) (t := 147) (by kernel_rfl) (by kernel_rfl) Tryd.underlying147 Tryd.underlying141 (by kernel_rfl) (by kernel_rfl) (Lib.laidMet.reads h hm)

end Go.Proofs.YtfbdbjookkogjaaDoor
