/-
  What the listed tables give the laws of names.
-/
import Derived.Test.YtfbdbjookkogjaaDoorNamesG
import Derived.Test.YtfbdbjookkogjaaDoorFrame
import Derived.Test.YtfbdbjookkogjaaDoorCards
import Derived.Test.YtfbdbjookkogjaaDoorTie
import Derived.Stop.Joined
namespace Go.Proofs.YtfbdbjookkogjaaDoor
open Go.RowKit Go.Lib

/-- One list of three texts, freshly made. -/
theorem strsAt_three (w : World) (x y z : ByteArray) (t : TypeId) : StrsAt (w.alloc (.cells #[.string x, .string y, .string z] t)) (some ⟨w.heap.size, 0, none⟩) [x, y, z] := by
  intro j hj
  refine ⟨w.heap.size, 0, rfl, by simp, ?_⟩
  match j, hj with
  | 0, _ => simp
  | 1, _ => simp
  | 2, _ => simp
  | j + 3, hj => simp at hj; omega

def exA : ByteArray := ⟨#[97]⟩
def exA1 : ByteArray := ⟨#[97, 126, 49]⟩
def exA2 : ByteArray := ⟨#[97, 126, 50]⟩
theorem ex_unique : uniqueL [⟨#[97]⟩, ⟨#[97]⟩, ⟨#[97, 126, 49]⟩] = [⟨#[97]⟩, ⟨#[97, 126, 50]⟩, ⟨#[97, 126, 49]⟩] ∧ uniqueN [⟨#[97]⟩, ⟨#[97]⟩, ⟨#[97, 126, 49]⟩] = 0 := by decide +kernel
theorem ex_copy : copyL (⟨#[97, 46, 116, 120, 116]⟩ : ByteArray).data.toList 2 = [97, 126, 50, 46, 116, 120, 116] ∧ copyN (⟨#[97, 46, 116, 120, 116]⟩ : ByteArray).data.toList 2 = 0 := by decide +kernel
theorem ex_right : rightN (⟨#[97, 47, 98]⟩ : ByteArray).data.toList = 23 := by decide +kernel
theorem ex_same : sameB [⟨#[97]⟩, ⟨#[97, 126, 50]⟩, ⟨#[97, 126, 49]⟩] [⟨#[97]⟩, ⟨#[97, 126, 50]⟩, ⟨#[97, 126, 49]⟩] = true := by decide +kernel

end Go.Proofs.YtfbdbjookkogjaaDoor

namespace Go.Proofs.YtfbdbjookkogjaaDoor
open Go Go.RowKit Go.ChangeShapes Go.WideShapes Go.ChangeAt

theorem own : ownKnob Tryd.prog.godebug = none := by kernel_rfl
theorem laidOut : laidOutB Tryd.prog = true := by kernel_rfl
/-- What the listed tables give: the table of powers of ten. -/
theorem tab_of_laid {W : World} {l : List (String × DataW Unit)} (hm : ("internal/strconv.uint64pow10", Rows.laid_internal_strconv_uint64pow10) ∈ l) (hp : (l.all fun x => x.2.handleName?.isNone) = true) (h : laidMetH Tryd.prog l W) : Tab W := by
  rw [MakeChecks.laidMetH_plain _ _ _ hp] at h
  exact tabIs_of_reads (g := 3) (t := 147) (by kernel_rfl) (by kernel_rfl) Tryd.underlying147 Tryd.underlying141 (by kernel_rfl) (by kernel_rfl) (Lib.laidMet.reads h hm)

end Go.Proofs.YtfbdbjookkogjaaDoor

