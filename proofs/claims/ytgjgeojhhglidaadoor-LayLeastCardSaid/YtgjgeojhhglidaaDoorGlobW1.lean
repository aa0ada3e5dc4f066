import Derived.Test.YtgjgeojhhglidaaDoorNamesW2
import Derived.Test.YtgjgeojhhglidaaDoorGlobPure
import Derived.Test.YtgjgeojhhglidaaDoorDrawn
import Derived.Test.YtgjgeojhhglidaaDoorCut
import Derived.StillTailTactics
namespace Go.Proofs.YtgjgeojhhglidaaDoor
open Go.RowKit Go.Lib

theorem within_dot {p d : ByteArray} (h : d = ⟨#[46]⟩) : withinG p d = true := by simp [withinG, h]
theorem within_same {p d : ByteArray} (h : p = d) : withinG p d = true := by simp [withinG, h]
theorem within_else {p d : ByteArray} (h1 : ¬ d = ⟨#[46]⟩) (h2 : ¬ p = d) : withinG p d = underB p d := by simp [withinG, h1, h2]

theorem dot_ne {d : ByteArray} (h : d ≠ ⟨#[46]⟩) : (d.toList == [46]) = false := by
  rw [toList_data, beq_eq_false_iff_ne]
  exact fun e => h (ba_ext e)
end Go.Proofs.YtgjgeojhhglidaaDoor
