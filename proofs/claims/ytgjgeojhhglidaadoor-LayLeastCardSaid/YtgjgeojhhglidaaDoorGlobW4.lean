import Derived.Test.YtgjgeojhhglidaaDoorGlobW3
namespace Go.Proofs.YtgjgeojhhglidaaDoor
open Go.RowKit Go.Lib

theorem matchG_no {l : List Rul} {p : ByteArray} {dir : Bool} (h : ((bestG p l l.length).getD noRul).kind ≠ 1) : matchG l p dir = false := by
  unfold matchG
  cases hb : bestG p l l.length with
  | none => rfl
  | some y =>
    rw [hb] at h
    have h' : (y.kind == 1) = false := by rw [beq_eq_false_iff_ne]; exact h
    simp only [h', Bool.false_and]
theorem matchG_yes {l : List Rul} {p : ByteArray} {dir : Bool} (h : ((bestG p l l.length).getD noRul).kind = 1) : matchG l p dir = (dir || !l.any (fun x => x.kind == 3) || l.any fun x => x.kind == 3 && decide (x.text = endG p)) := by
  unfold matchG
  cases hb : bestG p l l.length with
  | none => rw [hb] at h; exact absurd h (by decide)
  | some y =>
    rw [hb] at h
    have h' : (y.kind == 1) = true := by rw [beq_iff_eq]; exact h
    simp only [h', Bool.true_and]
theorem last_in (s : ByteArray) : -1 ≤ Lib.lastIndexByte s 47 ∧ Lib.lastIndexByte s 47 < s.size := by
  rcases Lib.lastIndexByte_spec s 47 with ⟨e, _⟩ | ⟨i, hi, e, _⟩
  · rw [e]; omega
  · rw [e]; omega

end Go.Proofs.YtgjgeojhhglidaaDoor
