import Derived.Test.YtgjgeojhhglidaaDoorGlobW1
import Derived.Test.YtgjgeojhhglidaaDoorBoxes
import Derived.IntWalk
namespace Go.Proofs.YtgjgeojhhglidaaDoor
open Go.RowKit Go.Lib

theorem saysG_no {p : ByteArray} {x : Rul} (h1 : x.kind ≠ 1) (h2 : x.kind ≠ 2) : saysG p x = false := by simp [saysG, h1, h2]
theorem saysG_in {p : ByteArray} {x : Rul} (h : x.kind = 1 ∨ x.kind = 2) : saysG p x = withinG p x.text := by simp [saysG, h]
theorem longG_in (t : ByteArray) : -1 ≤ longG t ∧ longG t ≤ t.size := by unfold longG; split <;> omega
theorem keep4 {W w1 w2 : World} {p1 p2 p3 p4 : Addr} {v1 v2 v3 v4 : Value} (hb : Below W.heap.size W w1) (h : Below w1.heap.size w1 w2)
    (c1 : W.cell? p1 = some v1) (c2 : W.cell? p2 = some v2) (c3 : W.cell? p3 = some v3) (c4 : W.cell? p4 = some v4) (l1 : p1.block < W.heap.size) (l2 : p2.block < W.heap.size) (l3 : p3.block < W.heap.size) (l4 : p4.block < W.heap.size) :
    Below W.heap.size W w2 ∧ w2.cell? p1 = some v1 ∧ w2.cell? p2 = some v2 ∧ w2.cell? p3 = some v3 ∧ w2.cell? p4 = some v4 := by
  have hb2 := hb.trans (h.mono hb.size)
  exact ⟨hb2, (hb2.cell l1).trans c1, (hb2.cell l2).trans c2, (hb2.cell l3).trans c3, (hb2.cell l4).trans c4⟩
/-- The two variables of glob.decides: the result's, and the best rule so far. -/
def DecAt (w wr : World) (k : Int) (t : ByteArray) : Prop := Below w.heap.size w wr ∧ w.heap.size + 2 ≤ wr.heap.size ∧
  wr.cell? ⟨w.heap.size, 0, none⟩ = some (.int .i64 0) ∧ wr.cell? ⟨w.heap.size, 1, none⟩ = some (.string ⟨#[]⟩) ∧ (∀ i, wr.frozen? ⟨w.heap.size, i, none⟩ = false) ∧
  wr.cell? ⟨w.heap.size + 1, 0, none⟩ = some (.int .i64 k) ∧ wr.cell? ⟨w.heap.size + 1, 1, none⟩ = some (.string t) ∧ (∀ i, wr.frozen? ⟨w.heap.size + 1, i, none⟩ = false)
theorem DecAt.keeps {w wr w2 : World} {k : Int} {t : ByteArray} (h : DecAt w wr k t) (hb : Below wr.heap.size wr w2) : DecAt w w2 k t := by
  obtain ⟨h1, hs, r0, r1, rf, b0, b1, bf⟩ := h
  have la : w.heap.size < wr.heap.size := by omega
  have lb : w.heap.size + 1 < wr.heap.size := by omega
  have := hb.size
  exact ⟨h1.trans (hb.mono h1.size), by omega, (hb.cell (p := ⟨_, 0, none⟩) la).trans r0, (hb.cell (p := ⟨_, 1, none⟩) la).trans r1, fun i => (hb.frozen (p := ⟨_, i, none⟩) la).trans (rf i), (hb.cell (p := ⟨_, 0, none⟩) lb).trans b0, (hb.cell (p := ⟨_, 1, none⟩) lb).trans b1, fun i => (hb.frozen (p := ⟨_, i, none⟩) lb).trans (bf i)⟩
theorem DecAt.set {w wr : World} {k k' : Int} {t t' : ByteArray} (h : DecAt w wr k t) : DecAt w ((wr.setCell ⟨w.heap.size + 1, 0, none⟩ (.int .i64 k')).setCell ⟨w.heap.size + 1, 1, none⟩ (.string t')) k' t' := by
  obtain ⟨h1, hs, r0, r1, rf, b0, b1, bf⟩ := h
  obtain ⟨s0, s1, so, sf, ss, sb⟩ := two_set (v0 := .int .i64 k') (v1 := .string t') b0 b1
  exact ⟨sb _ _ (by omega) h1, by omega, (so _ _ (by omega)).trans r0, (so _ _ (by omega)).trans r1, fun i => (sf _ i).trans (rf i), s0, s1, fun i => (sf _ i).trans (bf i)⟩
theorem better_some {y x : Rul} : betterG (some y) x = (decide (longG y.text < longG x.text) || (longG x.text == longG y.text && x.kind == 2)) := rfl

end Go.Proofs.YtgjgeojhhglidaaDoor
