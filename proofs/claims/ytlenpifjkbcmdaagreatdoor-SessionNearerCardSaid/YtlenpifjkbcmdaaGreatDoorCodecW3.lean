import Derived.Test.YtlenpifjkbcmdaaGreatDoorCodecW2
namespace Go.Proofs.YtlenpifjkbcmdaaGreatDoor
open Go Go.RowKit Go.Lib

/-- arbourref01.Reader's cells. -/
def RrCells (W : World) (b : Nat) (d : ByteArray) (e : Int) : Prop := W.cell? ⟨b, 0, none⟩ = some (.string d) ∧ W.cell? ⟨b, 1, none⟩ = some (.int .i64 e) ∧ (∀ i, W.frozen? ⟨b, i, none⟩ = false) ∧ b < W.heap.size
theorem RrCells.keeps {W W' : World} {b : Nat} {d : ByteArray} {e : Int} (h : RrCells W b d e) {B : Nat} (hb : Below B W W') (hlt : b < B) : RrCells W' b d e := by
  obtain ⟨h0, h1, hf, hl⟩ := h
  exact ⟨(hb.cell (p := ⟨b, 0, none⟩) hlt).trans h0, (hb.cell (p := ⟨b, 1, none⟩) hlt).trans h1, fun i => (hb.frozen (p := ⟨b, i, none⟩) hlt).trans (hf i), Nat.lt_of_lt_of_le hl hb.size⟩
theorem RrCells.setErr {W : World} {b : Nat} {d : ByteArray} {e : Int} (h : RrCells W b d e) (e' : Int) : RrCells (W.setCell ⟨b, 1, none⟩ (.int .i64 e')) b d e' := by
  obtain ⟨h0, h1, hf, hl⟩ := h
  refine ⟨?_, World.cell?_setCell_same _ _ _ h1, fun i => by simpa using hf i, by simpa using hl⟩
  rw [World.cell?_setCell_other _ _ _ _ (by simp)]; exact h0
theorem RrCells.setText {W : World} {b : Nat} {d : ByteArray} {e : Int} (h : RrCells W b d e) (d' : ByteArray) : RrCells (W.setCell ⟨b, 0, none⟩ (.string d')) b d' e := by
  obtain ⟨h0, h1, hf, hl⟩ := h
  refine ⟨World.cell?_setCell_same _ _ _ h0, ?_, fun i => by simpa using hf i, by simpa using hl⟩
  rw [World.cell?_setCell_other _ _ _ _ (by simp)]; exact h1
def RrAt (W : World) (b : Nat) (r : Rd) : Prop := ∃ d : ByteArray, RrCells W b d r.err ∧ d.size ≤ 100000000 ∧ (r.err = 0 → r.rest = d.data.toList)
theorem RrAt.keeps {W W' : World} {b : Nat} {r : Rd} (h : RrAt W b r) {B : Nat} (hb : Below B W W') (hlt : b < B) : RrAt W' b r := by
  obtain ⟨d, hc, r⟩ := h
  exact ⟨d, hc.keeps hb hlt, r⟩
theorem RrAt.lt {W : World} {b : Nat} {r : Rd} (h : RrAt W b r) : b < W.heap.size := by
  obtain ⟨d, hc, _⟩ := h
  exact hc.2.2.2
theorem rrCell {W : World} {b : Nat} {r : Rd} (h : RrAt W b r) : W.cell? ⟨b, 1, none⟩ = some (.int .i64 r.err) := by
  obtain ⟨d, hc, _⟩ := h
  exact hc.2.1
theorem drop_extract (d : ByteArray) (n : Nat) : (d.extract n d.size).data.toList = d.data.toList.drop n := by
  rw [ByteArray.data_extract, Array.toList_extract, List.extract_eq_take_drop, List.take_of_length_le (by rw [List.length_drop, ← size_eq]; exact Nat.le_refl _)]
theorem drop_size (d : ByteArray) (n : Nat) : (d.extract n d.size).size ≤ d.size := by rw [ByteArray.size_extract]; omega
theorem list_at (d : ByteArray) (k : Nat) (h : k < d.size) : d.data.toList[k]? = some d[k] := List.getElem?_eq_getElem (by rw [← size_eq]; exact h)

theorem u64_wrap64 (u : Nat) (h : u < 18446744073709551616) : IntKind.u64.wrap (wrap64 (u : Int)) = u := by
  simp only [IntKind.wrap, IntKind.signed, IntKind.bits, wrap64]
  simp
  omega
theorem wrap64_small {u : Nat} (h : u ≤ 1000000000) : wrap64 (u : Int) = u := by unfold wrap64; omega

end Go.Proofs.YtlenpifjkbcmdaaGreatDoor
