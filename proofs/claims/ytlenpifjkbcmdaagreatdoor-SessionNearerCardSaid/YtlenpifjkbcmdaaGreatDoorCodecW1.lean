import Derived.Test.YtlenpifjkbcmdaaGreatDoorKeys
import Derived.Test.YtlenpifjkbcmdaaGreatDoorStructs
import Derived.Test.YtlenpifjkbcmdaaGreatDoorCodecPure
import Derived.WalkSpells
import Derived.IntWalk
namespace Go.Proofs.YtlenpifjkbcmdaaGreatDoor
open Go Go.RowKit Go.Lib

/-- codec.Reader's cells. -/
def RdCells (W : World) (b : Nat) (d : ByteArray) (p : Nat) (e : Int) : Prop := W.cell? ⟨b, 0, none⟩ = some (.string d) ∧ W.cell? ⟨b, 1, none⟩ = some (.int .i64 p) ∧ W.cell? ⟨b, 2, none⟩ = some (.int .i64 e) ∧ (∀ i, W.frozen? ⟨b, i, none⟩ = false) ∧ b < W.heap.size
theorem RdCells.keeps {W W' : World} {b : Nat} {d : ByteArray} {p : Nat} {e : Int} (h : RdCells W b d p e) {B : Nat} (hb : Below B W W') (hlt : b < B) : RdCells W' b d p e := by
  obtain ⟨h0, h1, h2, hf, hl⟩ := h
  exact ⟨(hb.cell (p := ⟨b, 0, none⟩) hlt).trans h0, (hb.cell (p := ⟨b, 1, none⟩) hlt).trans h1, (hb.cell (p := ⟨b, 2, none⟩) hlt).trans h2, fun i => (hb.frozen (p := ⟨b, i, none⟩) hlt).trans (hf i), Nat.lt_of_lt_of_le hl hb.size⟩
theorem RdCells.setErr {W : World} {b : Nat} {d : ByteArray} {p : Nat} {e : Int} (h : RdCells W b d p e) (e' : Int) : RdCells (W.setCell ⟨b, 2, none⟩ (.int .i64 e')) b d p e' := by
  obtain ⟨h0, h1, h2, hf, hl⟩ := h
  refine ⟨?_, ?_, World.cell?_setCell_same _ _ _ h2, fun i => by simpa using hf i, by simpa using hl⟩
  · rw [World.cell?_setCell_other _ _ _ _ (by simp)]; exact h0
  · rw [World.cell?_setCell_other _ _ _ _ (by simp)]; exact h1
theorem RdCells.setPos {W : World} {b : Nat} {d : ByteArray} {p : Nat} {e : Int} (h : RdCells W b d p e) (p' : Nat) : RdCells (W.setCell ⟨b, 1, none⟩ (.int .i64 p')) b d p' e := by
  obtain ⟨h0, h1, h2, hf, hl⟩ := h
  refine ⟨?_, World.cell?_setCell_same _ _ _ h1, ?_, fun i => by simpa using hf i, by simpa using hl⟩
  · rw [World.cell?_setCell_other _ _ _ _ (by simp)]; exact h0
  · rw [World.cell?_setCell_other _ _ _ _ (by simp)]; exact h2
theorem RdCells.drewN {W : World} {b : Nat} {d : ByteArray} {p : Nat} {e : Int} (h : RdCells W b d p e) (n : Nat) : RdCells (W.drewN n) b d p e := h
/-- codec.Reader, as it lies in memory. -/
def RdAt (W : World) (b : Nat) (r : Rd) : Prop := ∃ (d : ByteArray) (p : Nat), RdCells W b d p r.err ∧ p ≤ d.size ∧ d.size ≤ 100000000 ∧ (r.err = 0 → r.rest = d.data.toList.drop p)
theorem RdAt.keeps {W W' : World} {b : Nat} {r : Rd} (h : RdAt W b r) {B : Nat} (hb : Below B W W') (hlt : b < B) : RdAt W' b r := by
  obtain ⟨d, p, hc, r⟩ := h
  exact ⟨d, p, hc.keeps hb hlt, r⟩
theorem RdAt.drewN {W : World} {b : Nat} {r : Rd} (h : RdAt W b r) (n : Nat) : RdAt (W.drewN n) b r := h
theorem RdAt.lt {W : World} {b : Nat} {r : Rd} (h : RdAt W b r) : b < W.heap.size := by
  obtain ⟨d, p, hc, _⟩ := h
  exact hc.2.2.2.2
def takeR (r : Rd) (n : Nat) : List UInt8 × Rd := if r.rest.length < n then ([], ⟨10, []⟩) else (r.rest.take n, ⟨0, r.rest.drop n⟩)
theorem grown_cell (w : World) (b i : Nat) (v : Value) : w.grownBy (w.setCell ⟨b, i, none⟩ v) (some b) :=
  ⟨rfl, rfl, rfl, by simp, fun k _ hne => Below.heap_setCell w _ v k (fun e => hne (by rw [e]))⟩
theorem grown_drewN (w : World) (n : Nat) (row : Option Nat) : w.grownBy (w.drewN n) row := ⟨rfl, rfl, rfl, Nat.le_refl _, fun _ _ _ => rfl⟩
theorem extract_drop (d : ByteArray) (p n : Nat) : (d.extract p (p + n)).data.toList = (d.data.toList.drop p).take n := by
  rw [ByteArray.data_extract, Array.toList_extract, List.extract_eq_take_drop]
  congr 1
  omega
theorem ret_text {d : ByteArray} {p n : Nat} {l : List UInt8} (h : l = (d.data.toList.drop p).take n) : Ending.returned (.string (d.extract p (p + n))) = .returned (.string ⟨l.toArray⟩) := by
  subst h
  congr 2
  apply ba_ext
  rw [extract_drop]

set_option maxRecDepth 100000 in
set_option maxHeartbeats 800000 in
theorem take_any (b : Nat) (r : Rd) (n : Nat) (hn : n < 18446744073709551616) (w : World) (h0 : r.err = 0) (h : RdAt w b r) :
    Calls Tryz.prog 67 #[.pointer (some ⟨b, 0, none⟩), .int .u64 n] w fun e w' => e = .returned (.string ⟨(takeR r n).1.toArray⟩) ∧ RdAt w' b (takeR r n).2 ∧ w.grownBy w' (some b) := by
  obtain ⟨d, p, hcs, hp, hd, hr⟩ := h
  have hr := hr h0
  have hlen : r.rest.length = d.size - p := by rw [hr, List.length_drop, ← size_eq]
  rw [h0] at hcs
  have hcs' := hcs
  obtain ⟨c0, c1, c2, hf, hl⟩ := hcs'
  by_cases hlt : d.size - p < n
  · have hT := Lib.hid (show takeR r n = ([], ⟨10, []⟩) by unfold takeR; rw [hlen, if_pos hlt])
    clear hr hlen h0
    go_enter Tryz.func67, Tryz.ntmps67
    go_wp2_with fail
    go_quiet (fail)
    go_wp2_with fail
    go_ret
    rw [hT.out]
    exact ⟨rfl, ⟨d, p, (hcs.drewN nq).setErr 10, hp, hd, fun h => by cases h⟩, World.grownBy.trans (grown_drewN w nq _) (grown_cell _ b 2 _)⟩
  · have hT := Lib.hid (show takeR r n = (r.rest.take n, ⟨0, r.rest.drop n⟩) by unfold takeR; rw [hlen, if_neg hlt])
    have HR := Lib.hid hr
    have hlt1 : ¬ ((d.size : Int) - p < n) := by omega
    clear hr hlen h0
    go_enter Tryz.func67, Tryz.ntmps67
    go_wp2_with fail
    go_quiet (fail)
    go_wp2_with fail
    go_quiet (fail)
    go_wp2_with fail
    go_ret
    rw [hT.out]
    exact ⟨ret_text (by rw [HR.out]), ⟨d, p + n, (hcs.drewN _).setPos (p + n), by omega, hd, fun _ => by rw [HR.out, List.drop_drop]⟩, World.grownBy.trans (grown_drewN w _ _) (grown_cell _ b 1 _)⟩
end Go.Proofs.YtlenpifjkbcmdaaGreatDoor
