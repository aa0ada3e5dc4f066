import Derived.Test.YtaimbhphepopmaaDoorOpsW5
import Derived.Test.YtaimbhphepopmaaDoorCodecW3
import Derived.Test.YtaimbhphepopmaaDoorCells
import Derived.Maps.Range
import Derived.Maps.AppendAt
namespace Go.Proofs.YtaimbhphepopmaaDoor
open Go Go.RowKit Go.Lib

/-! ### The operation that bytes are -/
def rdN (r : Rd) : Nat → Rd
  | 0 => r
  | k + 1 => (rdN r k).num.2
def dirN (l : List UInt8) : Int := (rdN ⟨0, l⟩ 6).num.1
def readO (l : List UInt8) : Opr :=
  ⟨(rdN ⟨0, l⟩ 0).num.1, (rdN ⟨0, l⟩ 1).num.1, (rdN ⟨0, l⟩ 2).num.1, (rdN ⟨0, l⟩ 3).num.1, (rdN ⟨0, l⟩ 4).num.1, (rdN ⟨0, l⟩ 5).num.1, dirN l == 1, (rdN ⟨0, l⟩ 7).num.1, (rdN ⟨0, l⟩ 8).num.1, ⟨(rdN ⟨0, l⟩ 9).text.1.toArray⟩, ⟨(rdN ⟨0, l⟩ 9).text.2.text.1.toArray⟩⟩
def finO (l : List UInt8) : Int := (rdN ⟨0, l⟩ 9).text.2.text.2.fin
def decO (l : List UInt8) : Opr × Int := if finO l ≠ 0 then (noOpr, finO l) else if dirN l < 0 ∨ 1 < dirN l ∨ rightO (readO l) ≠ 0 then (noOpr, 11) else (readO l, 0)
theorem raw_rest (r : Rd) : r.raw.2.rest.length ≤ r.rest.length := by
  obtain ⟨e, l⟩ := r
  by_cases he : e = 0
  · subst he
    cases l with
    | nil => rw [raw_none]; simp
    | cons h t =>
      by_cases h1 : 8 < h.toNat
      · rw [raw_wide h1]; simp
      · by_cases h2 : t.length < h.toNat
        · rw [raw_short h1 h2]; simp
        · by_cases h3 : h.toNat ≠ 0 ∧ t[0]? = some 0
          · rw [raw_zero h1 h2 h3]; simp
          · rw [raw_ok h1 h2 h3]; simp; omega
  · rw [raw_err he]; exact Nat.le_refl _
theorem num_rest (r : Rd) : r.num.2.rest.length ≤ r.rest.length := raw_rest r
theorem text_rest (r : Rd) : r.text.1.length ≤ r.rest.length ∧ r.text.2.rest.length ≤ r.rest.length := by
  have := raw_rest r
  unfold Rd.text
  split
  · exact ⟨by simp, this⟩
  · split
    · exact ⟨by simp, by simp⟩
    · simp only [List.length_take, List.length_drop]
      omega
theorem rdN_rest (r : Rd) : ∀ k, (rdN r k).rest.length ≤ r.rest.length
  | 0 => Nat.le_refl _
  | k + 1 => Nat.le_trans (num_rest _) (rdN_rest r k)
theorem readO_name (l : List UInt8) : (readO l).name.size ≤ l.length := by
  rw [size_eq]
  exact Nat.le_trans (text_rest _).1 (rdN_rest _ 9)
theorem readO_man (l : List UInt8) : (readO l).man.size ≤ l.length := by
  rw [size_eq]
  exact Nat.le_trans (text_rest _).1 (Nat.le_trans (text_rest _).2 (rdN_rest _ 9))
theorem RdAt.same {W W' : World} {b : Nat} {r : Rd} (h : RdAt W b r) (e : W'.heap[b]? = W.heap[b]?) (hs : W.heap.size ≤ W'.heap.size) : RdAt W' b r := by
  obtain ⟨d, p, ⟨h0, h1, h2, hf, hl⟩, r⟩ := h
  exact ⟨d, p, ⟨(cell_same e 0).trans h0, (cell_same e 1).trans h1, (cell_same e 2).trans h2, fun i => (frozen_same e i).trans (hf i), Nat.lt_of_lt_of_le hl hs⟩, r⟩
theorem RdAt.other {W : World} {b k i : Nat} {r : Rd} (h : RdAt W b r) (v : Value) (hne : b ≠ k) : RdAt (W.setCell ⟨k, i, none⟩ v) b r := h.same (heap_other W v hne) (by simp)
theorem RrAt.same {W W' : World} {b : Nat} {r : Rd} (h : RrAt W b r) (e : W'.heap[b]? = W.heap[b]?) (hs : W.heap.size ≤ W'.heap.size) : RrAt W' b r := by
  obtain ⟨d, ⟨h0, h1, hf, hl⟩, r⟩ := h
  exact ⟨d, ⟨(cell_same e 0).trans h0, (cell_same e 1).trans h1, fun i => (frozen_same e i).trans (hf i), Nat.lt_of_lt_of_le hl hs⟩, r⟩
theorem RrAt.other {W : World} {b k i : Nat} {r : Rd} (h : RrAt W b r) (v : Value) (hne : b ≠ k) : RrAt (W.setCell ⟨k, i, none⟩ v) b r := h.same (heap_other W v hne) (by simp)

set_option maxRecDepth 100000 in
theorem stamp_any (b : Nat) (r : Rd) (w : World) (h : RdAt w b r) :
    Calls Tryd.prog 60 #[.pointer (some ⟨b, 0, none⟩)] w fun e w' => e = .returned (.agg #[.int .i64 r.num.1, .int .i64 r.num.2.num.1]) ∧ RdAt w' b r.num.2.num.2 ∧ w.grownBy w' (some b) := by
  have HN := Lib.hid fun r W (h : RdAt W b r) => Num_any b r W h
  have hlt := h.lt
  have hR0 := VarAt.new w #[.int .i64 0, .int .i64 0] 43
  have h0 : RdAt (w.alloc (.cells #[.int .i64 0, .int .i64 0] 43)) b r := h.keeps ((Below.refl _ _).alloc (Nat.le_refl _) _) hlt
  have hg0 : w.grownBy (w.alloc (.cells #[.int .i64 0, .int .i64 0] 43)) (some b) := ⟨rfl, rfl, rfl, by simp, fun k hk _ => Lib.alloc_old w _ k hk⟩
  generalize hp1 : r.num = p1 at *
  obtain ⟨a1, r1⟩ := p1
  generalize hp2 : r1.num = p2 at *
  obtain ⟨a2, r2⟩ := p2
  have Hp1 := Lib.hid hp1
  have Hp2 := Lib.hid hp2
  clear hp1 hp2
  go_enter Tryd.func60, Tryd.ntmps60
  go_wp2_with fail
  refine (HN.out r _ h0).mono ?_
  rintro e w1 ⟨rfl, hr1, hg1⟩
  rw [Hp1.out] at hr1 ⊢
  have hR1 := hR0.grown hg1 (by simp; omega)
  go_wp2_with fail
  refine (HN.out r1 _ hr1).mono ?_
  rintro e w2 ⟨rfl, hr2, hg2⟩
  rw [Hp2.out] at hr2 ⊢
  have hR2 := hR1.grown hg2 (by simp; omega)
  have c0 := hR2.2.2 0 _ rfl
  have c1 := hR2.2.2 1 _ rfl
  have hf := hR2.2.1
  have hR3 := (hR2.set 0 (.int .i64 a1) (by simp)).set 1 (.int .i64 a2) (by simp)
  have d0 := hR3.2.2 0 _ rfl
  have d1 := hR3.2.2 1 _ rfl
  clear hR0 hR1 c0 c1 hf
  have hg : w.grownBy ((w2.setCell ⟨w.heap.size, 0, none⟩ (.int .i64 a1)).setCell ⟨w.heap.size, 1, none⟩ (.int .i64 a2)) (some b) :=
    (((hg0.trans hg1).trans hg2).andThen (grown_cell w2 w.heap.size 0 _) (fun j ej => by cases ej; exact .inl (Nat.le_refl _))).andThen (grown_cell _ w.heap.size 1 _) (fun j ej => by cases ej; exact .inl (Nat.le_refl _))
  have hr3 := (hr2.other (i := 0) (.int .i64 a1) (show b ≠ w.heap.size by omega)).other (i := 1) (.int .i64 a2) (show b ≠ w.heap.size by omega)
  have hfz := hR2.2.1
  have e0 := hR2.2.2 0 _ rfl
  have e1 := hR2.2.2 1 _ rfl
  go_wp2_with fail
  refine bodyPost_ret (v := .agg #[.int .i64 a1, .int .i64 a2]) (by simp [results, Tryd.results60, go_sem, d0, d1]) rfl ⟨rfl, hr3, hg⟩
end Go.Proofs.YtaimbhphepopmaaDoor
