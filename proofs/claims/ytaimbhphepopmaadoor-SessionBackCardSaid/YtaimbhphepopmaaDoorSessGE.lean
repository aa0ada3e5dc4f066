/-
  arbourref23.Decode, kind 0. arbourref23.Decode, kind 1. arbourref23.Decode, kind 2. arbourref23.Decode, kind 3. arbourref23.Decode: the message that bytes are.
-/
import Derived.Test.YtaimbhphepopmaaDoorSessGB
import Derived.Test.YtaimbhphepopmaaDoorSessGR
import Derived.Test.YtaimbhphepopmaaDoorSessGC
import Derived.Test.YtaimbhphepopmaaDoorOpsW10
import Derived.Test.YtaimbhphepopmaaDoorDrawn
import Derived.Deep.Cut
import Derived.Deep.RegionHeld3
import Derived.Deep.RegionLaw
import Derived.Deep.DrawnRows
namespace Go.Proofs.YtaimbhphepopmaaDoor
open Go Go.RowKit Go.Lib
attribute [local go_sem ↓] Go.wp_at_zero Go.wp_at_succ

set_option maxRecDepth 100000 in
set_option maxHeartbeats 12800000 in
theorem rmdecode_0 (d : ByteArray) (w : World) (hd : d.size ≤ 100000) (hk : (Rd.num ⟨0, d.data.toList⟩).1 < 1 ∨ 3 < (Rd.num ⟨0, d.data.toList⟩).1) :
    Calls Tryd.prog 12 #[.string d] w (DecPost d.data.toList w) := by
  obtain ⟨r1, hr1⟩ : ∃ r1, (Rd.num ⟨0, d.data.toList⟩).2 = r1 := ⟨_, rfl⟩
  have hrl : r1.rest.length ≤ 100000 := by
    have := num_rest ⟨0, d.data.toList⟩
    rw [hr1] at this
    rw [size_eq] at hd
    exact Nat.le_trans this hd
  have HKR := Lib.hid (readM_0 hk)
  rw [hr1] at HKR
  have HNone := Lib.hid fun er W (h : decM d.data.toList = (noMsg, er)) (hb : Below w.heap.size w W) => decPost_none h hb
  have HOk := Lib.hid fun W m k nv nw no np av aw ao ap cv cw co cp h h0 h1 h2 h3 h4 hb q1 q2 q3 q4 => decPost_ok (l := d.data.toList) (w := w) (w' := W) (m := m) (k := k) (nv := nv) (nw := nw) (no := no) (np := np) av aw ao ap cv cw co cp h h0 h1 h2 h3 h4 hb q1 q2 q3 q4
  generalize DecPost d.data.toList w = Q at *
  have hb0 : Below w.heap.size w (((w.alloc (.cells #[.int .i64 0, .slice none 0 0, .slice none 0 0, .slice none 0 0, .slice none 0 0] 33)).alloc (.cells #[.string d, .int .i64 0] 71)).alloc (.cells #[.int .i64 0, .slice none 0 0, .slice none 0 0, .slice none 0 0, .slice none 0 0] 33)) := (((Below.refl w.heap.size w).alloc (Nat.le_refl _) _).alloc (by simp) _).alloc (by simp; omega) _
  have hR0 : VarAt (((w.alloc (.cells #[.int .i64 0, .slice none 0 0, .slice none 0 0, .slice none 0 0, .slice none 0 0] 33)).alloc (.cells #[.string d, .int .i64 0] 71)).alloc (.cells #[.int .i64 0, .slice none 0 0, .slice none 0 0, .slice none 0 0, .slice none 0 0] 33)) w.heap.size [.int .i64 0, .slice none 0 0, .slice none 0 0, .slice none 0 0, .slice none 0 0] := ((VarAt.new w #[.int .i64 0, .slice none 0 0, .slice none 0 0, .slice none 0 0, .slice none 0 0] 33).keeps ((Below.refl _ _).alloc (Nat.le_refl _) (.cells #[.string d, .int .i64 0] 71)) (by simp)).keeps ((Below.refl _ _).alloc (Nat.le_refl _) (.cells #[.int .i64 0, .slice none 0 0, .slice none 0 0, .slice none 0 0, .slice none 0 0] 33)) (by simp; omega)
  have hq0 : VarAt (((w.alloc (.cells #[.int .i64 0, .slice none 0 0, .slice none 0 0, .slice none 0 0, .slice none 0 0] 33)).alloc (.cells #[.string d, .int .i64 0] 71)).alloc (.cells #[.int .i64 0, .slice none 0 0, .slice none 0 0, .slice none 0 0, .slice none 0 0] 33)) (w.heap.size + 1) [.string d, .int .i64 0] := by
    have := (VarAt.new (w.alloc (.cells #[.int .i64 0, .slice none 0 0, .slice none 0 0, .slice none 0 0, .slice none 0 0] 33)) #[.string d, .int .i64 0] 71).keeps ((Below.refl _ _).alloc (Nat.le_refl _) (.cells #[.int .i64 0, .slice none 0 0, .slice none 0 0, .slice none 0 0, .slice none 0 0] 33)) (by simp)
    simpa using this
  have hM0 : VarAt (((w.alloc (.cells #[.int .i64 0, .slice none 0 0, .slice none 0 0, .slice none 0 0, .slice none 0 0] 33)).alloc (.cells #[.string d, .int .i64 0] 71)).alloc (.cells #[.int .i64 0, .slice none 0 0, .slice none 0 0, .slice none 0 0, .slice none 0 0] 33)) (w.heap.size + 1 + 1) [.int .i64 0, .slice none 0 0, .slice none 0 0, .slice none 0 0, .slice none 0 0] := by
    have := VarAt.new ((w.alloc (.cells #[.int .i64 0, .slice none 0 0, .slice none 0 0, .slice none 0 0, .slice none 0 0] 33)).alloc (.cells #[.string d, .int .i64 0] 71)) #[.int .i64 0, .slice none 0 0, .slice none 0 0, .slice none 0 0, .slice none 0 0] 33
    simpa using this
  have hrr : RrAt (((w.alloc (.cells #[.int .i64 0, .slice none 0 0, .slice none 0 0, .slice none 0 0, .slice none 0 0] 33)).alloc (.cells #[.string d, .int .i64 0] 71)).alloc (.cells #[.int .i64 0, .slice none 0 0, .slice none 0 0, .slice none 0 0, .slice none 0 0] 33)) (w.heap.size + 1) ⟨0, d.data.toList⟩ := ⟨d, ⟨hq0.2.2 0 _ rfl, hq0.2.2 1 _ rfl, hq0.2.1, hq0.1⟩, by omega, fun _ => rfl⟩
  clear hq0
  have HN := Lib.hid fun W (h : RrAt W (w.heap.size + 1) ⟨0, d.data.toList⟩) => rNum_any (w.heap.size + 1) ⟨0, d.data.toList⟩ W h
  obtain ⟨k0, hk0⟩ : ∃ k0, (Rd.num ⟨0, d.data.toList⟩).1 = k0 := ⟨_, rfl⟩
  rw [hk0, hr1] at HN
  rw [hk0] at hk
  clear hk0 hr1
  go_enter Tryd.func12, Tryd.ntmps12
  go_wp2_with fail
  obtain ⟨R, hRe⟩ : ∃ R, R = w.heap.size := ⟨_, rfl⟩
  obtain ⟨rb, hrbe⟩ : ∃ rb, rb = w.heap.size + 1 := ⟨_, rfl⟩
  obtain ⟨mb, hmbe⟩ : ∃ mb, mb = rb + 1 := ⟨_, rfl⟩
  rw [← hrbe] at hrr HN hM0 ⊢
  rw [← hmbe] at hM0 ⊢
  rw [← hRe] at hR0 hb0 HNone HOk ⊢
  have hRrb : R < rb := by omega
  have hrbmb : rb < mb := by omega
  have hRw : R ≤ w.heap.size := by omega
  generalize ((w.alloc (.cells #[.int .i64 0, .slice none 0 0, .slice none 0 0, .slice none 0 0, .slice none 0 0] 33)).alloc (.cells #[.string d, .int .i64 0] 71)).alloc (.cells #[.int .i64 0, .slice none 0 0, .slice none 0 0, .slice none 0 0, .slice none 0 0] 33) = W1 at *
  clear hRe hrbe hmbe
  refine (HN.out _ hrr).mono ?_
  rintro e w2 ⟨rfl, hr2, hg2⟩
  have hR2 := hR0.grown hg2 (by simp; omega)
  have hM2 := hM0.grown hg2 (by simp; omega)
  have hB2 := hb0.grown hg2 (Nat.le_trans hRw hb0.size) (fun j ej => by cases ej; omega)
  clear hrr hR0 hM0 hb0 hg2
  have m0 := hM2.2.2 0 _ rfl
  have mf := hM2.2.1 0
  go_upto_region 4 with (fail)
  have hM := hM2.set 0 (.int .i64 k0) (by simp)
  have hR := hR2.other (k := mb) (i := 0) (.int .i64 k0) (by omega)
  have hr := hr2.other (k := mb) (i := 0) (.int .i64 k0) (by omega)
  have hB := hB2.setCell (p := ⟨mb, 0, none⟩) (show R ≤ mb by omega) (.int .i64 k0)
  dsimp only [List.set] at hM
  clear m0 mf hM2 hR2 hr2 hB2
  generalize w2.setCell ⟨mb, 0, none⟩ (.int .i64 k0) = W at *
  have hlR := hR.1
  have hlr := hr.lt
  have hlm := hM.1
  have ec := rrCell hr
  have m0 := hM.2.2 0 _ rfl
  have e1 : (k0 == 1) = false := by rw [beq_eq_false_iff_ne]; omega
  have e2 : (k0 == 2) = false := by rw [beq_eq_false_iff_ne]; omega
  have e3 : (k0 == 3) = false := by rw [beq_eq_false_iff_ne]; omega
  by_cases h0 : r1.err = 0
  · have HD := Lib.hid (dec_odd (l := d.data.toList) (by rw [HKR.out]; exact if_pos h0))
    rw [h0] at ec
    have hro := hr.setOdd
    have hR1 := hR.other (k := rb) (i := 1) (.int .i64 11) (by omega)
    have hB1 := hB.setCell (p := ⟨rb, 1, none⟩) (show R ≤ rb by omega) (.int .i64 11)
    have hfz := hr.free 1
    have HE := Lib.hid (rEnd_any rb ⟨11, []⟩ _ hro)
    rw [show Rd.fin ⟨11, []⟩ = 11 from rfl] at HE
    clear h0 hr hro hR hB hM
    have hR := hR1
    have hB := hB1
    clear hR1 hB1
    rcases hk with hk | hk
    · have d1 : decide (k0 < 1) = true := decide_eq_true hk
      go_wp2_with fail
      refine HE.out.mono ?_
      rintro e w9 ⟨rfl, rfl⟩
      have f0 := hR.2.2 0 _ rfl
      have f1 := hR.2.2 1 _ rfl
      have f2 := hR.2.2 2 _ rfl
      have f3 := hR.2.2 3 _ rfl
      have f4 := hR.2.2 4 _ rfl
      have ff := hR.2.1
      go_wp2_with fail
      have hR5 := hR.put [.int .i64 0, .slice none 0 0, .slice none 0 0, .slice none 0 0, .slice none 0 0] rfl
      have hB5 := belowPut (b := R) hB [.int .i64 0, .slice none 0 0, .slice none 0 0, .slice none 0 0, .slice none 0 0] 0 (by omega)
      simp only [putRow, Nat.zero_add, Nat.reduceAdd] at hR5 hB5
      have e0 := hR5.2.2 0 _ rfl
      have e1 := hR5.2.2 1 _ rfl
      have e2 := hR5.2.2 2 _ rfl
      have e3 := hR5.2.2 3 _ rfl
      have e4 := hR5.2.2 4 _ rfl
      refine bodyPost_ret (v := .tuple #[.agg #[.int .i64 0, .slice none 0 0, .slice none 0 0, .slice none 0 0, .slice none 0 0], .int .i64 11]) (by simp [results, Tryd.results12, go_sem, e0, e1, e2, e3, e4]) rfl (HNone.out _ _ HD.out hB5)
    · have d1 : decide (k0 < 1) = false := decide_eq_false (by omega)
      have d2 : decide (3 < k0) = true := decide_eq_true hk
      go_wp2_with fail
      refine HE.out.mono ?_
      rintro e w9 ⟨rfl, rfl⟩
      have f0 := hR.2.2 0 _ rfl
      have f1 := hR.2.2 1 _ rfl
      have f2 := hR.2.2 2 _ rfl
      have f3 := hR.2.2 3 _ rfl
      have f4 := hR.2.2 4 _ rfl
      have ff := hR.2.1
      go_wp2_with fail
      have hR5 := hR.put [.int .i64 0, .slice none 0 0, .slice none 0 0, .slice none 0 0, .slice none 0 0] rfl
      have hB5 := belowPut (b := R) hB [.int .i64 0, .slice none 0 0, .slice none 0 0, .slice none 0 0, .slice none 0 0] 0 (by omega)
      simp only [putRow, Nat.zero_add, Nat.reduceAdd] at hR5 hB5
      have e0 := hR5.2.2 0 _ rfl
      have e1 := hR5.2.2 1 _ rfl
      have e2 := hR5.2.2 2 _ rfl
      have e3 := hR5.2.2 3 _ rfl
      have e4 := hR5.2.2 4 _ rfl
      refine bodyPost_ret (v := .tuple #[.agg #[.int .i64 0, .slice none 0 0, .slice none 0 0, .slice none 0 0, .slice none 0 0], .int .i64 11]) (by simp [results, Tryd.results12, go_sem, e0, e1, e2, e3, e4]) rfl (HNone.out _ _ HD.out hB5)
  · have hfin : r1.fin = r1.err := if_pos h0
    have HD := Lib.hid (dec_fin (l := d.data.toList) (e := r1.err) (by rw [HKR.out]; show Rd.fin (if r1.err = 0 then ⟨11, []⟩ else r1) = r1.err; rw [if_neg h0]; exact hfin) h0)
    have HE := Lib.hid (rEnd_any rb r1 _ hr)
    rw [hfin] at HE
    have d1 : (r1.err == 0) = false := by rw [beq_eq_false_iff_ne]; exact h0
    have d2 : (r1.err != 0) = true := by rw [bne_iff_ne]; exact h0
    clear h0 hfin hr hM
    generalize r1.err = er at *
    go_wp2_with fail
    refine HE.out.mono ?_
    rintro e w9 ⟨rfl, rfl⟩
    have f0 := hR.2.2 0 _ rfl
    have f1 := hR.2.2 1 _ rfl
    have f2 := hR.2.2 2 _ rfl
    have f3 := hR.2.2 3 _ rfl
    have f4 := hR.2.2 4 _ rfl
    have ff := hR.2.1
    go_wp2_with fail
    have hR5 := hR.put [.int .i64 0, .slice none 0 0, .slice none 0 0, .slice none 0 0, .slice none 0 0] rfl
    have hB5 := belowPut (b := R) hB [.int .i64 0, .slice none 0 0, .slice none 0 0, .slice none 0 0, .slice none 0 0] 0 (by omega)
    simp only [putRow, Nat.zero_add, Nat.reduceAdd] at hR5 hB5
    have e0 := hR5.2.2 0 _ rfl
    have e1 := hR5.2.2 1 _ rfl
    have e2 := hR5.2.2 2 _ rfl
    have e3 := hR5.2.2 3 _ rfl
    have e4 := hR5.2.2 4 _ rfl
    refine bodyPost_ret (v := .tuple #[.agg #[.int .i64 0, .slice none 0 0, .slice none 0 0, .slice none 0 0, .slice none 0 0], .int .i64 er]) (by simp [results, Tryd.results12, go_sem, e0, e1, e2, e3, e4]) rfl (HNone.out _ _ HD.out hB5)
end Go.Proofs.YtaimbhphepopmaaDoor

namespace Go.Proofs.YtaimbhphepopmaaDoor
open Go Go.RowKit Go.Lib
attribute [local go_sem ↓] Go.wp_at_zero Go.wp_at_succ

set_option maxRecDepth 100000 in
set_option maxHeartbeats 12800000 in
theorem rmdecode_1 (d : ByteArray) (w : World) (hd : d.size ≤ 100000) (hk : (Rd.num ⟨0, d.data.toList⟩).1 = 1) :
    Calls Tryd.prog 12 #[.string d] w (DecPost d.data.toList w) := by
  obtain ⟨r1, hr1⟩ : ∃ r1, (Rd.num ⟨0, d.data.toList⟩).2 = r1 := ⟨_, rfl⟩
  have hrl : r1.rest.length ≤ 100000 := by
    have := num_rest ⟨0, d.data.toList⟩
    rw [hr1] at this
    rw [size_eq] at hd
    exact Nat.le_trans this hd
  have HKR := Lib.hid (readM_1 hk)
  rw [hr1] at HKR
  have hr0 : r1.err = 0 := by
    by_cases h : r1.err = 0
    · exact h
    · have := num_zero_err (r := ⟨0, d.data.toList⟩) (by rw [hr1]; exact h)
      omega
  have HNone := Lib.hid fun er W (h : decM d.data.toList = (noMsg, er)) (hb : Below w.heap.size w W) => decPost_none h hb
  have HOk := Lib.hid fun W m k nv nw no np av aw ao ap cv cw co cp h h0 h1 h2 h3 h4 hb q1 q2 q3 q4 => decPost_ok (l := d.data.toList) (w := w) (w' := W) (m := m) (k := k) (nv := nv) (nw := nw) (no := no) (np := np) av aw ao ap cv cw co cp h h0 h1 h2 h3 h4 hb q1 q2 q3 q4
  generalize DecPost d.data.toList w = Q at *
  have hb0 : Below w.heap.size w (((w.alloc (.cells #[.int .i64 0, .slice none 0 0, .slice none 0 0, .slice none 0 0, .slice none 0 0] 33)).alloc (.cells #[.string d, .int .i64 0] 71)).alloc (.cells #[.int .i64 0, .slice none 0 0, .slice none 0 0, .slice none 0 0, .slice none 0 0] 33)) := (((Below.refl w.heap.size w).alloc (Nat.le_refl _) _).alloc (by simp) _).alloc (by simp; omega) _
  have hR0 : VarAt (((w.alloc (.cells #[.int .i64 0, .slice none 0 0, .slice none 0 0, .slice none 0 0, .slice none 0 0] 33)).alloc (.cells #[.string d, .int .i64 0] 71)).alloc (.cells #[.int .i64 0, .slice none 0 0, .slice none 0 0, .slice none 0 0, .slice none 0 0] 33)) w.heap.size [.int .i64 0, .slice none 0 0, .slice none 0 0, .slice none 0 0, .slice none 0 0] := ((VarAt.new w #[.int .i64 0, .slice none 0 0, .slice none 0 0, .slice none 0 0, .slice none 0 0] 33).keeps ((Below.refl _ _).alloc (Nat.le_refl _) (.cells #[.string d, .int .i64 0] 71)) (by simp)).keeps ((Below.refl _ _).alloc (Nat.le_refl _) (.cells #[.int .i64 0, .slice none 0 0, .slice none 0 0, .slice none 0 0, .slice none 0 0] 33)) (by simp; omega)
  have hq0 : VarAt (((w.alloc (.cells #[.int .i64 0, .slice none 0 0, .slice none 0 0, .slice none 0 0, .slice none 0 0] 33)).alloc (.cells #[.string d, .int .i64 0] 71)).alloc (.cells #[.int .i64 0, .slice none 0 0, .slice none 0 0, .slice none 0 0, .slice none 0 0] 33)) (w.heap.size + 1) [.string d, .int .i64 0] := by
    have := (VarAt.new (w.alloc (.cells #[.int .i64 0, .slice none 0 0, .slice none 0 0, .slice none 0 0, .slice none 0 0] 33)) #[.string d, .int .i64 0] 71).keeps ((Below.refl _ _).alloc (Nat.le_refl _) (.cells #[.int .i64 0, .slice none 0 0, .slice none 0 0, .slice none 0 0, .slice none 0 0] 33)) (by simp)
    simpa using this
  have hM0 : VarAt (((w.alloc (.cells #[.int .i64 0, .slice none 0 0, .slice none 0 0, .slice none 0 0, .slice none 0 0] 33)).alloc (.cells #[.string d, .int .i64 0] 71)).alloc (.cells #[.int .i64 0, .slice none 0 0, .slice none 0 0, .slice none 0 0, .slice none 0 0] 33)) (w.heap.size + 1 + 1) [.int .i64 0, .slice none 0 0, .slice none 0 0, .slice none 0 0, .slice none 0 0] := by
    have := VarAt.new ((w.alloc (.cells #[.int .i64 0, .slice none 0 0, .slice none 0 0, .slice none 0 0, .slice none 0 0] 33)).alloc (.cells #[.string d, .int .i64 0] 71)) #[.int .i64 0, .slice none 0 0, .slice none 0 0, .slice none 0 0, .slice none 0 0] 33
    simpa using this
  have hrr : RrAt (((w.alloc (.cells #[.int .i64 0, .slice none 0 0, .slice none 0 0, .slice none 0 0, .slice none 0 0] 33)).alloc (.cells #[.string d, .int .i64 0] 71)).alloc (.cells #[.int .i64 0, .slice none 0 0, .slice none 0 0, .slice none 0 0, .slice none 0 0] 33)) (w.heap.size + 1) ⟨0, d.data.toList⟩ := ⟨d, ⟨hq0.2.2 0 _ rfl, hq0.2.2 1 _ rfl, hq0.2.1, hq0.1⟩, by omega, fun _ => rfl⟩
  clear hq0
  have HN := Lib.hid fun W (h : RrAt W (w.heap.size + 1) ⟨0, d.data.toList⟩) => rNum_any (w.heap.size + 1) ⟨0, d.data.toList⟩ W h

  rw [hk, hr1] at HN

  clear hk hr1
  go_enter Tryd.func12, Tryd.ntmps12
  go_wp2_with fail
  obtain ⟨R, hRe⟩ : ∃ R, R = w.heap.size := ⟨_, rfl⟩
  obtain ⟨rb, hrbe⟩ : ∃ rb, rb = w.heap.size + 1 := ⟨_, rfl⟩
  obtain ⟨mb, hmbe⟩ : ∃ mb, mb = rb + 1 := ⟨_, rfl⟩
  rw [← hrbe] at hrr HN hM0 ⊢
  rw [← hmbe] at hM0 ⊢
  rw [← hRe] at hR0 hb0 HNone HOk ⊢
  have hRrb : R < rb := by omega
  have hrbmb : rb < mb := by omega
  have hRw : R ≤ w.heap.size := by omega
  generalize ((w.alloc (.cells #[.int .i64 0, .slice none 0 0, .slice none 0 0, .slice none 0 0, .slice none 0 0] 33)).alloc (.cells #[.string d, .int .i64 0] 71)).alloc (.cells #[.int .i64 0, .slice none 0 0, .slice none 0 0, .slice none 0 0, .slice none 0 0] 33) = W1 at *
  clear hRe hrbe hmbe
  refine (HN.out _ hrr).mono ?_
  rintro e w2 ⟨rfl, hr2, hg2⟩
  have hR2 := hR0.grown hg2 (by simp; omega)
  have hM2 := hM0.grown hg2 (by simp; omega)
  have hB2 := hb0.grown hg2 (Nat.le_trans hRw hb0.size) (fun j ej => by cases ej; omega)
  clear hrr hR0 hM0 hb0 hg2
  have m0 := hM2.2.2 0 _ rfl
  have mf := hM2.2.1 0
  go_upto_region 4 with (fail)
  have hM := hM2.set 0 (.int .i64 1) (by simp)
  have hR := hR2.other (k := mb) (i := 0) (.int .i64 1) (by omega)
  have hr := hr2.other (k := mb) (i := 0) (.int .i64 1) (by omega)
  have hB := hB2.setCell (p := ⟨mb, 0, none⟩) (show R ≤ mb by omega) (.int .i64 1)
  dsimp only [List.set] at hM
  clear m0 mf hM2 hR2 hr2 hB2
  generalize w2.setCell ⟨mb, 0, none⟩ (.int .i64 1) = W at *
  have hlR := hR.1
  have hlr := hr.lt
  have hlm := hM.1
  have ec := rrCell hr
  have m0 := hM.2.2 0 _ rfl
  obtain ⟨i0, hi, hz0, hz1, hz2⟩ := info_parts numInfo0
  have Hi := Lib.hid hi
  have Hz0 := Lib.hid hz0
  have Hz1 := Lib.hid hz1
  have Hz2 := Lib.hid hz2
  clear hi hz0 hz1 hz2
  have HMn := Lib.hid fun W h => rmany_any rb r1 15 W h
  have HNm := Lib.hid fun r W h => rNum_any rb r W h
  have HLx := Lib.hid (show listR Rd.num r1 15 = takeN Rd.num (manyR r1 15).1 (manyR r1 15).2 from rfl)
  have HL := Lib.hid fun W h => rlist_any rb (listR Rd.num r1 15).2 16 W (by omega) h
  rw [show (((16 : Nat) : Int)) = 16 from rfl] at HL
  rw [HLx.out] at HL HKR
  have hN : (manyR r1 15).1 ≤ 15 := by
    have := manyR_le Rd.num r1 15
    unfold listR at this
    rwa [takeN_len] at this
  clear HLx
  rw [show (((15 : Nat) : Int)) = 15 from rfl] at HMn
  generalize manyR r1 15 = mr at *
  obtain ⟨N, rd⟩ := mr
  dsimp only at HMn HL HKR hN
  rw [hr0] at ec
  go_wp2_with fail
  refine (HMn.out _ hr).mono ?_
  rintro e w3 ⟨rfl, hr3, hg3⟩
  have hM3 := hM.grown hg3 (by simp; omega)
  have hR3 := hR.grown hg3 (by simp; omega)
  have hB3 := hB.grown hg3 (Nat.le_trans hRw hB.size) (fun j ej => by cases ej; omega)
  have hsz3 := hg3.size
  have hmw3 := hM3.1
  have hRw3 := hR3.1
  clear hr hM hR hB hg3 ec m0 hr0
  go_wp2_with fail
  go_loopw [8] (fun i wr => ∃ (k : Nat) (a : Option Addr) (c : Nat), k ≤ N ∧ i = .int .i64 k ∧ RrAt wr rb (takeN Rd.num k rd).2 ∧ VarAt wr mb [.int .i64 1, .slice a k c, .slice none 0 0, .slice none 0 0, .slice none 0 0] ∧ OwnRows numLay wr w3.heap.size 3 (.slice a k c) (takeN Rd.num k rd).1 ∧ VarAt wr R [.int .i64 0, .slice none 0 0, .slice none 0 0, .slice none 0 0, .slice none 0 0] ∧ Below R w wr ∧ w3.heap.size ≤ wr.heap.size) (fun i _ => N - (RowKit.intOf i).toNat)
  case atStart => exact ⟨0, none, 0, Nat.zero_le _, rfl, hr3, hM3, OwnRows.nil _ _ _ _, hR3, hB3, Nat.le_refl _⟩
  case round =>
    obtain ⟨k, a, c, hk, rfl, hr, hM, ho, hR, hB, hws⟩ := hrel
    by_cases hlt : k < N
    · have Hsucc := Lib.hid (takeN_succ Rd.num k rd)
      have hlen := takeN_len Rd.num k rd
      have HNk := Lib.hid (HNm.out (takeN Rd.num k rd).2 wr.drew hr)
      have m1 : wr.drew.cell? ⟨mb, 1, none⟩ = some (.slice a k c) := hM.2.2 1 _ rfl
      have hMd : VarAt wr.drew mb _ := hM
      have hRd : VarAt wr.drew R _ := hR
      have hod : OwnRows numLay wr.drew w3.heap.size 3 (.slice a k c) (takeN Rd.num k rd).1 := ho.drewN 1
      have hBd : Below R w wr.drew := hB.drew
      obtain ⟨y, hy⟩ : ∃ y, (takeN Rd.num k rd).2.num.1 = y := ⟨_, rfl⟩
      rw [hy] at HNk
      have Hy := Lib.hid hy
      have Hlen := Lib.hid hlen
      clear hy hlen hM hR ho hB hr
      have hne : mb ≠ rb := by omega
      go_wp2_with fail
      go_region_law (first
        | (rw [if_pos (by simp [Region.wanted])]; go_simp; go_at_call 36; refine HNk.out.mono ?_; rintro e w5 ⟨rfl, hr5, hg5⟩; have hM5 := hMd.grown hg5 (by simpa using hne); have hs5 : w3.heap.size ≤ w5.heap.size := Nat.le_trans hws hg5.size; have hk1 := hM5.2.2 1 _ rfl; have hk2 := (hM5.keeps ((Below.refl w5.heap.size w5).alloc (Nat.le_refl _) (.cells #[.int .i64 y] 3)) hM5.1).2.2 1 _ rfl; have hox := (hod.kept hg5 (.inr (fun e => by have := (hod.lt e).1; omega))).alloc (.cells #[.int .i64 y] 3))
        | (refine step_append_rows _ (by rfl) _ _ 22 (by rfl) numLay w3.heap.size 3 i0 (.int .i64 0) 8 Tryd.underlying22 Hi.out Hz0.out Hz1.out Hz2.out rfl (by decide) _ _ (by rfl) hox ⟨w5.heap.size, 0, none⟩ 1 y (by rfl) (World.news_of_block (cs := #[.int .i64 y]) (t := 3) (fr := (0, 0)) (heap_alloc_new w5 _)) (by have := Hlen.out; unfold maxLen; omega) (by have := Hlen.out; omega) (by simp; omega) ?_; intro v6 w6 ho6 hg6; obtain ⟨a6, c6, hv6, _, _⟩ := ho6.read; rw [show ((takeN Rd.num k rd).1 ++ [y]).length = k + 1 by rw [List.length_append, Hlen.out]; rfl] at hv6; subst hv6; have hM6 := (hM5.keeps ((Below.refl w5.heap.size w5).alloc (Nat.le_refl _) (.cells #[.int .i64 y] 3)) hM5.1).grown hg6 (fun e => by have := (hox.lt e.symm).1; omega); have hk6 := hM6.2.2 1 _ rfl; have hf6 := hM6.2.1 1))
      all_goals
        have hx1 : ∀ j, some j ≠ (Value.slice a k c).ownBlock ∨ w3.heap.size ≤ j := fun j => by
          by_cases e : some j = (Value.slice a k c).ownBlock
          · exact .inr (hod.lt e.symm).1
          · exact .inl e
        have hal : Below w5.heap.size w5 (w5.alloc (.cells #[.int .i64 y] 3)) := (Below.refl w5.heap.size w5).alloc (Nat.le_refl _) _
        have hR5 := hRd.grown hg5 (show some R ≠ some rb by simp; omega)
        have hR6 := ((hR5.keeps hal hR5.1).grown hg6 ((hx1 R).resolve_right (by omega))).other (k := mb) (i := 1) (.slice a6 (k + 1) c6) (by omega)
        have hr6a := hr5.keeps hal hr5.lt
        have hr6 := (hr6a.same (hg6.block rb hr6a.lt ((hx1 rb).resolve_right (by omega))) hg6.size).other (k := mb) (i := 1) (.slice a6 (k + 1) c6) (by omega)
        have hM7 := hM6.set 1 (.slice a6 (k + 1) c6) (by simp)
        dsimp only [List.set] at hM7
        have ho7 := ho6.set (b := mb) 1 (.slice a6 (k + 1) c6) hmw3
        have hB5 := hBd.grown hg5 (Nat.le_trans hRw hBd.size) (fun j ej => by cases ej; omega)
        have hB7 := ((hB5.alloc (Nat.le_trans hRw hB5.size) (.cells #[.int .i64 y] 3)).grown hg6 (by simp; omega) (fun j ej => by have := (hod.lt ej).1; omega)).setCell (p := ⟨mb, 1, none⟩) (show R ≤ mb by omega) (.slice a6 (k + 1) c6)
        have hs7 : w3.heap.size ≤ (w6.setCell ⟨mb, 1, none⟩ (.slice a6 (k + 1) c6)).heap.size := by
          have := hg6.size
          simp at this ⊢
          omega
        clear hal hR5 hr6a hB5 hx1 hM6 hk6 hf6 ho6 hg6 hM5 hk1 hk2 hox hg5 hr5 hMd hRd hod hBd m1
        go_wp2_with fail
        go_roundw
        case rel => exact ⟨k + 1, a6, c6, by omega, by go_num, by rw [Hsucc.out]; exact hr6, hM7, by rw [Hsucc.out]; show OwnRows numLay _ w3.heap.size 3 (.slice a6 (k + 1) c6) ((takeN Rd.num k rd).1 ++ [(takeN Rd.num k rd).2.num.1]); rw [Hy.out]; exact ho7, hR6, hB7, hs7⟩
        case measure => simp [RowKit.intOf]; omega
    obtain rfl : k = N := by omega
    obtain ⟨xs0, hx0⟩ : ∃ xs0, (takeN Rd.num k rd).1 = xs0 := ⟨_, rfl⟩
    have hNl : k = xs0.length := by rw [← hx0, takeN_len]
    rw [hx0] at ho HKR
    have Hx0 := Lib.hid hx0
    clear hx0 hlt hk
    subst hNl
    have ho0 := ho
    clear ho
    have m2 := hM.2.2 2 _ rfl
    have hlR' := hR.1
    have hlm' := hM.1
    go_wp2_with fail
    refine (HL.out _ hr).mono ?_
    rintro e w5 ⟨v1, rfl, ho1, hr1, ht1⟩
    obtain ⟨a1, c1, hv1, _, _⟩ := ho1.read
    subst hv1
    obtain ⟨xs1, hxs1⟩ : ∃ xs, (listR Rd.str ((takeN Rd.num xs0.length rd).2) 16).1 = xs := ⟨_, rfl⟩
    rw [hxs1] at ho1
    have Hx1 := Lib.hid hxs1
    rw [hxs1]
    clear hxs1
    have hl1 : xs1.length ≤ 16 := by rw [← Hx1.out]; exact manyR_le _ _ 16
    rw [Hx1.out] at HKR
    have hbz1 := hlR'
    have hsz := ht1.size
    have hM5 := hM.same (ht1.block mb hlm' (by omega)) hsz
    have hR5 := hR.same (ht1.block R hlR' (by omega)) hsz
    have m5 := hM5.2.2 2 _ rfl
    have mf := hM5.2.1 2
    clear m2
    go_upto_region 25 with (fail)
    replace hM := hM5.set 2 (.slice a1 xs1.length c1) (by simp)
    dsimp only [List.set] at hM
    replace hR := hR5.other (k := mb) (i := 2) (.slice a1 xs1.length c1) (by omega)
    replace hB := (hB.trans (ht1.below (B' := R) (by omega) (fun k hk h => by omega))).setCell (p := ⟨mb, 2, none⟩) (show R ≤ mb by omega) (.slice a1 xs1.length c1)
    replace ho1 := ho1.set (b := mb) 2 (.slice a1 xs1.length c1) hlm'
    replace ho0 := (ho0.turned ht1 (fun k hk => by omega)).set (b := mb) 2 (.slice a1 xs1.length c1) hmw3
    replace hr := hr1.other (k := mb) (i := 2) (.slice a1 xs1.length c1) (by omega)
    clear hr1 ht1 hM5 hR5 m5 mf
    generalize w5.setCell ⟨mb, 2, none⟩ (.slice a1 xs1.length c1) = W5 at *
    have HE := Lib.hid (rEnd_any rb ((listR Rd.str (takeN Rd.num xs0.length rd).2 16).2) _ hr)
    obtain ⟨fe, hfe⟩ : ∃ fe, Rd.fin ((listR Rd.str (takeN Rd.num xs0.length rd).2 16).2) = fe := ⟨_, rfl⟩
    rw [hfe] at HE
    have HDf := Lib.hid (fun (he : fe ≠ 0) => dec_fin (l := d.data.toList) (e := fe) (by rw [HKR.out]; exact hfe) he)
    have HF0 := Lib.hid (fun (he : fe = 0) => (show (readM d.data.toList).2.2.fin = 0 by rw [HKR.out]; exact hfe.trans he))
    clear hfe
    by_cases hf0 : ¬ fe = 0
    · have HD := Lib.hid (HDf.out hf0)
      have d1 : (fe != 0) = true := by rw [bne_iff_ne]; exact hf0
      clear hf0
      go_wp2_with fail
      refine HE.out.mono ?_
      rintro e w9 ⟨rfl, rfl⟩
      have f0 := hR.2.2 0 _ rfl
      have f1 := hR.2.2 1 _ rfl
      have f2 := hR.2.2 2 _ rfl
      have f3 := hR.2.2 3 _ rfl
      have f4 := hR.2.2 4 _ rfl
      have ff := hR.2.1
      go_wp2_with fail
      have hR5 := hR.put [.int .i64 0, .slice none 0 0, .slice none 0 0, .slice none 0 0, .slice none 0 0] rfl
      have hB5 := belowPut (b := R) hB [.int .i64 0, .slice none 0 0, .slice none 0 0, .slice none 0 0, .slice none 0 0] 0 (by omega)
      simp only [putRow, Nat.zero_add, Nat.reduceAdd] at hR5 hB5
      have e0 := hR5.2.2 0 _ rfl
      have e1 := hR5.2.2 1 _ rfl
      have e2 := hR5.2.2 2 _ rfl
      have e3 := hR5.2.2 3 _ rfl
      have e4 := hR5.2.2 4 _ rfl
      refine bodyPost_ret (v := .tuple #[.agg #[.int .i64 0, .slice none 0 0, .slice none 0 0, .slice none 0 0, .slice none 0 0], .int .i64 fe]) (by simp [results, Tryd.results12, go_sem, e0, e1, e2, e3, e4]) rfl (HNone.out _ _ HD.out hB5)
    replace hf0 := Decidable.not_not.1 hf0
    have HFz := Lib.hid (HF0.out hf0)
    subst hf0
    have HRt := Lib.hid fun W h1 h2 h3 h4 => rmright_any 1 a a1 none none c c1 0 0 xs0 xs1 [] [] W (by omega) (by omega) (Nat.zero_le _) (Nat.zero_le _) (fun x hx => by cases hx) h1 h2 h3 h4
    have HDb := Lib.hid (fun h => dec_bad (l := d.data.toList) HFz.out (.inr h))
    have HDo := Lib.hid (fun h => dec_ok (l := d.data.toList) HFz.out (by rw [HKR.out]) h)
    rw [HKR.out] at HDb HDo
    dsimp only at HDb HDo HRt
    obtain ⟨rt, hrt⟩ : ∃ rt, rightM (⟨1, xs0, xs1, [], []⟩ : Msg) = rt := ⟨_, rfl⟩
    rw [hrt] at HRt HDb HDo
    clear hrt
    have m0 := hM.2.2 0 _ rfl
    have m1 := hM.2.2 1 _ rfl
    have m2 := hM.2.2 2 _ rfl
    have m3 := hM.2.2 3 _ rfl
    have m4 := hM.2.2 4 _ rfl
    go_wp2_with fail
    refine HE.out.mono ?_
    rintro e w9 ⟨rfl, rfl⟩
    go_wp2_with fail
    refine (HRt.out _ ho0.rows ho1.rows (RowsAt.nil _ _ _) (RowsAt.nil _ _ _)).mono ?_
    rintro e w10 ⟨rfl, hb10⟩
    replace hR := hR.keeps hb10 hR.1
    replace hM := hM.keeps hb10 hM.1
    replace hB := hB.trans (hb10.mono (Nat.le_trans hRw hB.size))
    clear m0 m1 m2 m3 m4
    cases rt with
    | false =>
      have HD := Lib.hid (HDb.out rfl)
      have f0 := hR.2.2 0 _ rfl
      have f1 := hR.2.2 1 _ rfl
      have f2 := hR.2.2 2 _ rfl
      have f3 := hR.2.2 3 _ rfl
      have f4 := hR.2.2 4 _ rfl
      have ff := hR.2.1
      go_wp2_with fail
      have hR5 := hR.put [.int .i64 0, .slice none 0 0, .slice none 0 0, .slice none 0 0, .slice none 0 0] rfl
      have hB5 := belowPut (b := R) hB [.int .i64 0, .slice none 0 0, .slice none 0 0, .slice none 0 0, .slice none 0 0] 0 (by omega)
      simp only [putRow, Nat.zero_add, Nat.reduceAdd] at hR5 hB5
      have e0 := hR5.2.2 0 _ rfl
      have e1 := hR5.2.2 1 _ rfl
      have e2 := hR5.2.2 2 _ rfl
      have e3 := hR5.2.2 3 _ rfl
      have e4 := hR5.2.2 4 _ rfl
      refine bodyPost_ret (v := .tuple #[.agg #[.int .i64 0, .slice none 0 0, .slice none 0 0, .slice none 0 0, .slice none 0 0], .int .i64 11]) (by simp [results, Tryd.results12, go_sem, e0, e1, e2, e3, e4]) rfl (HNone.out _ _ HD.out hB5)
    | true =>
      have HD := Lib.hid (HDo.out rfl)
      have m0 := hM.2.2 0 _ rfl
      have m1 := hM.2.2 1 _ rfl
      have m2 := hM.2.2 2 _ rfl
      have m3 := hM.2.2 3 _ rfl
      have m4 := hM.2.2 4 _ rfl
      have f0 := hR.2.2 0 _ rfl
      have f1 := hR.2.2 1 _ rfl
      have f2 := hR.2.2 2 _ rfl
      have f3 := hR.2.2 3 _ rfl
      have f4 := hR.2.2 4 _ rfl
      have ff := hR.2.1
      have hnm : R ≠ mb := by omega
      go_wp2_with fail
      have hR5 := hR.put [.int .i64 1, .slice a xs0.length c, .slice a1 xs1.length c1, .slice none 0 0, .slice none 0 0] rfl
      have hB5 := belowPut (b := R) hB [.int .i64 1, .slice a xs0.length c, .slice a1 xs1.length c1, .slice none 0 0, .slice none 0 0] 0 (by omega)
      have qho0 := (ho0.below hb10).putRow (b := R) 0 [.int .i64 1, .slice a xs0.length c, .slice a1 xs1.length c1, .slice none 0 0, .slice none 0 0] (by omega)
      have qho1 := (ho1.below hb10).putRow (b := R) 0 [.int .i64 1, .slice a xs0.length c, .slice a1 xs1.length c1, .slice none 0 0, .slice none 0 0] (by omega)
      simp only [putRow, Nat.zero_add, Nat.reduceAdd] at hR5 hB5 qho0 qho1
      have e0 := hR5.2.2 0 _ rfl
      have e1 := hR5.2.2 1 _ rfl
      have e2 := hR5.2.2 2 _ rfl
      have e3 := hR5.2.2 3 _ rfl
      have e4 := hR5.2.2 4 _ rfl
      refine bodyPost_ret (v := .tuple #[.agg #[.int .i64 1, .slice a xs0.length c, .slice a1 xs1.length c1, .slice none 0 0, .slice none 0 0], .int .i64 0]) (by simp [results, Tryd.results12, go_sem, e0, e1, e2, e3, e4]) rfl ?_
      exact HOk.out _ (⟨1, xs0, xs1, [], []⟩ : Msg) _ _ _ _ _ _ _ _ _ _ _ _ _ HD.out rfl rfl rfl rfl rfl hB5 qho0.rows qho1.rows (RowsAt.nil _ _ _) (RowsAt.nil _ _ _)
end Go.Proofs.YtaimbhphepopmaaDoor

namespace Go.Proofs.YtaimbhphepopmaaDoor
open Go Go.RowKit Go.Lib
attribute [local go_sem ↓] Go.wp_at_zero Go.wp_at_succ

set_option maxRecDepth 100000 in
set_option maxHeartbeats 12800000 in
theorem rmdecode_2 (d : ByteArray) (w : World) (hd : d.size ≤ 100000) (hk : (Rd.num ⟨0, d.data.toList⟩).1 = 2) :
    Calls Tryd.prog 12 #[.string d] w (DecPost d.data.toList w) := by
  obtain ⟨r1, hr1⟩ : ∃ r1, (Rd.num ⟨0, d.data.toList⟩).2 = r1 := ⟨_, rfl⟩
  have hrl : r1.rest.length ≤ 100000 := by
    have := num_rest ⟨0, d.data.toList⟩
    rw [hr1] at this
    rw [size_eq] at hd
    exact Nat.le_trans this hd
  have HKR := Lib.hid (readM_2 hk)
  rw [hr1] at HKR
  have hr0 : r1.err = 0 := by
    by_cases h : r1.err = 0
    · exact h
    · have := num_zero_err (r := ⟨0, d.data.toList⟩) (by rw [hr1]; exact h)
      omega
  have HNone := Lib.hid fun er W (h : decM d.data.toList = (noMsg, er)) (hb : Below w.heap.size w W) => decPost_none h hb
  have HOk := Lib.hid fun W m k nv nw no np av aw ao ap cv cw co cp h h0 h1 h2 h3 h4 hb q1 q2 q3 q4 => decPost_ok (l := d.data.toList) (w := w) (w' := W) (m := m) (k := k) (nv := nv) (nw := nw) (no := no) (np := np) av aw ao ap cv cw co cp h h0 h1 h2 h3 h4 hb q1 q2 q3 q4
  generalize DecPost d.data.toList w = Q at *
  have hb0 : Below w.heap.size w (((w.alloc (.cells #[.int .i64 0, .slice none 0 0, .slice none 0 0, .slice none 0 0, .slice none 0 0] 33)).alloc (.cells #[.string d, .int .i64 0] 71)).alloc (.cells #[.int .i64 0, .slice none 0 0, .slice none 0 0, .slice none 0 0, .slice none 0 0] 33)) := (((Below.refl w.heap.size w).alloc (Nat.le_refl _) _).alloc (by simp) _).alloc (by simp; omega) _
  have hR0 : VarAt (((w.alloc (.cells #[.int .i64 0, .slice none 0 0, .slice none 0 0, .slice none 0 0, .slice none 0 0] 33)).alloc (.cells #[.string d, .int .i64 0] 71)).alloc (.cells #[.int .i64 0, .slice none 0 0, .slice none 0 0, .slice none 0 0, .slice none 0 0] 33)) w.heap.size [.int .i64 0, .slice none 0 0, .slice none 0 0, .slice none 0 0, .slice none 0 0] := ((VarAt.new w #[.int .i64 0, .slice none 0 0, .slice none 0 0, .slice none 0 0, .slice none 0 0] 33).keeps ((Below.refl _ _).alloc (Nat.le_refl _) (.cells #[.string d, .int .i64 0] 71)) (by simp)).keeps ((Below.refl _ _).alloc (Nat.le_refl _) (.cells #[.int .i64 0, .slice none 0 0, .slice none 0 0, .slice none 0 0, .slice none 0 0] 33)) (by simp; omega)
  have hq0 : VarAt (((w.alloc (.cells #[.int .i64 0, .slice none 0 0, .slice none 0 0, .slice none 0 0, .slice none 0 0] 33)).alloc (.cells #[.string d, .int .i64 0] 71)).alloc (.cells #[.int .i64 0, .slice none 0 0, .slice none 0 0, .slice none 0 0, .slice none 0 0] 33)) (w.heap.size + 1) [.string d, .int .i64 0] := by
    have := (VarAt.new (w.alloc (.cells #[.int .i64 0, .slice none 0 0, .slice none 0 0, .slice none 0 0, .slice none 0 0] 33)) #[.string d, .int .i64 0] 71).keeps ((Below.refl _ _).alloc (Nat.le_refl _) (.cells #[.int .i64 0, .slice none 0 0, .slice none 0 0, .slice none 0 0, .slice none 0 0] 33)) (by simp)
    simpa using this
  have hM0 : VarAt (((w.alloc (.cells #[.int .i64 0, .slice none 0 0, .slice none 0 0, .slice none 0 0, .slice none 0 0] 33)).alloc (.cells #[.string d, .int .i64 0] 71)).alloc (.cells #[.int .i64 0, .slice none 0 0, .slice none 0 0, .slice none 0 0, .slice none 0 0] 33)) (w.heap.size + 1 + 1) [.int .i64 0, .slice none 0 0, .slice none 0 0, .slice none 0 0, .slice none 0 0] := by
    have := VarAt.new ((w.alloc (.cells #[.int .i64 0, .slice none 0 0, .slice none 0 0, .slice none 0 0, .slice none 0 0] 33)).alloc (.cells #[.string d, .int .i64 0] 71)) #[.int .i64 0, .slice none 0 0, .slice none 0 0, .slice none 0 0, .slice none 0 0] 33
    simpa using this
  have hrr : RrAt (((w.alloc (.cells #[.int .i64 0, .slice none 0 0, .slice none 0 0, .slice none 0 0, .slice none 0 0] 33)).alloc (.cells #[.string d, .int .i64 0] 71)).alloc (.cells #[.int .i64 0, .slice none 0 0, .slice none 0 0, .slice none 0 0, .slice none 0 0] 33)) (w.heap.size + 1) ⟨0, d.data.toList⟩ := ⟨d, ⟨hq0.2.2 0 _ rfl, hq0.2.2 1 _ rfl, hq0.2.1, hq0.1⟩, by omega, fun _ => rfl⟩
  clear hq0
  have HN := Lib.hid fun W (h : RrAt W (w.heap.size + 1) ⟨0, d.data.toList⟩) => rNum_any (w.heap.size + 1) ⟨0, d.data.toList⟩ W h

  rw [hk, hr1] at HN

  clear hk hr1
  go_enter Tryd.func12, Tryd.ntmps12
  go_wp2_with fail
  obtain ⟨R, hRe⟩ : ∃ R, R = w.heap.size := ⟨_, rfl⟩
  obtain ⟨rb, hrbe⟩ : ∃ rb, rb = w.heap.size + 1 := ⟨_, rfl⟩
  obtain ⟨mb, hmbe⟩ : ∃ mb, mb = rb + 1 := ⟨_, rfl⟩
  rw [← hrbe] at hrr HN hM0 ⊢
  rw [← hmbe] at hM0 ⊢
  rw [← hRe] at hR0 hb0 HNone HOk ⊢
  have hRrb : R < rb := by omega
  have hrbmb : rb < mb := by omega
  have hRw : R ≤ w.heap.size := by omega
  generalize ((w.alloc (.cells #[.int .i64 0, .slice none 0 0, .slice none 0 0, .slice none 0 0, .slice none 0 0] 33)).alloc (.cells #[.string d, .int .i64 0] 71)).alloc (.cells #[.int .i64 0, .slice none 0 0, .slice none 0 0, .slice none 0 0, .slice none 0 0] 33) = W1 at *
  clear hRe hrbe hmbe
  refine (HN.out _ hrr).mono ?_
  rintro e w2 ⟨rfl, hr2, hg2⟩
  have hR2 := hR0.grown hg2 (by simp; omega)
  have hM2 := hM0.grown hg2 (by simp; omega)
  have hB2 := hb0.grown hg2 (Nat.le_trans hRw hb0.size) (fun j ej => by cases ej; omega)
  clear hrr hR0 hM0 hb0 hg2
  have m0 := hM2.2.2 0 _ rfl
  have mf := hM2.2.1 0
  go_upto_region 4 with (fail)
  have hM := hM2.set 0 (.int .i64 2) (by simp)
  have hR := hR2.other (k := mb) (i := 0) (.int .i64 2) (by omega)
  have hr := hr2.other (k := mb) (i := 0) (.int .i64 2) (by omega)
  have hB := hB2.setCell (p := ⟨mb, 0, none⟩) (show R ≤ mb by omega) (.int .i64 2)
  dsimp only [List.set] at hM
  clear m0 mf hM2 hR2 hr2 hB2
  generalize w2.setCell ⟨mb, 0, none⟩ (.int .i64 2) = W at *
  have hlR := hR.1
  have hlr := hr.lt
  have hlm := hM.1
  have ec := rrCell hr
  have m0 := hM.2.2 0 _ rfl
  have HL := Lib.hid fun W h => rlist_any rb r1 20 W (by omega) h
  rw [show (((20 : Nat) : Int)) = 20 from rfl] at HL
  obtain ⟨i0, hi, hz0, hz1, hz2⟩ := info_parts oprInfo0
  have Hi := Lib.hid hi
  have Hz0 := Lib.hid hz0
  have Hz1 := Lib.hid hz1
  have Hz2 := Lib.hid hz2
  clear hi hz0 hz1 hz2
  rw [hr0] at ec
  go_wp2_with fail
  refine (HL.out _ hr).mono ?_
  rintro e w5 ⟨v1, rfl, ho1, hr1, ht1⟩
  obtain ⟨a1, c1, hv1, _, _⟩ := ho1.read
  subst hv1
  obtain ⟨xs1, hxs1⟩ : ∃ xs, (listR Rd.str (r1) 20).1 = xs := ⟨_, rfl⟩
  rw [hxs1] at ho1
  have Hx1 := Lib.hid hxs1
  rw [hxs1]
  clear hxs1
  have hl1 : xs1.length ≤ 20 := by rw [← Hx1.out]; exact manyR_le _ _ 20
  have Hls := Lib.hid (show ∀ t ∈ xs1, t.size ≤ 100000 from fun t ht => by rw [← Hx1.out] at ht; exact Nat.le_trans (listR_size _ _ t ht) hrl)
  rw [Hx1.out] at HKR
  generalize (listR Rd.str r1 20).2 = rF at *
  have hbz1 := hlR
  have hsz := ht1.size
  have hM5 := hM.same (ht1.block mb hlm (by omega)) hsz
  have hR5 := hR.same (ht1.block R hlR (by omega)) hsz
  have hB5 := hB.trans (ht1.below (B' := R) (by omega) (fun k hk h => by omega))
  have hmw5 := hM5.1
  have hRw5 := hR5.1
  have hrw5 := hr1.lt
  have Hown := Lib.hid (fun g (h : (Value.slice a1 xs1.length c1).ownBlock = some g) => (ho1.lt h).2)
  clear m0 ec hM hR hB hr ht1 hr0
  go_wp2_with fail
  go_loopw [6, 10] (fun bd i wr => ∃ (k : Nat) (a : Option Addr) (c : Nat), k ≤ xs1.length ∧ i = .int .i64 k ∧ bd = .bool ((xs1.take k).any badOf) ∧ RrAt wr rb rF ∧ VarAt wr mb [.int .i64 2, .slice none 0 0, .slice none 0 0, .slice a k c, .slice none 0 0] ∧ OwnRows oprLay wr w5.heap.size 45 (.slice a k c) ((xs1.take k).map opOf) ∧ OwnRows strLay wr W.heap.size 9 (.slice a1 xs1.length c1) xs1 ∧ VarAt wr R [.int .i64 0, .slice none 0 0, .slice none 0 0, .slice none 0 0, .slice none 0 0] ∧ Below R w wr ∧ w5.heap.size ≤ wr.heap.size) (fun _ i _ => xs1.length - (RowKit.intOf i).toNat)
  case atStart => exact ⟨0, none, 0, Nat.zero_le _, rfl, rfl, hr1, hM5, OwnRows.nil _ _ _ _, ho1, hR5, hB5, Nat.le_refl _⟩
  case round =>
    clear hr1 hM5 ho1 hR5 hB5
    obtain ⟨k, a, c, hk, rfl, rfl, hr, hM, ho, ho1, hR, hB, hws⟩ := hrel
    by_cases hlt : k < xs1.length
    · obtain ⟨t, ht⟩ := at_some hlt
      obtain ⟨b1, off, ha1, hbl, c0⟩ := str_at ho1.rows ht
      subst ha1
      have hts := Hls.out t (List.mem_of_getElem? ht)
      have HD := Lib.hid fun W => rdecode_any t W hts
      obtain ⟨y, er, hd⟩ := pair_of (decO t.data.toList)
      rw [hd] at HD
      dsimp only at HD
      have Htk := Lib.hid (show xs1.take (k + 1) = xs1.take k ++ [t] by
        rw [List.take_succ_eq_append_getElem hlt]
        rw [List.getElem?_eq_getElem hlt] at ht
        cases ht
        rfl)
      have Hy := Lib.hid (show opOf t = y by unfold opOf; rw [hd])
      obtain ⟨eb, heb⟩ : ∃ eb, (er != 0) = eb := ⟨_, rfl⟩
      have Heb := Lib.hid (show badOf t = eb by unfold badOf; rw [hd]; exact heb)
      obtain ⟨bb, hbb⟩ : ∃ bb, (xs1.take k).any badOf = bb := ⟨_, rfl⟩
      rw [hbb]
      have Hbb := Lib.hid hbb
      have hlen : ((xs1.take k).map opOf).length = k := by rw [List.length_map, List.length_take, Nat.min_eq_left hk]
      have Hmp := Lib.hid (show (xs1.take (k + 1)).map opOf = (xs1.take k).map opOf ++ [y] by rw [Htk.out, List.map_append, List.map_cons, List.map_nil, Hy.out])
      have Han := Lib.hid (show (xs1.take (k + 1)).any badOf = (bb || eb) by rw [Htk.out, List.any_append, List.any_cons, List.any_nil, Bool.or_false, Hbb.out, Heb.out])
      have Hlen := Lib.hid hlen
      clear hlen hbb hd ht
      generalize (xs1.take k).map opOf = out at *
      go_wp2_with fail
      refine (HD.out _).mono ?_
      rintro e w6 ⟨rfl, hb6⟩
      have hal : Below w6.heap.size w6 (w6.alloc (.cells #[.int .i64 y.cnt, .int .i64 y.who, .int .i64 y.seq, .int .i64 y.kind, .int .i64 y.nc, .int .i64 y.nw, .bool y.dir, .int .i64 y.pc, .int .i64 y.pw, .string y.name, .string y.man] 45)) := (Below.refl w6.heap.size w6).alloc (Nat.le_refl _) _
      have hM6 := (hM.keeps hb6 hM.1).keeps hal (Nat.lt_of_lt_of_le hM.1 hb6.size)
      have hR6 := (hR.keeps hb6 hR.1).keeps hal (Nat.lt_of_lt_of_le hR.1 hb6.size)
      have hr6 := (hr.keeps hb6 hr.lt).keeps hal (Nat.lt_of_lt_of_le hr.lt hb6.size)
      have ho6 := (ho.below hb6).alloc (.cells #[.int .i64 y.cnt, .int .i64 y.who, .int .i64 y.seq, .int .i64 y.kind, .int .i64 y.nc, .int .i64 y.nw, .bool y.dir, .int .i64 y.pc, .int .i64 y.pw, .string y.name, .string y.man] 45)
      have ho16 := (ho1.below hb6).alloc (.cells #[.int .i64 y.cnt, .int .i64 y.who, .int .i64 y.seq, .int .i64 y.kind, .int .i64 y.nc, .int .i64 y.nw, .bool y.dir, .int .i64 y.pc, .int .i64 y.pw, .string y.name, .string y.man] 45)
      have hB6 := (hB.trans (hb6.mono (Nat.le_trans hRw hB.size))).alloc (Nat.le_trans hRw (Nat.le_trans hB.size hb6.size)) (.cells #[.int .i64 y.cnt, .int .i64 y.who, .int .i64 y.seq, .int .i64 y.kind, .int .i64 y.nc, .int .i64 y.nw, .bool y.dir, .int .i64 y.pc, .int .i64 y.pw, .string y.name, .string y.man] 45)
      have hs6 := hb6.size
      have k3 := hM6.2.2 3 _ rfl
      clear hM hR hr ho ho1 hB hb6 c0 hal
      have hne : mb ≠ w6.heap.size := by omega
      cases bb with
      | true =>
        go_wp2_with (at_builtin; refine wpList_append_rows _ rfl _ _ 24 rfl oprLay w5.heap.size 45 i0 (.agg #[.int .i64 0, .int .i64 0, .int .i64 0, .int .i64 0, .int .i64 0, .int .i64 0, .bool false, .int .i64 0, .int .i64 0, .string ⟨#[]⟩, .string ⟨#[]⟩]) 104 Tryd.underlying24 Hi.out Hz0.out Hz1.out Hz2.out rfl (by decide) _ _ rfl (ho6.alloc _) ⟨w6.heap.size + 1, 0, none⟩ 1 y rfl (cells_new_at _ (w6.heap.size + 1) #[.int .i64 y.cnt, .int .i64 y.who, .int .i64 y.seq, .int .i64 y.kind, .int .i64 y.nc, .int .i64 y.nw, .bool y.dir, .int .i64 y.pc, .int .i64 y.pw, .string y.name, .string y.man] 45 (by simp)) (by have := Hlen.out; unfold maxLen; omega) (by have := Hlen.out; omega) (by simp; omega) ?_)
        intro v7 w7 ho7 hg7 _
        obtain ⟨a7, c7, hv7, _, _⟩ := ho7.read
        rw [show (out ++ [y]).length = k + 1 by rw [List.length_append, Hlen.out]; rfl] at hv7
        subst hv7
        have hx1 : ∀ j, some j ≠ (Value.slice a k c).ownBlock ∨ w5.heap.size ≤ j := fun j => by
          by_cases e : some j = (Value.slice a k c).ownBlock
          · exact .inr (ho6.lt e.symm).1
          · exact .inl e
        have hal : Below (w6.alloc (.cells #[.int .i64 y.cnt, .int .i64 y.who, .int .i64 y.seq, .int .i64 y.kind, .int .i64 y.nc, .int .i64 y.nw, .bool y.dir, .int .i64 y.pc, .int .i64 y.pw, .string y.name, .string y.man] 45)).heap.size (w6.alloc (.cells #[.int .i64 y.cnt, .int .i64 y.who, .int .i64 y.seq, .int .i64 y.kind, .int .i64 y.nc, .int .i64 y.nw, .bool y.dir, .int .i64 y.pc, .int .i64 y.pw, .string y.name, .string y.man] 45)) ((w6.alloc (.cells #[.int .i64 y.cnt, .int .i64 y.who, .int .i64 y.seq, .int .i64 y.kind, .int .i64 y.nc, .int .i64 y.nw, .bool y.dir, .int .i64 y.pc, .int .i64 y.pw, .string y.name, .string y.man] 45)).alloc (.cells #[.int .i64 y.cnt, .int .i64 y.who, .int .i64 y.seq, .int .i64 y.kind, .int .i64 y.nc, .int .i64 y.nw, .bool y.dir, .int .i64 y.pc, .int .i64 y.pw, .string y.name, .string y.man] 45)) := (Below.refl _ _).alloc (Nat.le_refl _) _
        have hM7 := (hM6.keeps hal hM6.1).grown hg7 ((hx1 mb).resolve_right (by omega))
        have hR7 := ((hR6.keeps hal hR6.1).grown hg7 ((hx1 R).resolve_right (by omega))).other (k := mb) (i := 3) (.slice a7 (k + 1) c7) (by omega)
        have hr7a := hr6.keeps hal hr6.lt
        have hr7 := (hr7a.same (hg7.block rb hr7a.lt ((hx1 rb).resolve_right (by omega))) hg7.size).other (k := mb) (i := 3) (.slice a7 (k + 1) c7) (by omega)
        have hB7 := ((hB6.alloc (Nat.le_trans hRw hB6.size) (.cells #[.int .i64 y.cnt, .int .i64 y.who, .int .i64 y.seq, .int .i64 y.kind, .int .i64 y.nc, .int .i64 y.nw, .bool y.dir, .int .i64 y.pc, .int .i64 y.pw, .string y.name, .string y.man] 45)).grown hg7 (by simp; omega) (fun j ej => by have := (ho6.lt ej).1; omega)).setCell (p := ⟨mb, 3, none⟩) (show R ≤ mb by omega) (.slice a7 (k + 1) c7)
        have ho17 := ((ho16.alloc (.cells #[.int .i64 y.cnt, .int .i64 y.who, .int .i64 y.seq, .int .i64 y.kind, .int .i64 y.nc, .int .i64 y.nw, .bool y.dir, .int .i64 y.pc, .int .i64 y.pw, .string y.name, .string y.man] 45)).kept hg7 (by
          rcases hob : (Value.slice (some ⟨b1, off, none⟩) xs1.length c1).ownBlock with _ | g
          · exact .inl rfl
          · refine .inr (fun e2 => ?_)
            have h1 := Hown.out g hob
            have h2 := (ho6.lt e2.symm).1
            omega)).set (b := mb) 3 (.slice a7 (k + 1) c7) hlm
        have k7 := hM7.2.2 3 _ rfl
        have f7 := hM7.2.1 3
        have hM8 := hM7.set 3 (.slice a7 (k + 1) c7) (by simp)
        dsimp only [List.set] at hM8
        have ho8 := ho7.set (b := mb) 3 (.slice a7 (k + 1) c7) hmw5
        have hs7 : w5.heap.size ≤ (w7.setCell ⟨mb, 3, none⟩ (.slice a7 (k + 1) c7)).heap.size := by
          have := hg7.size
          simp at this ⊢
          omega
        clear hx1 hal hr7a hM7 hg7 ho7 ho6 ho16 hM6 hR6 hr6 hB6 k3
        go_wp2_with fail
        go_roundw
        case rel => exact ⟨k + 1, a7, c7, by omega, by go_num, by rw [Han.out]; rfl, hr7, hM8, by rw [Hmp.out]; exact ho8, ho17, hR7, hB7, hs7⟩
        case measure => simp [RowKit.intOf]; omega
      | false =>
        go_wp2_with (at_builtin; refine wpList_append_rows _ rfl _ _ 24 rfl oprLay w5.heap.size 45 i0 (.agg #[.int .i64 0, .int .i64 0, .int .i64 0, .int .i64 0, .int .i64 0, .int .i64 0, .bool false, .int .i64 0, .int .i64 0, .string ⟨#[]⟩, .string ⟨#[]⟩]) 104 Tryd.underlying24 Hi.out Hz0.out Hz1.out Hz2.out rfl (by decide) _ _ rfl (ho6.alloc _) ⟨w6.heap.size + 1, 0, none⟩ 1 y rfl (cells_new_at _ (w6.heap.size + 1) #[.int .i64 y.cnt, .int .i64 y.who, .int .i64 y.seq, .int .i64 y.kind, .int .i64 y.nc, .int .i64 y.nw, .bool y.dir, .int .i64 y.pc, .int .i64 y.pw, .string y.name, .string y.man] 45 (by simp)) (by have := Hlen.out; unfold maxLen; omega) (by have := Hlen.out; omega) (by simp; omega) ?_)
        intro v7 w7 ho7 hg7 _
        obtain ⟨a7, c7, hv7, _, _⟩ := ho7.read
        rw [show (out ++ [y]).length = k + 1 by rw [List.length_append, Hlen.out]; rfl] at hv7
        subst hv7
        have hx1 : ∀ j, some j ≠ (Value.slice a k c).ownBlock ∨ w5.heap.size ≤ j := fun j => by
          by_cases e : some j = (Value.slice a k c).ownBlock
          · exact .inr (ho6.lt e.symm).1
          · exact .inl e
        have hal : Below (w6.alloc (.cells #[.int .i64 y.cnt, .int .i64 y.who, .int .i64 y.seq, .int .i64 y.kind, .int .i64 y.nc, .int .i64 y.nw, .bool y.dir, .int .i64 y.pc, .int .i64 y.pw, .string y.name, .string y.man] 45)).heap.size (w6.alloc (.cells #[.int .i64 y.cnt, .int .i64 y.who, .int .i64 y.seq, .int .i64 y.kind, .int .i64 y.nc, .int .i64 y.nw, .bool y.dir, .int .i64 y.pc, .int .i64 y.pw, .string y.name, .string y.man] 45)) ((w6.alloc (.cells #[.int .i64 y.cnt, .int .i64 y.who, .int .i64 y.seq, .int .i64 y.kind, .int .i64 y.nc, .int .i64 y.nw, .bool y.dir, .int .i64 y.pc, .int .i64 y.pw, .string y.name, .string y.man] 45)).alloc (.cells #[.int .i64 y.cnt, .int .i64 y.who, .int .i64 y.seq, .int .i64 y.kind, .int .i64 y.nc, .int .i64 y.nw, .bool y.dir, .int .i64 y.pc, .int .i64 y.pw, .string y.name, .string y.man] 45)) := (Below.refl _ _).alloc (Nat.le_refl _) _
        have hM7 := (hM6.keeps hal hM6.1).grown hg7 ((hx1 mb).resolve_right (by omega))
        have hR7 := ((hR6.keeps hal hR6.1).grown hg7 ((hx1 R).resolve_right (by omega))).other (k := mb) (i := 3) (.slice a7 (k + 1) c7) (by omega)
        have hr7a := hr6.keeps hal hr6.lt
        have hr7 := (hr7a.same (hg7.block rb hr7a.lt ((hx1 rb).resolve_right (by omega))) hg7.size).other (k := mb) (i := 3) (.slice a7 (k + 1) c7) (by omega)
        have hB7 := ((hB6.alloc (Nat.le_trans hRw hB6.size) (.cells #[.int .i64 y.cnt, .int .i64 y.who, .int .i64 y.seq, .int .i64 y.kind, .int .i64 y.nc, .int .i64 y.nw, .bool y.dir, .int .i64 y.pc, .int .i64 y.pw, .string y.name, .string y.man] 45)).grown hg7 (by simp; omega) (fun j ej => by have := (ho6.lt ej).1; omega)).setCell (p := ⟨mb, 3, none⟩) (show R ≤ mb by omega) (.slice a7 (k + 1) c7)
        have ho17 := ((ho16.alloc (.cells #[.int .i64 y.cnt, .int .i64 y.who, .int .i64 y.seq, .int .i64 y.kind, .int .i64 y.nc, .int .i64 y.nw, .bool y.dir, .int .i64 y.pc, .int .i64 y.pw, .string y.name, .string y.man] 45)).kept hg7 (by
          rcases hob : (Value.slice (some ⟨b1, off, none⟩) xs1.length c1).ownBlock with _ | g
          · exact .inl rfl
          · refine .inr (fun e2 => ?_)
            have h1 := Hown.out g hob
            have h2 := (ho6.lt e2.symm).1
            omega)).set (b := mb) 3 (.slice a7 (k + 1) c7) hlm
        have k7 := hM7.2.2 3 _ rfl
        have f7 := hM7.2.1 3
        have hM8 := hM7.set 3 (.slice a7 (k + 1) c7) (by simp)
        dsimp only [List.set] at hM8
        have ho8 := ho7.set (b := mb) 3 (.slice a7 (k + 1) c7) hmw5
        have hs7 : w5.heap.size ≤ (w7.setCell ⟨mb, 3, none⟩ (.slice a7 (k + 1) c7)).heap.size := by
          have := hg7.size
          simp at this ⊢
          omega
        clear hx1 hal hr7a hM7 hg7 ho7 ho6 ho16 hM6 hR6 hr6 hB6 k3
        go_wp2_with fail
        go_roundw
        case rel => exact ⟨k + 1, a7, c7, by omega, by go_num, by rw [Han.out]; rfl, hr7, hM8, by rw [Hmp.out]; exact ho8, ho17, hR7, hB7, hs7⟩
        case measure => simp [RowKit.intOf]; omega
    obtain rfl : k = xs1.length := by omega
    rw [List.take_length] at ho ⊢
    obtain ⟨ys, hys⟩ : ∃ ys, xs1.map opOf = ys := ⟨_, rfl⟩
    obtain ⟨bq, hbq⟩ : ∃ bq, xs1.any badOf = bq := ⟨_, rfl⟩
    have hyl : xs1.length = ys.length := by rw [← hys, List.length_map]
    have Hys := Lib.hid hys
    have Hbq := Lib.hid hbq
    rw [hys] at ho HKR
    rw [hbq]
    rw [hyl] at ho hM
    have hyl2 : ys.length ≤ 20 := by omega
    clear hys hbq ho1 hyl hlt hk
    go_upto_region 25 with (fail)
    have hsz := hws
    have HE := Lib.hid (rEnd_any rb (rF) _ hr)
    obtain ⟨fe, hfe⟩ : ∃ fe, Rd.fin (rF) = fe := ⟨_, rfl⟩
    rw [hfe] at HE
    have HDf := Lib.hid (fun (he : fe ≠ 0) => dec_fin (l := d.data.toList) (e := fe) (by rw [HKR.out]; exact hfe) he)
    have HF0 := Lib.hid (fun (he : fe = 0) => (show (readM d.data.toList).2.2.fin = 0 by rw [HKR.out]; exact hfe.trans he))
    clear hfe
    by_cases hf0 : ¬ fe = 0
    · have HD := Lib.hid (HDf.out hf0)
      have d1 : (fe != 0) = true := by rw [bne_iff_ne]; exact hf0
      clear hf0
      go_wp2_with fail
      refine HE.out.mono ?_
      rintro e w9 ⟨rfl, rfl⟩
      have f0 := hR.2.2 0 _ rfl
      have f1 := hR.2.2 1 _ rfl
      have f2 := hR.2.2 2 _ rfl
      have f3 := hR.2.2 3 _ rfl
      have f4 := hR.2.2 4 _ rfl
      have ff := hR.2.1
      go_wp2_with fail
      have hR5 := hR.put [.int .i64 0, .slice none 0 0, .slice none 0 0, .slice none 0 0, .slice none 0 0] rfl
      have hB5 := belowPut (b := R) hB [.int .i64 0, .slice none 0 0, .slice none 0 0, .slice none 0 0, .slice none 0 0] 0 (by omega)
      simp only [putRow, Nat.zero_add, Nat.reduceAdd] at hR5 hB5
      have e0 := hR5.2.2 0 _ rfl
      have e1 := hR5.2.2 1 _ rfl
      have e2 := hR5.2.2 2 _ rfl
      have e3 := hR5.2.2 3 _ rfl
      have e4 := hR5.2.2 4 _ rfl
      refine bodyPost_ret (v := .tuple #[.agg #[.int .i64 0, .slice none 0 0, .slice none 0 0, .slice none 0 0, .slice none 0 0], .int .i64 fe]) (by simp [results, Tryd.results12, go_sem, e0, e1, e2, e3, e4]) rfl (HNone.out _ _ HD.out hB5)
    replace hf0 := Decidable.not_not.1 hf0
    have HFz := Lib.hid (HF0.out hf0)
    subst hf0
    cases bq with
    | true =>
      have HD := Lib.hid (dec_bad (l := d.data.toList) HFz.out (.inl (by rw [HKR.out]; exact Hbq.out)))
      go_wp2_with fail
      refine HE.out.mono ?_
      rintro e w9 ⟨rfl, rfl⟩
      have f0 := hR.2.2 0 _ rfl
      have f1 := hR.2.2 1 _ rfl
      have f2 := hR.2.2 2 _ rfl
      have f3 := hR.2.2 3 _ rfl
      have f4 := hR.2.2 4 _ rfl
      have ff := hR.2.1
      go_wp2_with fail
      have hR5 := hR.put [.int .i64 0, .slice none 0 0, .slice none 0 0, .slice none 0 0, .slice none 0 0] rfl
      have hB5 := belowPut (b := R) hB [.int .i64 0, .slice none 0 0, .slice none 0 0, .slice none 0 0, .slice none 0 0] 0 (by omega)
      simp only [putRow, Nat.zero_add, Nat.reduceAdd] at hR5 hB5
      have e0 := hR5.2.2 0 _ rfl
      have e1 := hR5.2.2 1 _ rfl
      have e2 := hR5.2.2 2 _ rfl
      have e3 := hR5.2.2 3 _ rfl
      have e4 := hR5.2.2 4 _ rfl
      refine bodyPost_ret (v := .tuple #[.agg #[.int .i64 0, .slice none 0 0, .slice none 0 0, .slice none 0 0, .slice none 0 0], .int .i64 11]) (by simp [results, Tryd.results12, go_sem, e0, e1, e2, e3, e4]) rfl (HNone.out _ _ HD.out hB5)
    | false =>
      have HRt := Lib.hid fun W h1 h2 h3 h4 => rmright_any 2 none none a none 0 0 c 0 [] [] ys [] W (Nat.zero_le _) (Nat.zero_le _) (by omega) (Nat.zero_le _) (fun x hx => by have hx : x ∈ ys := hx; rw [← Hys.out] at hx; obtain ⟨t, ht, rfl⟩ := List.mem_map.1 hx; have := Hls.out t ht; have := opOf_size t; omega) h1 h2 h3 h4
      have HDb := Lib.hid (fun h => dec_bad (l := d.data.toList) HFz.out (.inr h))
      have HDo := Lib.hid (fun h => dec_ok (l := d.data.toList) HFz.out (by rw [HKR.out]; exact Hbq.out) h)
      rw [HKR.out] at HDb HDo
      dsimp only at HDb HDo HRt
      obtain ⟨rt, hrt⟩ : ∃ rt, rightM (⟨2, [], [], ys, []⟩ : Msg) = rt := ⟨_, rfl⟩
      rw [hrt] at HRt HDb HDo
      clear hrt
      have m0 := hM.2.2 0 _ rfl
      have m1 := hM.2.2 1 _ rfl
      have m2 := hM.2.2 2 _ rfl
      have m3 := hM.2.2 3 _ rfl
      have m4 := hM.2.2 4 _ rfl
      go_wp2_with fail
      refine HE.out.mono ?_
      rintro e w9 ⟨rfl, rfl⟩
      go_wp2_with fail
      refine (HRt.out _ (RowsAt.nil _ _ _) (RowsAt.nil _ _ _) ho.rows (RowsAt.nil _ _ _)).mono ?_
      rintro e w10 ⟨rfl, hb10⟩
      replace hR := hR.keeps hb10 hR.1
      replace hM := hM.keeps hb10 hM.1
      replace hB := hB.trans (hb10.mono (Nat.le_trans hRw hB.size))
      clear m0 m1 m2 m3 m4
      cases rt with
      | false =>
        have HD := Lib.hid (HDb.out rfl)
        have f0 := hR.2.2 0 _ rfl
        have f1 := hR.2.2 1 _ rfl
        have f2 := hR.2.2 2 _ rfl
        have f3 := hR.2.2 3 _ rfl
        have f4 := hR.2.2 4 _ rfl
        have ff := hR.2.1
        go_wp2_with fail
        have hR5 := hR.put [.int .i64 0, .slice none 0 0, .slice none 0 0, .slice none 0 0, .slice none 0 0] rfl
        have hB5 := belowPut (b := R) hB [.int .i64 0, .slice none 0 0, .slice none 0 0, .slice none 0 0, .slice none 0 0] 0 (by omega)
        simp only [putRow, Nat.zero_add, Nat.reduceAdd] at hR5 hB5
        have e0 := hR5.2.2 0 _ rfl
        have e1 := hR5.2.2 1 _ rfl
        have e2 := hR5.2.2 2 _ rfl
        have e3 := hR5.2.2 3 _ rfl
        have e4 := hR5.2.2 4 _ rfl
        refine bodyPost_ret (v := .tuple #[.agg #[.int .i64 0, .slice none 0 0, .slice none 0 0, .slice none 0 0, .slice none 0 0], .int .i64 11]) (by simp [results, Tryd.results12, go_sem, e0, e1, e2, e3, e4]) rfl (HNone.out _ _ HD.out hB5)
      | true =>
        have HD := Lib.hid (HDo.out rfl)
        have m0 := hM.2.2 0 _ rfl
        have m1 := hM.2.2 1 _ rfl
        have m2 := hM.2.2 2 _ rfl
        have m3 := hM.2.2 3 _ rfl
        have m4 := hM.2.2 4 _ rfl
        have f0 := hR.2.2 0 _ rfl
        have f1 := hR.2.2 1 _ rfl
        have f2 := hR.2.2 2 _ rfl
        have f3 := hR.2.2 3 _ rfl
        have f4 := hR.2.2 4 _ rfl
        have ff := hR.2.1
        have hnm : R ≠ mb := by omega
        go_wp2_with fail
        have hR5 := hR.put [.int .i64 2, .slice none 0 0, .slice none 0 0, .slice a ys.length c, .slice none 0 0] rfl
        have hB5 := belowPut (b := R) hB [.int .i64 2, .slice none 0 0, .slice none 0 0, .slice a ys.length c, .slice none 0 0] 0 (by omega)
        have qho := (ho.below hb10).putRow (b := R) 0 [.int .i64 2, .slice none 0 0, .slice none 0 0, .slice a ys.length c, .slice none 0 0] (by omega)
        simp only [putRow, Nat.zero_add, Nat.reduceAdd] at hR5 hB5 qho
        have e0 := hR5.2.2 0 _ rfl
        have e1 := hR5.2.2 1 _ rfl
        have e2 := hR5.2.2 2 _ rfl
        have e3 := hR5.2.2 3 _ rfl
        have e4 := hR5.2.2 4 _ rfl
        refine bodyPost_ret (v := .tuple #[.agg #[.int .i64 2, .slice none 0 0, .slice none 0 0, .slice a ys.length c, .slice none 0 0], .int .i64 0]) (by simp [results, Tryd.results12, go_sem, e0, e1, e2, e3, e4]) rfl ?_
        exact HOk.out _ (⟨2, [], [], ys, []⟩ : Msg) _ _ _ _ _ _ _ _ _ _ _ _ _ HD.out rfl rfl rfl rfl rfl hB5 (RowsAt.nil _ _ _) (RowsAt.nil _ _ _) qho.rows (RowsAt.nil _ _ _)
end Go.Proofs.YtaimbhphepopmaaDoor

namespace Go.Proofs.YtaimbhphepopmaaDoor
open Go Go.RowKit Go.Lib
attribute [local go_sem ↓] Go.wp_at_zero Go.wp_at_succ

set_option maxRecDepth 100000 in
set_option maxHeartbeats 12800000 in
theorem rmdecode_3 (d : ByteArray) (w : World) (hd : d.size ≤ 100000) (hk : (Rd.num ⟨0, d.data.toList⟩).1 = 3) :
    Calls Tryd.prog 12 #[.string d] w (DecPost d.data.toList w) := by
  obtain ⟨r1, hr1⟩ : ∃ r1, (Rd.num ⟨0, d.data.toList⟩).2 = r1 := ⟨_, rfl⟩
  have hrl : r1.rest.length ≤ 100000 := by
    have := num_rest ⟨0, d.data.toList⟩
    rw [hr1] at this
    rw [size_eq] at hd
    exact Nat.le_trans this hd
  have HKR := Lib.hid (readM_3 hk)
  rw [hr1] at HKR
  have hr0 : r1.err = 0 := by
    by_cases h : r1.err = 0
    · exact h
    · have := num_zero_err (r := ⟨0, d.data.toList⟩) (by rw [hr1]; exact h)
      omega
  have HNone := Lib.hid fun er W (h : decM d.data.toList = (noMsg, er)) (hb : Below w.heap.size w W) => decPost_none h hb
  have HOk := Lib.hid fun W m k nv nw no np av aw ao ap cv cw co cp h h0 h1 h2 h3 h4 hb q1 q2 q3 q4 => decPost_ok (l := d.data.toList) (w := w) (w' := W) (m := m) (k := k) (nv := nv) (nw := nw) (no := no) (np := np) av aw ao ap cv cw co cp h h0 h1 h2 h3 h4 hb q1 q2 q3 q4
  generalize DecPost d.data.toList w = Q at *
  have hb0 : Below w.heap.size w (((w.alloc (.cells #[.int .i64 0, .slice none 0 0, .slice none 0 0, .slice none 0 0, .slice none 0 0] 33)).alloc (.cells #[.string d, .int .i64 0] 71)).alloc (.cells #[.int .i64 0, .slice none 0 0, .slice none 0 0, .slice none 0 0, .slice none 0 0] 33)) := (((Below.refl w.heap.size w).alloc (Nat.le_refl _) _).alloc (by simp) _).alloc (by simp; omega) _
  have hR0 : VarAt (((w.alloc (.cells #[.int .i64 0, .slice none 0 0, .slice none 0 0, .slice none 0 0, .slice none 0 0] 33)).alloc (.cells #[.string d, .int .i64 0] 71)).alloc (.cells #[.int .i64 0, .slice none 0 0, .slice none 0 0, .slice none 0 0, .slice none 0 0] 33)) w.heap.size [.int .i64 0, .slice none 0 0, .slice none 0 0, .slice none 0 0, .slice none 0 0] := ((VarAt.new w #[.int .i64 0, .slice none 0 0, .slice none 0 0, .slice none 0 0, .slice none 0 0] 33).keeps ((Below.refl _ _).alloc (Nat.le_refl _) (.cells #[.string d, .int .i64 0] 71)) (by simp)).keeps ((Below.refl _ _).alloc (Nat.le_refl _) (.cells #[.int .i64 0, .slice none 0 0, .slice none 0 0, .slice none 0 0, .slice none 0 0] 33)) (by simp; omega)
  have hq0 : VarAt (((w.alloc (.cells #[.int .i64 0, .slice none 0 0, .slice none 0 0, .slice none 0 0, .slice none 0 0] 33)).alloc (.cells #[.string d, .int .i64 0] 71)).alloc (.cells #[.int .i64 0, .slice none 0 0, .slice none 0 0, .slice none 0 0, .slice none 0 0] 33)) (w.heap.size + 1) [.string d, .int .i64 0] := by
    have := (VarAt.new (w.alloc (.cells #[.int .i64 0, .slice none 0 0, .slice none 0 0, .slice none 0 0, .slice none 0 0] 33)) #[.string d, .int .i64 0] 71).keeps ((Below.refl _ _).alloc (Nat.le_refl _) (.cells #[.int .i64 0, .slice none 0 0, .slice none 0 0, .slice none 0 0, .slice none 0 0] 33)) (by simp)
    simpa using this
  have hM0 : VarAt (((w.alloc (.cells #[.int .i64 0, .slice none 0 0, .slice none 0 0, .slice none 0 0, .slice none 0 0] 33)).alloc (.cells #[.string d, .int .i64 0] 71)).alloc (.cells #[.int .i64 0, .slice none 0 0, .slice none 0 0, .slice none 0 0, .slice none 0 0] 33)) (w.heap.size + 1 + 1) [.int .i64 0, .slice none 0 0, .slice none 0 0, .slice none 0 0, .slice none 0 0] := by
    have := VarAt.new ((w.alloc (.cells #[.int .i64 0, .slice none 0 0, .slice none 0 0, .slice none 0 0, .slice none 0 0] 33)).alloc (.cells #[.string d, .int .i64 0] 71)) #[.int .i64 0, .slice none 0 0, .slice none 0 0, .slice none 0 0, .slice none 0 0] 33
    simpa using this
  have hrr : RrAt (((w.alloc (.cells #[.int .i64 0, .slice none 0 0, .slice none 0 0, .slice none 0 0, .slice none 0 0] 33)).alloc (.cells #[.string d, .int .i64 0] 71)).alloc (.cells #[.int .i64 0, .slice none 0 0, .slice none 0 0, .slice none 0 0, .slice none 0 0] 33)) (w.heap.size + 1) ⟨0, d.data.toList⟩ := ⟨d, ⟨hq0.2.2 0 _ rfl, hq0.2.2 1 _ rfl, hq0.2.1, hq0.1⟩, by omega, fun _ => rfl⟩
  clear hq0
  have HN := Lib.hid fun W (h : RrAt W (w.heap.size + 1) ⟨0, d.data.toList⟩) => rNum_any (w.heap.size + 1) ⟨0, d.data.toList⟩ W h

  rw [hk, hr1] at HN

  clear hk hr1
  go_enter Tryd.func12, Tryd.ntmps12
  go_wp2_with fail
  obtain ⟨R, hRe⟩ : ∃ R, R = w.heap.size := ⟨_, rfl⟩
  obtain ⟨rb, hrbe⟩ : ∃ rb, rb = w.heap.size + 1 := ⟨_, rfl⟩
  obtain ⟨mb, hmbe⟩ : ∃ mb, mb = rb + 1 := ⟨_, rfl⟩
  rw [← hrbe] at hrr HN hM0 ⊢
  rw [← hmbe] at hM0 ⊢
  rw [← hRe] at hR0 hb0 HNone HOk ⊢
  have hRrb : R < rb := by omega
  have hrbmb : rb < mb := by omega
  have hRw : R ≤ w.heap.size := by omega
  generalize ((w.alloc (.cells #[.int .i64 0, .slice none 0 0, .slice none 0 0, .slice none 0 0, .slice none 0 0] 33)).alloc (.cells #[.string d, .int .i64 0] 71)).alloc (.cells #[.int .i64 0, .slice none 0 0, .slice none 0 0, .slice none 0 0, .slice none 0 0] 33) = W1 at *
  clear hRe hrbe hmbe
  refine (HN.out _ hrr).mono ?_
  rintro e w2 ⟨rfl, hr2, hg2⟩
  have hR2 := hR0.grown hg2 (by simp; omega)
  have hM2 := hM0.grown hg2 (by simp; omega)
  have hB2 := hb0.grown hg2 (Nat.le_trans hRw hb0.size) (fun j ej => by cases ej; omega)
  clear hrr hR0 hM0 hb0 hg2
  have m0 := hM2.2.2 0 _ rfl
  have mf := hM2.2.1 0
  go_upto_region 4 with (fail)
  have hM := hM2.set 0 (.int .i64 3) (by simp)
  have hR := hR2.other (k := mb) (i := 0) (.int .i64 3) (by omega)
  have hr := hr2.other (k := mb) (i := 0) (.int .i64 3) (by omega)
  have hB := hB2.setCell (p := ⟨mb, 0, none⟩) (show R ≤ mb by omega) (.int .i64 3)
  dsimp only [List.set] at hM
  clear m0 mf hM2 hR2 hr2 hB2
  generalize w2.setCell ⟨mb, 0, none⟩ (.int .i64 3) = W at *
  have hlR := hR.1
  have hlr := hr.lt
  have hlm := hM.1
  have ec := rrCell hr
  have m0 := hM.2.2 0 _ rfl
  have HL := Lib.hid fun W h => rlist_any rb r1 16 W (by omega) h
  rw [show (((16 : Nat) : Int)) = 16 from rfl] at HL
  have m4 := hM.2.2 4 _ rfl
  rw [hr0] at ec
  go_wp2_with fail
  refine (HL.out _ hr).mono ?_
  rintro e w5 ⟨v1, rfl, ho1, hr1, ht1⟩
  obtain ⟨a1, c1, hv1, _, _⟩ := ho1.read
  subst hv1
  obtain ⟨xs1, hxs1⟩ : ∃ xs, (listR Rd.str (r1) 16).1 = xs := ⟨_, rfl⟩
  rw [hxs1] at ho1
  have Hx1 := Lib.hid hxs1
  rw [hxs1]
  clear hxs1
  have hl1 : xs1.length ≤ 16 := by rw [← Hx1.out]; exact manyR_le _ _ 16
  rw [Hx1.out] at HKR
  have hbz1 := hlR
  have hsz := ht1.size
  have hM5 := hM.same (ht1.block mb hlm (by omega)) hsz
  have hR5 := hR.same (ht1.block R hlR (by omega)) hsz
  have m5 := hM5.2.2 4 _ rfl
  have mf := hM5.2.1 4
  clear m4 m0 ec
  go_upto_region 25 with (fail)
  replace hM := hM5.set 4 (.slice a1 xs1.length c1) (by simp)
  dsimp only [List.set] at hM
  replace hR := hR5.other (k := mb) (i := 4) (.slice a1 xs1.length c1) (by omega)
  replace hB := (hB.trans (ht1.below (B' := R) (by omega) (fun k hk h => by omega))).setCell (p := ⟨mb, 4, none⟩) (show R ≤ mb by omega) (.slice a1 xs1.length c1)
  replace ho1 := ho1.set (b := mb) 4 (.slice a1 xs1.length c1) hlm
  replace hr := hr1.other (k := mb) (i := 4) (.slice a1 xs1.length c1) (by omega)
  clear hr1 ht1 hM5 hR5 m5 mf
  generalize w5.setCell ⟨mb, 4, none⟩ (.slice a1 xs1.length c1) = W5 at *
  have HE := Lib.hid (rEnd_any rb ((listR Rd.str r1 16).2) _ hr)
  obtain ⟨fe, hfe⟩ : ∃ fe, Rd.fin ((listR Rd.str r1 16).2) = fe := ⟨_, rfl⟩
  rw [hfe] at HE
  have HDf := Lib.hid (fun (he : fe ≠ 0) => dec_fin (l := d.data.toList) (e := fe) (by rw [HKR.out]; exact hfe) he)
  have HF0 := Lib.hid (fun (he : fe = 0) => (show (readM d.data.toList).2.2.fin = 0 by rw [HKR.out]; exact hfe.trans he))
  clear hfe
  by_cases hf0 : ¬ fe = 0
  · have HD := Lib.hid (HDf.out hf0)
    have d1 : (fe != 0) = true := by rw [bne_iff_ne]; exact hf0
    clear hf0
    go_wp2_with fail
    refine HE.out.mono ?_
    rintro e w9 ⟨rfl, rfl⟩
    have f0 := hR.2.2 0 _ rfl
    have f1 := hR.2.2 1 _ rfl
    have f2 := hR.2.2 2 _ rfl
    have f3 := hR.2.2 3 _ rfl
    have f4 := hR.2.2 4 _ rfl
    have ff := hR.2.1
    go_wp2_with fail
    have hR5 := hR.put [.int .i64 0, .slice none 0 0, .slice none 0 0, .slice none 0 0, .slice none 0 0] rfl
    have hB5 := belowPut (b := R) hB [.int .i64 0, .slice none 0 0, .slice none 0 0, .slice none 0 0, .slice none 0 0] 0 (by omega)
    simp only [putRow, Nat.zero_add, Nat.reduceAdd] at hR5 hB5
    have e0 := hR5.2.2 0 _ rfl
    have e1 := hR5.2.2 1 _ rfl
    have e2 := hR5.2.2 2 _ rfl
    have e3 := hR5.2.2 3 _ rfl
    have e4 := hR5.2.2 4 _ rfl
    refine bodyPost_ret (v := .tuple #[.agg #[.int .i64 0, .slice none 0 0, .slice none 0 0, .slice none 0 0, .slice none 0 0], .int .i64 fe]) (by simp [results, Tryd.results12, go_sem, e0, e1, e2, e3, e4]) rfl (HNone.out _ _ HD.out hB5)
  replace hf0 := Decidable.not_not.1 hf0
  have HFz := Lib.hid (HF0.out hf0)
  subst hf0
  have HRt := Lib.hid fun W h1 h2 h3 h4 => rmright_any 3 none none none a1 0 0 0 c1 [] [] [] xs1 W (Nat.zero_le _) (Nat.zero_le _) (Nat.zero_le _) (by omega) (fun x hx => by cases hx) h1 h2 h3 h4
  have HDb := Lib.hid (fun h => dec_bad (l := d.data.toList) HFz.out (.inr h))
  have HDo := Lib.hid (fun h => dec_ok (l := d.data.toList) HFz.out (by rw [HKR.out]) h)
  rw [HKR.out] at HDb HDo
  dsimp only at HDb HDo HRt
  obtain ⟨rt, hrt⟩ : ∃ rt, rightM (⟨3, [], [], [], xs1⟩ : Msg) = rt := ⟨_, rfl⟩
  rw [hrt] at HRt HDb HDo
  clear hrt
  have m0 := hM.2.2 0 _ rfl
  have m1 := hM.2.2 1 _ rfl
  have m2 := hM.2.2 2 _ rfl
  have m3 := hM.2.2 3 _ rfl
  have m4 := hM.2.2 4 _ rfl
  go_wp2_with fail
  refine HE.out.mono ?_
  rintro e w9 ⟨rfl, rfl⟩
  go_wp2_with fail
  refine (HRt.out _ (RowsAt.nil _ _ _) (RowsAt.nil _ _ _) (RowsAt.nil _ _ _) ho1.rows).mono ?_
  rintro e w10 ⟨rfl, hb10⟩
  replace hR := hR.keeps hb10 hR.1
  replace hM := hM.keeps hb10 hM.1
  replace hB := hB.trans (hb10.mono (Nat.le_trans hRw hB.size))
  clear m0 m1 m2 m3 m4
  cases rt with
  | false =>
    have HD := Lib.hid (HDb.out rfl)
    have f0 := hR.2.2 0 _ rfl
    have f1 := hR.2.2 1 _ rfl
    have f2 := hR.2.2 2 _ rfl
    have f3 := hR.2.2 3 _ rfl
    have f4 := hR.2.2 4 _ rfl
    have ff := hR.2.1
    go_wp2_with fail
    have hR5 := hR.put [.int .i64 0, .slice none 0 0, .slice none 0 0, .slice none 0 0, .slice none 0 0] rfl
    have hB5 := belowPut (b := R) hB [.int .i64 0, .slice none 0 0, .slice none 0 0, .slice none 0 0, .slice none 0 0] 0 (by omega)
    simp only [putRow, Nat.zero_add, Nat.reduceAdd] at hR5 hB5
    have e0 := hR5.2.2 0 _ rfl
    have e1 := hR5.2.2 1 _ rfl
    have e2 := hR5.2.2 2 _ rfl
    have e3 := hR5.2.2 3 _ rfl
    have e4 := hR5.2.2 4 _ rfl
    refine bodyPost_ret (v := .tuple #[.agg #[.int .i64 0, .slice none 0 0, .slice none 0 0, .slice none 0 0, .slice none 0 0], .int .i64 11]) (by simp [results, Tryd.results12, go_sem, e0, e1, e2, e3, e4]) rfl (HNone.out _ _ HD.out hB5)
  | true =>
    have HD := Lib.hid (HDo.out rfl)
    have m0 := hM.2.2 0 _ rfl
    have m1 := hM.2.2 1 _ rfl
    have m2 := hM.2.2 2 _ rfl
    have m3 := hM.2.2 3 _ rfl
    have m4 := hM.2.2 4 _ rfl
    have f0 := hR.2.2 0 _ rfl
    have f1 := hR.2.2 1 _ rfl
    have f2 := hR.2.2 2 _ rfl
    have f3 := hR.2.2 3 _ rfl
    have f4 := hR.2.2 4 _ rfl
    have ff := hR.2.1
    have hnm : R ≠ mb := by omega
    go_wp2_with fail
    have hR5 := hR.put [.int .i64 3, .slice none 0 0, .slice none 0 0, .slice none 0 0, .slice a1 xs1.length c1] rfl
    have hB5 := belowPut (b := R) hB [.int .i64 3, .slice none 0 0, .slice none 0 0, .slice none 0 0, .slice a1 xs1.length c1] 0 (by omega)
    have qho1 := (ho1.below hb10).putRow (b := R) 0 [.int .i64 3, .slice none 0 0, .slice none 0 0, .slice none 0 0, .slice a1 xs1.length c1] (by omega)
    simp only [putRow, Nat.zero_add, Nat.reduceAdd] at hR5 hB5 qho1
    have e0 := hR5.2.2 0 _ rfl
    have e1 := hR5.2.2 1 _ rfl
    have e2 := hR5.2.2 2 _ rfl
    have e3 := hR5.2.2 3 _ rfl
    have e4 := hR5.2.2 4 _ rfl
    refine bodyPost_ret (v := .tuple #[.agg #[.int .i64 3, .slice none 0 0, .slice none 0 0, .slice none 0 0, .slice a1 xs1.length c1], .int .i64 0]) (by simp [results, Tryd.results12, go_sem, e0, e1, e2, e3, e4]) rfl ?_
    exact HOk.out _ (⟨3, [], [], [], xs1⟩ : Msg) _ _ _ _ _ _ _ _ _ _ _ _ _ HD.out rfl rfl rfl rfl rfl hB5 (RowsAt.nil _ _ _) (RowsAt.nil _ _ _) (RowsAt.nil _ _ _) qho1.rows
end Go.Proofs.YtaimbhphepopmaaDoor

namespace Go.Proofs.YtaimbhphepopmaaDoor
open Go Go.RowKit Go.Lib
theorem rmdecode_any (d : ByteArray) (w : World) (hd : d.size ≤ 100000) : Calls Tryd.prog 12 #[.string d] w (DecPost d.data.toList w) := by
  have h : (Rd.num ⟨0, d.data.toList⟩).1 = 1 ∨ (Rd.num ⟨0, d.data.toList⟩).1 = 2 ∨ (Rd.num ⟨0, d.data.toList⟩).1 = 3 ∨ (Rd.num ⟨0, d.data.toList⟩).1 < 1 ∨ 3 < (Rd.num ⟨0, d.data.toList⟩).1 := by omega
  rcases h with h | h | h | h
  · exact rmdecode_1 d w hd h
  · exact rmdecode_2 d w hd h
  · exact rmdecode_3 d w hd h
  · exact rmdecode_0 d w hd h
end Go.Proofs.YtaimbhphepopmaaDoor

