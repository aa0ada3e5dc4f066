/-
  session.Decode, kind 0. session.Decode, kind 1. session.Decode, kind 2. session.Decode, kind 3. session.Decode: the message that bytes are.
-/
import Derived.Test.YtlenpifjkbcmdaaGreatDoorSessGB
import Derived.Test.YtlenpifjkbcmdaaGreatDoorSessGA
import Derived.Deep.Cut
import Derived.Deep.RegionHeld3
import Derived.Deep.DrawnRows
import Derived.StillTailTactics
namespace Go.Proofs.YtlenpifjkbcmdaaGreatDoor
open Go Go.RowKit Go.Lib
attribute [local go_sem ↓] Go.wp_at_zero Go.wp_at_succ

set_option maxRecDepth 100000 in
set_option maxHeartbeats 12800000 in
theorem mdecode_0 (d : ByteArray) (w : World) (hd : d.size ≤ 100000) (hk : (Rd.num ⟨0, d.data.toList⟩).1 < 1 ∨ 3 < (Rd.num ⟨0, d.data.toList⟩).1) :
    Calls Tryz.prog 11 #[.string d] w (DecPost d.data.toList w) := by
  obtain ⟨r1, hr1⟩ : ∃ r1, (Rd.num ⟨0, d.data.toList⟩).2 = r1 := ⟨_, rfl⟩
  have hrl : r1.rest.length ≤ 100000 := by
    have := num_rest ⟨0, d.data.toList⟩
    rw [hr1] at this
    rw [size_eq] at hd
    exact Nat.le_trans this hd
  have HKR := Lib.hid (readM_0 hk)
  rw [hr1] at HKR
  have HNone := Lib.hid fun er W (h : decM d.data.toList = (noMsg, er)) (hb : Below w.heap.size w W) => decPost_none h hb
  have HOk := Lib.hid fun W m k nv nw no np av aw ao ap cv cw co cp h h0 h1 h2 h3 h4 hb q1 q2 q3 q4 => decPost_ok (l := d.data.toList) (w := w) (w' := W) (m := m) (k := k) (nv := nv) (nw := nw) (no := no) (np := np) av aw ao ap cv cw co cp h h0 h1 h2 h3 h4 hb q1 q2 q3 q4
  generalize DecPost d.data.toList w = Q at *
  have hb0 := (Below.refl w.heap.size w).alloc (Nat.le_refl _) (.cells #[.int .i64 0, .slice none 0 0, .slice none 0 0, .slice none 0 0, .slice none 0 0] 38)
  have hR0 := VarAt.new w #[.int .i64 0, .slice none 0 0, .slice none 0 0, .slice none 0 0, .slice none 0 0] 38
  have HRD := Lib.hid (show Calls Tryz.prog 36 #[.string d] (w.alloc (.cells #[.int .i64 0, .slice none 0 0, .slice none 0 0, .slice none 0 0, .slice none 0 0] 38)) fun e w' => e = .returned (.pointer (some ⟨w.heap.size + 1, 0, none⟩)) ∧ RdAt w' (w.heap.size + 1) ⟨0, d.data.toList⟩ ∧ Below (w.heap.size + 1) (w.alloc (.cells #[.int .i64 0, .slice none 0 0, .slice none 0 0, .slice none 0 0, .slice none 0 0] 38)) w' by
    have := Read_any d (w.alloc (.cells #[.int .i64 0, .slice none 0 0, .slice none 0 0, .slice none 0 0, .slice none 0 0] 38)) (by omega)
    simpa using this)
  have HN := Lib.hid fun W (h : RdAt W (w.heap.size + 1) ⟨0, d.data.toList⟩) => Num_any (w.heap.size + 1) ⟨0, d.data.toList⟩ W h
  obtain ⟨k0, hk0⟩ : ∃ k0, (Rd.num ⟨0, d.data.toList⟩).1 = k0 := ⟨_, rfl⟩
  rw [hk0, hr1] at HN
  rw [hk0] at hk
  clear hk0 hr1
  go_enter Tryz.func11, Tryz.ntmps11
  go_wp2_with fail
  refine HRD.out.mono ?_
  rintro e w1 ⟨rfl, hr0, hb1⟩
  obtain ⟨R, hRe⟩ : ∃ R, R = w.heap.size := ⟨_, rfl⟩
  obtain ⟨rb, hrbe⟩ : ∃ rb, rb = w.heap.size + 1 := ⟨_, rfl⟩
  have hB1 := hb0.trans (hb1.mono (Nat.le_succ _))
  have hR1 := hR0.keeps hb1 (Nat.lt_succ_self _)
  have hs1 := hr0.lt
  rw [← hrbe] at hr0 hs1 HN ⊢
  rw [← hRe] at hR1 hB1 HNone HOk ⊢
  have hRrb : R < rb := by omega
  have hRw : R ≤ w.heap.size := by omega
  clear hRe hrbe
  have hb2 := ((Below.refl w1.heap.size w1).alloc (Nat.le_refl _) (.cells #[.pointer (some ⟨rb, 0, none⟩), .bool false] 73)).alloc (by simp) (.cells #[.pointer (some ⟨w1.heap.size, 0, none⟩)] 69)
  have hS2 : VarAt ((w1.alloc (.cells #[.pointer (some ⟨rb, 0, none⟩), .bool false] 73)).alloc (.cells #[.pointer (some ⟨w1.heap.size, 0, none⟩)] 69)) w1.heap.size [.pointer (some ⟨rb, 0, none⟩), .bool false] := (VarAt.new w1 #[.pointer (some ⟨rb, 0, none⟩), .bool false] 73).keeps ((Below.refl _ _).alloc (Nat.le_refl _) (.cells #[.pointer (some ⟨w1.heap.size, 0, none⟩)] 69)) (by simp)
  have hW2 : VarAt ((w1.alloc (.cells #[.pointer (some ⟨rb, 0, none⟩), .bool false] 73)).alloc (.cells #[.pointer (some ⟨w1.heap.size, 0, none⟩)] 69)) (w1.heap.size + 1) [.pointer (some ⟨w1.heap.size, 0, none⟩)] := by
    have := VarAt.new (w1.alloc (.cells #[.pointer (some ⟨rb, 0, none⟩), .bool false] 73)) #[.pointer (some ⟨w1.heap.size, 0, none⟩)] 69
    simpa using this
  have hr2 := hr0.keeps hb2 hs1
  have hR2 := hR1.keeps hb2 hR1.1
  have hB2 := hB1.trans (hb2.mono (Nat.le_trans hRw hB1.size))
  clear hr0 hR1 hb1 hB1 hb0 hR0 hb2
  go_wp2_with fail
  generalize (w1.alloc (.cells #[.pointer (some ⟨rb, 0, none⟩), .bool false] 73)).alloc (.cells #[.pointer (some ⟨w1.heap.size, 0, none⟩)] 69) = W2 at *
  obtain ⟨bs, hbse⟩ : ∃ bs, bs = w1.heap.size := ⟨_, rfl⟩
  obtain ⟨vr, hvre⟩ : ∃ vr, vr = w1.heap.size + 1 := ⟨_, rfl⟩
  rw [← hvre] at hW2 ⊢
  rw [← hbse] at hS2 hW2 ⊢
  have hrbbs : rb < bs := by omega
  have hbsvr : bs < vr := by omega
  clear hvre hbse hs1
  refine (HN.out _ hr2).mono ?_
  rintro e w3 ⟨rfl, hr3, hg3⟩
  have hR3 := hR2.grown hg3 (by simp; omega)
  have hS3 := hS2.grown hg3 (by simp; omega)
  have hW3 := hW2.grown hg3 (by simp; omega)
  have hB3 := hB2.grown hg3 (Nat.le_trans hRw hB2.size) (fun j ej => by cases ej; omega)
  clear hr2 hR2 hS2 hW2 hB2 hg3
  have hb4 := ((Below.refl w3.heap.size w3).alloc (Nat.le_refl _) (.cells #[.int .i64 k0, .slice none 0 0, .slice none 0 0, .slice none 0 0, .slice none 0 0] 38)).alloc (by simp) (.cells #[.bool false] 4)
  have hM4 : VarAt ((w3.alloc (.cells #[.int .i64 k0, .slice none 0 0, .slice none 0 0, .slice none 0 0, .slice none 0 0] 38)).alloc (.cells #[.bool false] 4)) w3.heap.size [.int .i64 k0, .slice none 0 0, .slice none 0 0, .slice none 0 0, .slice none 0 0] := (VarAt.new w3 #[.int .i64 k0, .slice none 0 0, .slice none 0 0, .slice none 0 0, .slice none 0 0] 38).keeps ((Below.refl _ _).alloc (Nat.le_refl _) (.cells #[.bool false] 4)) (by simp)
  have hV4 : VarAt ((w3.alloc (.cells #[.int .i64 k0, .slice none 0 0, .slice none 0 0, .slice none 0 0, .slice none 0 0] 38)).alloc (.cells #[.bool false] 4)) (w3.heap.size + 1) [.bool false] := by
    have := VarAt.new (w3.alloc (.cells #[.int .i64 k0, .slice none 0 0, .slice none 0 0, .slice none 0 0, .slice none 0 0] 38)) #[.bool false] 4
    simpa using this
  have hr := hr3.keeps hb4 hr3.lt
  have hR := hR3.keeps hb4 hR3.1
  have hS := hS3.keeps hb4 hS3.1
  have hW := hW3.keeps hb4 hW3.1
  have hB := hB3.trans (hb4.mono (Nat.le_trans hRw hB3.size))
  have hs3 := hW3.1
  clear hr3 hR3 hS3 hW3 hB3 hb4
  go_upto_region 4 with (fail)
  generalize (w3.alloc (.cells #[.int .i64 k0, .slice none 0 0, .slice none 0 0, .slice none 0 0, .slice none 0 0] 38)).alloc (.cells #[.bool false] 4) = W at *
  obtain ⟨mb, hmbe⟩ : ∃ mb, mb = w3.heap.size := ⟨_, rfl⟩
  obtain ⟨vb, hvbe⟩ : ∃ vb, vb = w3.heap.size + 1 := ⟨_, rfl⟩
  rw [← hvbe] at hV4 ⊢
  rw [← hmbe] at hM4 ⊢
  have hM := hM4
  have hV := hV4
  have hvrmb : vr < mb := by omega
  have hmbvb : mb < vb := by omega
  clear hvbe hmbe hs3 hM4 hV4
  have hlR : R < W.heap.size := hR.1
  have hlb : vb < W.heap.size := hV.1
  have m0 := hM.2.2 0 _ rfl
  have hsrd : SRd W bs rb r1 := ⟨false, r1, hS, hr, by omega, fun _ => rfl, fun e => by cases e⟩
  have e1 : (k0 == 1) = false := by rw [beq_eq_false_iff_ne]; omega
  have e2 : (k0 == 2) = false := by rw [beq_eq_false_iff_ne]; omega
  have e3 : (k0 == 3) = false := by rw [beq_eq_false_iff_ne]; omega
  go_wp2_with fail
  have HE := Lib.hid (Err_any rb r1 W.drew hr)
  have HEn := Lib.hid fun W (h : RdAt W rb r1) => End_any rb r1 W h
  have hkc : W.drew.cell? ⟨vr, 0, none⟩ = some (.pointer (some ⟨bs, 0, none⟩)) ∧ W.drew.cell? ⟨bs, 0, none⟩ = some (.pointer (some ⟨rb, 0, none⟩)) ∧ W.drew.cell? ⟨bs, 1, none⟩ = some (.bool false) := ⟨hW.2.2 0 _ rfl, hS.2.2 0 _ rfl, hS.2.2 1 _ rfl⟩
  have hfb : W.drew.frozen? ⟨bs, 1, none⟩ = false := hS.2.1 1
  have g1 : W.cell? ⟨vr, 0, none⟩ = some (.pointer (some ⟨bs, 0, none⟩)) := hW.2.2 0 _ rfl
  have g2 : W.cell? ⟨bs, 0, none⟩ = some (.pointer (some ⟨rb, 0, none⟩)) := hS.2.2 0 _ rfl
  have n1 : vr ≠ bs := by omega
  by_cases h0 : r1.err = 0
  · have d1 : (r1.err == 0) = true := by rw [h0]; rfl
    have c9 := hkc.2.2
    have HD := Lib.hid (dec_odd (l := d.data.toList) (by rw [HKR.out]; exact if_pos h0))
    clear h0 hsrd
    generalize r1.err = er at *
    go_region_held3 (fun w' => w'.cell? ⟨vr, 0, none⟩ = some (.pointer (some ⟨bs, 0, none⟩)) ∧ w'.cell? ⟨bs, 0, none⟩ = some (.pointer (some ⟨rb, 0, none⟩)))
      (first | exact ⟨hkc.1, hkc.2.1⟩ | (exact ⟨by assumption, by assumption⟩) | (exact ⟨cell_set_ne (by assumption) n1, cell_set_ne0 (by assumption)⟩))
      ((go_at_call 44; refine HE.out.mono ?_; rintro e w5 ⟨rfl, rfl⟩))
    have hR' : VarAt (W.setCell ⟨bs, 1, none⟩ (.bool true)).drew R _ := hR.other (k := bs) (i := 1) (.bool true) (by omega)
    have hW' : VarAt (W.setCell ⟨bs, 1, none⟩ (.bool true)).drew vr _ := hW.other (k := bs) (i := 1) (.bool true) n1
    have hB' : Below R w (W.setCell ⟨bs, 1, none⟩ (.bool true)).drew := (hB.setCell (p := ⟨bs, 1, none⟩) (show R ≤ bs by omega) (.bool true)).drew
    have hS' : VarAt (W.setCell ⟨bs, 1, none⟩ (.bool true)).drew bs _ := hS.set 1 (.bool true) (by simp)
    have hr' : RdAt (W.setCell ⟨bs, 1, none⟩ (.bool true)).drew rb r1 := rdSet hr 1 (.bool true) (show bs ≠ rb by omega)
    dsimp only [List.set] at hS'
    clear hr hS hB hW hR g1 g2 c9 hkc hfb m0 hV hM
    generalize (W.setCell ⟨bs, 1, none⟩ (.bool true)).drew = W5 at *
    have hR := hR'
    have hB := hB'
    have u0 := hW'.2.2 0 _ rfl
    have s0 := hS'.2.2 0 _ rfl
    have s1 := hS'.2.2 1 _ rfl
    have f0 := hR.2.2 0 _ rfl
    have f1 := hR.2.2 1 _ rfl
    have f2 := hR.2.2 2 _ rfl
    have f3 := hR.2.2 3 _ rfl
    have f4 := hR.2.2 4 _ rfl
    have ff := hR.2.1
    go_wp2_with fail
    have hR5 := hR.put [.int .i64 0, .slice none 0 0, .slice none 0 0, .slice none 0 0, .slice none 0 0] rfl
    have hB5 := belowPut (b := R) hB [.int .i64 0, .slice none 0 0, .slice none 0 0, .slice none 0 0, .slice none 0 0] 0 (by omega)
    simp only [putRow, Nat.zero_add, Nat.reduceAdd] at hR5 hB5
    have e0 := hR5.2.2 0 _ rfl
    have e1 := hR5.2.2 1 _ rfl
    have e2 := hR5.2.2 2 _ rfl
    have e3 := hR5.2.2 3 _ rfl
    have e4 := hR5.2.2 4 _ rfl
    refine bodyPost_ret (v := .tuple #[.agg #[.int .i64 0, .slice none 0 0, .slice none 0 0, .slice none 0 0, .slice none 0 0], .int .i64 11]) (by simp [results, Tryz.results11, go_sem, e0, e1, e2, e3, e4]) rfl (HNone.out _ _ HD.out hB5)
  · have d1 : (r1.err == 0) = false := by rw [beq_eq_false_iff_ne]; exact h0
    have c9 := hkc.2.2
    have hfin : r1.fin = r1.err := if_pos h0
    have HD := Lib.hid (dec_fin (l := d.data.toList) (e := r1.err) (by rw [HKR.out]; show Rd.fin (if r1.err = 0 then ⟨11, []⟩ else r1) = r1.err; rw [if_neg h0]; exact hfin) h0)
    rw [hfin] at HEn
    have d2 : (r1.err != 0) = true := by rw [bne_iff_ne]; exact h0
    clear h0 hsrd hfin
    generalize r1.err = er at *
    go_region_held3 (fun w' => w'.cell? ⟨vr, 0, none⟩ = some (.pointer (some ⟨bs, 0, none⟩)) ∧ w'.cell? ⟨bs, 0, none⟩ = some (.pointer (some ⟨rb, 0, none⟩)))
      (first | exact ⟨hkc.1, hkc.2.1⟩ | (exact ⟨by assumption, by assumption⟩) | (exact ⟨cell_set_ne (by assumption) n1, cell_set_ne0 (by assumption)⟩))
      ((go_at_call 44; refine HE.out.mono ?_; rintro e w5 ⟨rfl, rfl⟩))
    have hR' : VarAt (W.setCell ⟨bs, 1, none⟩ (.bool false)).drew R _ := hR.other (k := bs) (i := 1) (.bool false) (by omega)
    have hW' : VarAt (W.setCell ⟨bs, 1, none⟩ (.bool false)).drew vr _ := hW.other (k := bs) (i := 1) (.bool false) n1
    have hB' : Below R w (W.setCell ⟨bs, 1, none⟩ (.bool false)).drew := (hB.setCell (p := ⟨bs, 1, none⟩) (show R ≤ bs by omega) (.bool false)).drew
    have hS' : VarAt (W.setCell ⟨bs, 1, none⟩ (.bool false)).drew bs _ := hS.set 1 (.bool false) (by simp)
    have hr' : RdAt (W.setCell ⟨bs, 1, none⟩ (.bool false)).drew rb r1 := rdSet hr 1 (.bool false) (show bs ≠ rb by omega)
    dsimp only [List.set] at hS'
    clear hr hS hB hW hR g1 g2 c9 hkc hfb m0 hV hM
    generalize (W.setCell ⟨bs, 1, none⟩ (.bool false)).drew = W5 at *
    have hR := hR'
    have hB := hB'
    have u0 := hW'.2.2 0 _ rfl
    have s0 := hS'.2.2 0 _ rfl
    have s1 := hS'.2.2 1 _ rfl
    go_wp2_with fail
    refine (HEn.out _ hr').mono ?_
    rintro e w9 ⟨rfl, nq, rfl⟩
    replace hR := hR.drew nq
    replace hB := belowDrew hB nq
    have f0 := hR.2.2 0 _ rfl
    have f1 := hR.2.2 1 _ rfl
    have f2 := hR.2.2 2 _ rfl
    have f3 := hR.2.2 3 _ rfl
    have f4 := hR.2.2 4 _ rfl
    have ff := hR.2.1
    go_wp2_with fail
    have hR5 := hR.put [.int .i64 0, .slice none 0 0, .slice none 0 0, .slice none 0 0, .slice none 0 0] rfl
    have hB5 := belowPut (b := R) hB [.int .i64 0, .slice none 0 0, .slice none 0 0, .slice none 0 0, .slice none 0 0] 0 (by omega)
    simp only [putRow, Nat.zero_add, Nat.reduceAdd] at hR5 hB5
    have e0 := hR5.2.2 0 _ rfl
    have e1 := hR5.2.2 1 _ rfl
    have e2 := hR5.2.2 2 _ rfl
    have e3 := hR5.2.2 3 _ rfl
    have e4 := hR5.2.2 4 _ rfl
    refine bodyPost_ret (v := .tuple #[.agg #[.int .i64 0, .slice none 0 0, .slice none 0 0, .slice none 0 0, .slice none 0 0], .int .i64 er]) (by simp [results, Tryz.results11, go_sem, e0, e1, e2, e3, e4]) rfl (HNone.out _ _ HD.out hB5)
end Go.Proofs.YtlenpifjkbcmdaaGreatDoor

namespace Go.Proofs.YtlenpifjkbcmdaaGreatDoor
open Go Go.RowKit Go.Lib
attribute [local go_sem ↓] Go.wp_at_zero Go.wp_at_succ

set_option maxRecDepth 100000 in
set_option maxHeartbeats 12800000 in
theorem mdecode_1 (d : ByteArray) (w : World) (hd : d.size ≤ 100000) (hk : (Rd.num ⟨0, d.data.toList⟩).1 = 1) :
    Calls Tryz.prog 11 #[.string d] w (DecPost d.data.toList w) := by
  obtain ⟨r1, hr1⟩ : ∃ r1, (Rd.num ⟨0, d.data.toList⟩).2 = r1 := ⟨_, rfl⟩
  have hrl : r1.rest.length ≤ 100000 := by
    have := num_rest ⟨0, d.data.toList⟩
    rw [hr1] at this
    rw [size_eq] at hd
    exact Nat.le_trans this hd
  have HKR := Lib.hid (readM_1 hk)
  rw [hr1] at HKR
  have HNone := Lib.hid fun er W (h : decM d.data.toList = (noMsg, er)) (hb : Below w.heap.size w W) => decPost_none h hb
  have HOk := Lib.hid fun W m k nv nw no np av aw ao ap cv cw co cp h h0 h1 h2 h3 h4 hb q1 q2 q3 q4 => decPost_ok (l := d.data.toList) (w := w) (w' := W) (m := m) (k := k) (nv := nv) (nw := nw) (no := no) (np := np) av aw ao ap cv cw co cp h h0 h1 h2 h3 h4 hb q1 q2 q3 q4
  generalize DecPost d.data.toList w = Q at *
  have hb0 := (Below.refl w.heap.size w).alloc (Nat.le_refl _) (.cells #[.int .i64 0, .slice none 0 0, .slice none 0 0, .slice none 0 0, .slice none 0 0] 38)
  have hR0 := VarAt.new w #[.int .i64 0, .slice none 0 0, .slice none 0 0, .slice none 0 0, .slice none 0 0] 38
  have HRD := Lib.hid (show Calls Tryz.prog 36 #[.string d] (w.alloc (.cells #[.int .i64 0, .slice none 0 0, .slice none 0 0, .slice none 0 0, .slice none 0 0] 38)) fun e w' => e = .returned (.pointer (some ⟨w.heap.size + 1, 0, none⟩)) ∧ RdAt w' (w.heap.size + 1) ⟨0, d.data.toList⟩ ∧ Below (w.heap.size + 1) (w.alloc (.cells #[.int .i64 0, .slice none 0 0, .slice none 0 0, .slice none 0 0, .slice none 0 0] 38)) w' by
    have := Read_any d (w.alloc (.cells #[.int .i64 0, .slice none 0 0, .slice none 0 0, .slice none 0 0, .slice none 0 0] 38)) (by omega)
    simpa using this)
  have HN := Lib.hid fun W (h : RdAt W (w.heap.size + 1) ⟨0, d.data.toList⟩) => Num_any (w.heap.size + 1) ⟨0, d.data.toList⟩ W h

  rw [hk, hr1] at HN

  clear hk hr1
  go_enter Tryz.func11, Tryz.ntmps11
  go_wp2_with fail
  refine HRD.out.mono ?_
  rintro e w1 ⟨rfl, hr0, hb1⟩
  obtain ⟨R, hRe⟩ : ∃ R, R = w.heap.size := ⟨_, rfl⟩
  obtain ⟨rb, hrbe⟩ : ∃ rb, rb = w.heap.size + 1 := ⟨_, rfl⟩
  have hB1 := hb0.trans (hb1.mono (Nat.le_succ _))
  have hR1 := hR0.keeps hb1 (Nat.lt_succ_self _)
  have hs1 := hr0.lt
  rw [← hrbe] at hr0 hs1 HN ⊢
  rw [← hRe] at hR1 hB1 HNone HOk ⊢
  have hRrb : R < rb := by omega
  have hRw : R ≤ w.heap.size := by omega
  clear hRe hrbe
  have hb2 := ((Below.refl w1.heap.size w1).alloc (Nat.le_refl _) (.cells #[.pointer (some ⟨rb, 0, none⟩), .bool false] 73)).alloc (by simp) (.cells #[.pointer (some ⟨w1.heap.size, 0, none⟩)] 69)
  have hS2 : VarAt ((w1.alloc (.cells #[.pointer (some ⟨rb, 0, none⟩), .bool false] 73)).alloc (.cells #[.pointer (some ⟨w1.heap.size, 0, none⟩)] 69)) w1.heap.size [.pointer (some ⟨rb, 0, none⟩), .bool false] := (VarAt.new w1 #[.pointer (some ⟨rb, 0, none⟩), .bool false] 73).keeps ((Below.refl _ _).alloc (Nat.le_refl _) (.cells #[.pointer (some ⟨w1.heap.size, 0, none⟩)] 69)) (by simp)
  have hW2 : VarAt ((w1.alloc (.cells #[.pointer (some ⟨rb, 0, none⟩), .bool false] 73)).alloc (.cells #[.pointer (some ⟨w1.heap.size, 0, none⟩)] 69)) (w1.heap.size + 1) [.pointer (some ⟨w1.heap.size, 0, none⟩)] := by
    have := VarAt.new (w1.alloc (.cells #[.pointer (some ⟨rb, 0, none⟩), .bool false] 73)) #[.pointer (some ⟨w1.heap.size, 0, none⟩)] 69
    simpa using this
  have hr2 := hr0.keeps hb2 hs1
  have hR2 := hR1.keeps hb2 hR1.1
  have hB2 := hB1.trans (hb2.mono (Nat.le_trans hRw hB1.size))
  clear hr0 hR1 hb1 hB1 hb0 hR0 hb2
  go_wp2_with fail
  generalize (w1.alloc (.cells #[.pointer (some ⟨rb, 0, none⟩), .bool false] 73)).alloc (.cells #[.pointer (some ⟨w1.heap.size, 0, none⟩)] 69) = W2 at *
  obtain ⟨bs, hbse⟩ : ∃ bs, bs = w1.heap.size := ⟨_, rfl⟩
  obtain ⟨vr, hvre⟩ : ∃ vr, vr = w1.heap.size + 1 := ⟨_, rfl⟩
  rw [← hvre] at hW2 ⊢
  rw [← hbse] at hS2 hW2 ⊢
  have hrbbs : rb < bs := by omega
  have hbsvr : bs < vr := by omega
  clear hvre hbse hs1
  refine (HN.out _ hr2).mono ?_
  rintro e w3 ⟨rfl, hr3, hg3⟩
  have hR3 := hR2.grown hg3 (by simp; omega)
  have hS3 := hS2.grown hg3 (by simp; omega)
  have hW3 := hW2.grown hg3 (by simp; omega)
  have hB3 := hB2.grown hg3 (Nat.le_trans hRw hB2.size) (fun j ej => by cases ej; omega)
  clear hr2 hR2 hS2 hW2 hB2 hg3
  have hb4 := ((Below.refl w3.heap.size w3).alloc (Nat.le_refl _) (.cells #[.int .i64 1, .slice none 0 0, .slice none 0 0, .slice none 0 0, .slice none 0 0] 38)).alloc (by simp) (.cells #[.bool false] 4)
  have hM4 : VarAt ((w3.alloc (.cells #[.int .i64 1, .slice none 0 0, .slice none 0 0, .slice none 0 0, .slice none 0 0] 38)).alloc (.cells #[.bool false] 4)) w3.heap.size [.int .i64 1, .slice none 0 0, .slice none 0 0, .slice none 0 0, .slice none 0 0] := (VarAt.new w3 #[.int .i64 1, .slice none 0 0, .slice none 0 0, .slice none 0 0, .slice none 0 0] 38).keeps ((Below.refl _ _).alloc (Nat.le_refl _) (.cells #[.bool false] 4)) (by simp)
  have hV4 : VarAt ((w3.alloc (.cells #[.int .i64 1, .slice none 0 0, .slice none 0 0, .slice none 0 0, .slice none 0 0] 38)).alloc (.cells #[.bool false] 4)) (w3.heap.size + 1) [.bool false] := by
    have := VarAt.new (w3.alloc (.cells #[.int .i64 1, .slice none 0 0, .slice none 0 0, .slice none 0 0, .slice none 0 0] 38)) #[.bool false] 4
    simpa using this
  have hr := hr3.keeps hb4 hr3.lt
  have hR := hR3.keeps hb4 hR3.1
  have hS := hS3.keeps hb4 hS3.1
  have hW := hW3.keeps hb4 hW3.1
  have hB := hB3.trans (hb4.mono (Nat.le_trans hRw hB3.size))
  have hs3 := hW3.1
  clear hr3 hR3 hS3 hW3 hB3 hb4
  go_upto_region 4 with (fail)
  generalize (w3.alloc (.cells #[.int .i64 1, .slice none 0 0, .slice none 0 0, .slice none 0 0, .slice none 0 0] 38)).alloc (.cells #[.bool false] 4) = W at *
  obtain ⟨mb, hmbe⟩ : ∃ mb, mb = w3.heap.size := ⟨_, rfl⟩
  obtain ⟨vb, hvbe⟩ : ∃ vb, vb = w3.heap.size + 1 := ⟨_, rfl⟩
  rw [← hvbe] at hV4 ⊢
  rw [← hmbe] at hM4 ⊢
  have hM := hM4
  have hV := hV4
  have hvrmb : vr < mb := by omega
  have hmbvb : mb < vb := by omega
  clear hvbe hmbe hs3 hM4 hV4
  have hlR : R < W.heap.size := hR.1
  have hlb : vb < W.heap.size := hV.1
  have m0 := hM.2.2 0 _ rfl
  have hsrd : SRd W bs rb r1 := ⟨false, r1, hS, hr, by omega, fun _ => rfl, fun e => by cases e⟩
  go_wp2_with fail
  have HT : Hid (Calls Tryz.prog 38 #[.pointer (some ⟨bs, 0, none⟩), .int .i64 15, .func (.func 37) #[.pointer (some ⟨rb, 0, none⟩)] #[]] W.drew (fun e w' => ∃ (a : Option Addr) (c : Nat) (xs : List Int), e = .returned (.slice a xs.length c) ∧ Hid (OwnRows numLay w' W.heap.size 3 (.slice a xs.length c) xs) ∧ Hid (SRd w' bs rb (listR Rd.num (r1) 15).2) ∧ Hid (Turned (fun k => k = rb ∨ k = bs) W.heap.size W w') ∧ Hid ((listR Rd.num (r1) 15).2.err = 0 → xs = (listR Rd.num (r1) 15).1) ∧ w'.cell? ⟨vr, 0, none⟩ = some (.pointer (some ⟨bs, 0, none⟩)) ∧ w'.cell? ⟨bs, 0, none⟩ = some (.pointer (some ⟨rb, 0, none⟩)) ∧ Hid (VarAt w' mb [.int .i64 1, .slice none 0 0, .slice none 0 0, .slice none 0 0, .slice none 0 0]) ∧ w'.cell? ⟨mb, 1, none⟩ = some (.slice none 0 0) ∧ w'.frozen? ⟨mb, 1, none⟩ = false)) := Lib.hid ((taken_int bs rb (r1) 15 W.drew (by omega) hsrd).mono (fun e w' ⟨v, xs, he, ho, hs, ht, hx⟩ => by
    rw [List.map_id] at ho
    obtain ⟨a, c, rfl, hrw, _⟩ := ho.read
    have ht' : Turned (fun k => k = rb ∨ k = bs) W.heap.size W w' := (show Turned (fun k => k = rb ∨ k = bs) W.heap.size W W.drew from ⟨rfl, rfl, rfl, Nat.le_refl _, fun _ _ _ => rfl⟩).trans ht
    have h1 := hW.turned ht' hW.1 (by rintro (e | e) <;> omega)
    have h3 := hM.turned ht' hM.1 (by rintro (e | e) <;> omega)
    obtain ⟨_, _, h2, _⟩ := id hs
    exact ⟨a, c, xs, he, Lib.hid ho, Lib.hid hs, Lib.hid ht', Lib.hid hx, h1.2.2 0 _ rfl, h2.2.2 0 _ rfl, Lib.hid h3, h3.2.2 1 _ rfl, h3.2.1 1⟩))
  have hkc : W.drew.cell? ⟨vr, 0, none⟩ = some (.pointer (some ⟨bs, 0, none⟩)) ∧ W.drew.cell? ⟨bs, 0, none⟩ = some (.pointer (some ⟨rb, 0, none⟩)) := by
    obtain ⟨_, _, h2, _⟩ := id hsrd
    exact ⟨hW.2.2 0 _ rfl, h2.2.2 0 _ rfl⟩
  have n1 : vr ≠ mb := by omega
  have n2 : bs ≠ mb := by omega
  have n3 : R ≠ mb := by omega
  have n4 : vb ≠ mb := by omega
  have n5 : mb ≠ rb := by omega
  have n6 : mb ≠ bs := by omega
  go_region_held3 (fun w' => w'.cell? ⟨vr, 0, none⟩ = some (.pointer (some ⟨bs, 0, none⟩)) ∧ w'.cell? ⟨bs, 0, none⟩ = some (.pointer (some ⟨rb, 0, none⟩)))
    (first | exact hkc | (exact ⟨by assumption, by assumption⟩) | (exact ⟨cell_set_ne (by assumption) n1, cell_set_ne (by assumption) n2⟩))
    ((go_at_call 38; refine HT.out.mono ?_; rintro e w5 ⟨a1, c1, xs1, rfl, Ho1, Hs1, Ht1, Hx1, hk1, hk2, Hm1, hk3, hk4⟩))
  have hsz := Ht1.out.size
  have hbz1 := hlR
  replace hR := (hR.turned Ht1.out hlR (by rintro (e | e) <;> omega)).other (k := mb) (i := 1) (.slice a1 xs1.length c1) n3
  replace hV := (hV.turned Ht1.out hlb (by rintro (e | e) <;> omega)).other (k := mb) (i := 1) (.slice a1 xs1.length c1) n4
  replace hW := (hW.turned Ht1.out hW.1 (by rintro (e | e) <;> omega)).other (k := mb) (i := 1) (.slice a1 xs1.length c1) n1
  have hmlt := hM.1
  replace hM := Hm1.out.set 1 (.slice a1 xs1.length c1) (by simp)
  dsimp only [List.set] at hM
  replace hB := (hB.trans (Ht1.out.below (B' := R) (by omega) (fun k hk h => by rcases h with rfl | rfl <;> omega))).setCell (p := ⟨mb, 1, none⟩) (show R ≤ mb by omega) (.slice a1 xs1.length c1)
  have ho1 := Ho1.out.set (b := mb) 1 (.slice a1 xs1.length c1) hmlt
  have hsrd' : SRd (w5.setCell ⟨mb, 1, none⟩ (.slice a1 xs1.length c1)) bs rb (listR Rd.num (r1) 15).2 := by
    obtain ⟨odd, rc, g1, g2, g3, g4, g5⟩ := Hs1.out
    exact ⟨odd, rc, g1.other _ n2, rdSet g2 1 _ n5, g3, g4, g5⟩
  replace hsrd := hsrd'
  replace hlR := hR.1
  replace hlb := hV.1
  clear hsrd' HT hkc Hs1 Ht1 Hm1 Ho1 hk1 hk2 hk3 hk4 n1 n2 n3 n4 n5 n6 m0
  generalize w5.setCell ⟨mb, 1, none⟩ (.slice a1 xs1.length c1) = W5 at *
  go_wp2_with fail
  have HT : Hid (Calls Tryz.prog 39 #[.pointer (some ⟨bs, 0, none⟩), .int .i64 16, .func (.func 40) #[.pointer (some ⟨rb, 0, none⟩)] #[]] W5.drew (fun e w' => ∃ (a : Option Addr) (c : Nat) (xs : List ByteArray), e = .returned (.slice a xs.length c) ∧ Hid (OwnRows strLay w' W5.heap.size 9 (.slice a xs.length c) xs) ∧ Hid (SRd w' bs rb (listR Rd.str ((listR Rd.num r1 15).2) 16).2) ∧ Hid (Turned (fun k => k = rb ∨ k = bs) W5.heap.size W5 w') ∧ Hid ((listR Rd.str ((listR Rd.num r1 15).2) 16).2.err = 0 → xs = (listR Rd.str ((listR Rd.num r1 15).2) 16).1) ∧ w'.cell? ⟨vr, 0, none⟩ = some (.pointer (some ⟨bs, 0, none⟩)) ∧ w'.cell? ⟨bs, 0, none⟩ = some (.pointer (some ⟨rb, 0, none⟩)) ∧ Hid (VarAt w' mb [.int .i64 1, .slice a1 xs1.length c1, .slice none 0 0, .slice none 0 0, .slice none 0 0]) ∧ w'.cell? ⟨mb, 2, none⟩ = some (.slice none 0 0) ∧ w'.frozen? ⟨mb, 2, none⟩ = false)) := Lib.hid ((taken_str bs rb ((listR Rd.num r1 15).2) 16 W5.drew (by omega) hsrd).mono (fun e w' ⟨v, xs, he, ho, hs, ht, hx⟩ => by
    rw [List.map_id] at ho
    obtain ⟨a, c, rfl, hrw, _⟩ := ho.read
    have ht' : Turned (fun k => k = rb ∨ k = bs) W5.heap.size W5 w' := (show Turned (fun k => k = rb ∨ k = bs) W5.heap.size W5 W5.drew from ⟨rfl, rfl, rfl, Nat.le_refl _, fun _ _ _ => rfl⟩).trans ht
    have h1 := hW.turned ht' hW.1 (by rintro (e | e) <;> omega)
    have h3 := hM.turned ht' hM.1 (by rintro (e | e) <;> omega)
    obtain ⟨_, _, h2, _⟩ := id hs
    exact ⟨a, c, xs, he, Lib.hid ho, Lib.hid hs, Lib.hid ht', Lib.hid hx, h1.2.2 0 _ rfl, h2.2.2 0 _ rfl, Lib.hid h3, h3.2.2 2 _ rfl, h3.2.1 2⟩))
  have hkc : W5.drew.cell? ⟨vr, 0, none⟩ = some (.pointer (some ⟨bs, 0, none⟩)) ∧ W5.drew.cell? ⟨bs, 0, none⟩ = some (.pointer (some ⟨rb, 0, none⟩)) := by
    obtain ⟨_, _, h2, _⟩ := id hsrd
    exact ⟨hW.2.2 0 _ rfl, h2.2.2 0 _ rfl⟩
  have n1 : vr ≠ mb := by omega
  have n2 : bs ≠ mb := by omega
  have n3 : R ≠ mb := by omega
  have n4 : vb ≠ mb := by omega
  have n5 : mb ≠ rb := by omega
  have n6 : mb ≠ bs := by omega
  go_region_held3 (fun w' => w'.cell? ⟨vr, 0, none⟩ = some (.pointer (some ⟨bs, 0, none⟩)) ∧ w'.cell? ⟨bs, 0, none⟩ = some (.pointer (some ⟨rb, 0, none⟩)))
    (first | exact hkc | (exact ⟨by assumption, by assumption⟩) | (exact ⟨cell_set_ne (by assumption) n1, cell_set_ne (by assumption) n2⟩))
    ((go_at_call 39; refine HT.out.mono ?_; rintro e w6 ⟨a2, c2, xs2, rfl, Ho2, Hs2, Ht2, Hx2, hk1, hk2, Hm2, hk3, hk4⟩))
  have hsz := Ht2.out.size
  have hbz2 := hlR
  replace hR := (hR.turned Ht2.out hlR (by rintro (e | e) <;> omega)).other (k := mb) (i := 2) (.slice a2 xs2.length c2) n3
  replace hV := (hV.turned Ht2.out hlb (by rintro (e | e) <;> omega)).other (k := mb) (i := 2) (.slice a2 xs2.length c2) n4
  replace hW := (hW.turned Ht2.out hW.1 (by rintro (e | e) <;> omega)).other (k := mb) (i := 2) (.slice a2 xs2.length c2) n1
  have hmlt := hM.1
  replace hM := Hm2.out.set 2 (.slice a2 xs2.length c2) (by simp)
  dsimp only [List.set] at hM
  replace hB := (hB.trans (Ht2.out.below (B' := R) (by omega) (fun k hk h => by rcases h with rfl | rfl <;> omega))).setCell (p := ⟨mb, 2, none⟩) (show R ≤ mb by omega) (.slice a2 xs2.length c2)
  have ho2 := Ho2.out.set (b := mb) 2 (.slice a2 xs2.length c2) hmlt
  replace ho1 := (ho1.turned Ht2.out (fun k hk => by rcases hk with rfl | rfl <;> omega)).set (b := mb) 2 (.slice a2 xs2.length c2) (by omega)
  have hsrd' : SRd (w6.setCell ⟨mb, 2, none⟩ (.slice a2 xs2.length c2)) bs rb (listR Rd.str ((listR Rd.num r1 15).2) 16).2 := by
    obtain ⟨odd, rc, g1, g2, g3, g4, g5⟩ := Hs2.out
    exact ⟨odd, rc, g1.other _ n2, rdSet g2 2 _ n5, g3, g4, g5⟩
  replace hsrd := hsrd'
  replace hlR := hR.1
  replace hlb := hV.1
  clear hsrd' HT hkc Hs2 Ht2 Hm2 Ho2 hk1 hk2 hk3 hk4 n1 n2 n3 n4 n5 n6
  generalize w6.setCell ⟨mb, 2, none⟩ (.slice a2 xs2.length c2) = W6 at *
  obtain ⟨odd, rc, hSv, hrd, hne, hf, ht⟩ := hsrd
  have s1 := hSv.2.2 1 _ rfl
  have s0 := hSv.2.2 0 _ rfl
  have u0 := hW.2.2 0 _ rfl
  cases odd with
  | true =>
    have HD := Lib.hid (dec_odd (l := d.data.toList) (by rw [HKR.out]; exact ht rfl))
    clear hf ht
    have f0 := hR.2.2 0 _ rfl
    have f1 := hR.2.2 1 _ rfl
    have f2 := hR.2.2 2 _ rfl
    have f3 := hR.2.2 3 _ rfl
    have f4 := hR.2.2 4 _ rfl
    have ff := hR.2.1
    go_wp2_with fail
    have hR5 := hR.put [.int .i64 0, .slice none 0 0, .slice none 0 0, .slice none 0 0, .slice none 0 0] rfl
    have hB5 := belowPut (b := R) hB [.int .i64 0, .slice none 0 0, .slice none 0 0, .slice none 0 0, .slice none 0 0] 0 (by omega)
    simp only [putRow, Nat.zero_add, Nat.reduceAdd] at hR5 hB5
    have e0 := hR5.2.2 0 _ rfl
    have e1 := hR5.2.2 1 _ rfl
    have e2 := hR5.2.2 2 _ rfl
    have e3 := hR5.2.2 3 _ rfl
    have e4 := hR5.2.2 4 _ rfl
    refine bodyPost_ret (v := .tuple #[.agg #[.int .i64 0, .slice none 0 0, .slice none 0 0, .slice none 0 0, .slice none 0 0], .int .i64 11]) (by simp [results, Tryz.results11, go_sem, e0, e1, e2, e3, e4]) rfl (HNone.out _ _ HD.out hB5)
  | false =>
    have Hrc := Lib.hid (hf rfl)
    clear hf ht
    have HE := Lib.hid (End_any rb rc _ hrd)
    have HDf := Lib.hid (fun e (h : rc.fin = e) (he : e ≠ 0) => dec_fin (l := d.data.toList) (e := e) (by rw [HKR.out]; show Rd.fin (listR Rd.str (listR Rd.num r1 15).2 16).2 = e; rw [← Hrc.out]; exact h) he)
    by_cases hfin : ¬ rc.fin = 0
    · have HD := Lib.hid (HDf.out _ rfl hfin)
      have d1 : (rc.fin != 0) = true := by rw [bne_iff_ne]; exact hfin
      clear hfin
      generalize rc.fin = fe at *
      go_wp2_with fail
      refine HE.out.mono ?_
      rintro e w9 ⟨rfl, nq, rfl⟩
      replace hR := hR.drew nq
      replace hB := belowDrew hB nq
      have f0 := hR.2.2 0 _ rfl
      have f1 := hR.2.2 1 _ rfl
      have f2 := hR.2.2 2 _ rfl
      have f3 := hR.2.2 3 _ rfl
      have f4 := hR.2.2 4 _ rfl
      have ff := hR.2.1
      go_wp2_with fail
      have hR5 := hR.put [.int .i64 0, .slice none 0 0, .slice none 0 0, .slice none 0 0, .slice none 0 0] rfl
      have hB5 := belowPut (b := R) hB [.int .i64 0, .slice none 0 0, .slice none 0 0, .slice none 0 0, .slice none 0 0] 0 (by omega)
      simp only [putRow, Nat.zero_add, Nat.reduceAdd] at hR5 hB5
      have e0 := hR5.2.2 0 _ rfl
      have e1 := hR5.2.2 1 _ rfl
      have e2 := hR5.2.2 2 _ rfl
      have e3 := hR5.2.2 3 _ rfl
      have e4 := hR5.2.2 4 _ rfl
      refine bodyPost_ret (v := .tuple #[.agg #[.int .i64 0, .slice none 0 0, .slice none 0 0, .slice none 0 0, .slice none 0 0], .int .i64 fe]) (by simp [results, Tryz.results11, go_sem, e0, e1, e2, e3, e4]) rfl (HNone.out _ _ HD.out hB5)
    replace hfin := Decidable.not_not.1 hfin
    have HF0 := Lib.hid (show (readM d.data.toList).2.2.fin = 0 by rw [HKR.out]; show Rd.fin (listR Rd.str (listR Rd.num r1 15).2 16).2 = 0; rw [← Hrc.out]; exact hfin)
    rw [hfin] at HE
    have hre : Rd.err (listR Rd.str (listR Rd.num r1 15).2 16).2 = 0 := by rw [← Hrc.out]; exact (fin_back hfin).1
    clear hfin
    have hq1 := Hx1.out (listR_err2 hre)
    have hq2 := Hx2.out hre
    have hl1 : xs1.length ≤ 15 := by rw [hq1]; exact manyR_le _ _ 15
    have hl2 : xs2.length ≤ 16 := by rw [hq2]; exact manyR_le _ _ 16
    rw [← hq1, ← hq2] at HKR
    clear hq1 hq2
    clear hre
    have HRt := Lib.hid fun W h1 h2 h3 h4 => mright_any (⟨1, xs1, xs2, [], []⟩ : Msg) a1 a2 none none c1 c2 0 0 W (by show xs1.length ≤ 100000; omega) (by show xs2.length ≤ 100000; omega) (Nat.zero_le _) (Nat.zero_le _) (fun x hx => by cases hx) h1 h2 h3 h4
    have HDb := Lib.hid (fun h => dec_bad (l := d.data.toList) HF0.out (.inr h))
    have HDo := Lib.hid (fun h => dec_ok (l := d.data.toList) HF0.out (by rw [HKR.out]) h)
    rw [HKR.out] at HDb HDo
    dsimp only at HDb HDo HRt
    obtain ⟨rt, hrt⟩ : ∃ rt, rightM (⟨1, xs1, xs2, [], []⟩ : Msg) = rt := ⟨_, rfl⟩
    rw [hrt] at HRt HDb HDo
    clear hrt
    have v0 := hV.2.2 0 _ rfl
    have m0 := hM.2.2 0 _ rfl
    have m1 := hM.2.2 1 _ rfl
    have m2 := hM.2.2 2 _ rfl
    have m3 := hM.2.2 3 _ rfl
    have m4 := hM.2.2 4 _ rfl
    go_wp2_with fail
    refine HE.out.mono ?_
    rintro e w9 ⟨rfl, nq, rfl⟩
    replace hR := hR.drew nq
    replace hB := belowDrew hB nq
    replace hM := hM.drew nq
    go_wp2_with fail
    refine (HRt.out _ (ho1.drewN nq).rows (ho2.drewN nq).rows (RowsAt.nil _ _ _) (RowsAt.nil _ _ _)).mono ?_
    rintro e w10 ⟨rfl, hb10⟩
    replace hR := hR.keeps hb10 hR.1
    replace hM := hM.keeps hb10 hM.1
    replace hB := hB.trans (hb10.mono (Nat.le_trans hRw hB.size))
    clear m0 m1 m2 m3 m4
    cases rt with
    | false =>
      have HD := Lib.hid (HDb.out rfl)
      have f0 := hR.2.2 0 _ rfl
      have f1 := hR.2.2 1 _ rfl
      have f2 := hR.2.2 2 _ rfl
      have f3 := hR.2.2 3 _ rfl
      have f4 := hR.2.2 4 _ rfl
      have ff := hR.2.1
      go_wp2_with fail
      have hR5 := hR.put [.int .i64 0, .slice none 0 0, .slice none 0 0, .slice none 0 0, .slice none 0 0] rfl
      have hB5 := belowPut (b := R) hB [.int .i64 0, .slice none 0 0, .slice none 0 0, .slice none 0 0, .slice none 0 0] 0 (by omega)
      simp only [putRow, Nat.zero_add, Nat.reduceAdd] at hR5 hB5
      have e0 := hR5.2.2 0 _ rfl
      have e1 := hR5.2.2 1 _ rfl
      have e2 := hR5.2.2 2 _ rfl
      have e3 := hR5.2.2 3 _ rfl
      have e4 := hR5.2.2 4 _ rfl
      refine bodyPost_ret (v := .tuple #[.agg #[.int .i64 0, .slice none 0 0, .slice none 0 0, .slice none 0 0, .slice none 0 0], .int .i64 11]) (by simp [results, Tryz.results11, go_sem, e0, e1, e2, e3, e4]) rfl (HNone.out _ _ HD.out hB5)
    | true =>
      have HD := Lib.hid (HDo.out rfl)
      have m0 := hM.2.2 0 _ rfl
      have m1 := hM.2.2 1 _ rfl
      have m2 := hM.2.2 2 _ rfl
      have m3 := hM.2.2 3 _ rfl
      have m4 := hM.2.2 4 _ rfl
      have f0 := hR.2.2 0 _ rfl
      have f1 := hR.2.2 1 _ rfl
      have f2 := hR.2.2 2 _ rfl
      have f3 := hR.2.2 3 _ rfl
      have f4 := hR.2.2 4 _ rfl
      have ff := hR.2.1
      have hnm : R ≠ mb := by omega
      go_wp2_with fail
      have hR5 := hR.put [.int .i64 1, .slice a1 xs1.length c1, .slice a2 xs2.length c2, .slice none 0 0, .slice none 0 0] rfl
      have hB5 := belowPut (b := R) hB [.int .i64 1, .slice a1 xs1.length c1, .slice a2 xs2.length c2, .slice none 0 0, .slice none 0 0] 0 (by omega)
      have qho1 := ((ho1.drewN nq).below hb10).putRow (b := R) 0 [.int .i64 1, .slice a1 xs1.length c1, .slice a2 xs2.length c2, .slice none 0 0, .slice none 0 0] (by omega)
      have qho2 := ((ho2.drewN nq).below hb10).putRow (b := R) 0 [.int .i64 1, .slice a1 xs1.length c1, .slice a2 xs2.length c2, .slice none 0 0, .slice none 0 0] (by omega)
      simp only [putRow, Nat.zero_add, Nat.reduceAdd] at hR5 hB5 qho1 qho2
      have e0 := hR5.2.2 0 _ rfl
      have e1 := hR5.2.2 1 _ rfl
      have e2 := hR5.2.2 2 _ rfl
      have e3 := hR5.2.2 3 _ rfl
      have e4 := hR5.2.2 4 _ rfl
      refine bodyPost_ret (v := .tuple #[.agg #[.int .i64 1, .slice a1 xs1.length c1, .slice a2 xs2.length c2, .slice none 0 0, .slice none 0 0], .int .i64 0]) (by simp [results, Tryz.results11, go_sem, e0, e1, e2, e3, e4]) rfl ?_
      exact HOk.out _ (⟨1, xs1, xs2, [], []⟩ : Msg) _ _ _ _ _ _ _ _ _ _ _ _ _ HD.out rfl rfl rfl rfl rfl hB5 qho1.rows qho2.rows (RowsAt.nil _ _ _) (RowsAt.nil _ _ _)
end Go.Proofs.YtlenpifjkbcmdaaGreatDoor

namespace Go.Proofs.YtlenpifjkbcmdaaGreatDoor
open Go Go.RowKit Go.Lib
attribute [local go_sem ↓] Go.wp_at_zero Go.wp_at_succ

set_option maxRecDepth 100000 in
set_option maxHeartbeats 12800000 in
theorem mdecode_2 (d : ByteArray) (w : World) (hd : d.size ≤ 100000) (hk : (Rd.num ⟨0, d.data.toList⟩).1 = 2) :
    Calls Tryz.prog 11 #[.string d] w (DecPost d.data.toList w) := by
  obtain ⟨r1, hr1⟩ : ∃ r1, (Rd.num ⟨0, d.data.toList⟩).2 = r1 := ⟨_, rfl⟩
  have hrl : r1.rest.length ≤ 100000 := by
    have := num_rest ⟨0, d.data.toList⟩
    rw [hr1] at this
    rw [size_eq] at hd
    exact Nat.le_trans this hd
  have HKR := Lib.hid (readM_2 hk)
  rw [hr1] at HKR
  have HNone := Lib.hid fun er W (h : decM d.data.toList = (noMsg, er)) (hb : Below w.heap.size w W) => decPost_none h hb
  have HOk := Lib.hid fun W m k nv nw no np av aw ao ap cv cw co cp h h0 h1 h2 h3 h4 hb q1 q2 q3 q4 => decPost_ok (l := d.data.toList) (w := w) (w' := W) (m := m) (k := k) (nv := nv) (nw := nw) (no := no) (np := np) av aw ao ap cv cw co cp h h0 h1 h2 h3 h4 hb q1 q2 q3 q4
  generalize DecPost d.data.toList w = Q at *
  have hb0 := (Below.refl w.heap.size w).alloc (Nat.le_refl _) (.cells #[.int .i64 0, .slice none 0 0, .slice none 0 0, .slice none 0 0, .slice none 0 0] 38)
  have hR0 := VarAt.new w #[.int .i64 0, .slice none 0 0, .slice none 0 0, .slice none 0 0, .slice none 0 0] 38
  have HRD := Lib.hid (show Calls Tryz.prog 36 #[.string d] (w.alloc (.cells #[.int .i64 0, .slice none 0 0, .slice none 0 0, .slice none 0 0, .slice none 0 0] 38)) fun e w' => e = .returned (.pointer (some ⟨w.heap.size + 1, 0, none⟩)) ∧ RdAt w' (w.heap.size + 1) ⟨0, d.data.toList⟩ ∧ Below (w.heap.size + 1) (w.alloc (.cells #[.int .i64 0, .slice none 0 0, .slice none 0 0, .slice none 0 0, .slice none 0 0] 38)) w' by
    have := Read_any d (w.alloc (.cells #[.int .i64 0, .slice none 0 0, .slice none 0 0, .slice none 0 0, .slice none 0 0] 38)) (by omega)
    simpa using this)
  have HN := Lib.hid fun W (h : RdAt W (w.heap.size + 1) ⟨0, d.data.toList⟩) => Num_any (w.heap.size + 1) ⟨0, d.data.toList⟩ W h

  rw [hk, hr1] at HN

  clear hk hr1
  go_enter Tryz.func11, Tryz.ntmps11
  go_wp2_with fail
  refine HRD.out.mono ?_
  rintro e w1 ⟨rfl, hr0, hb1⟩
  obtain ⟨R, hRe⟩ : ∃ R, R = w.heap.size := ⟨_, rfl⟩
  obtain ⟨rb, hrbe⟩ : ∃ rb, rb = w.heap.size + 1 := ⟨_, rfl⟩
  have hB1 := hb0.trans (hb1.mono (Nat.le_succ _))
  have hR1 := hR0.keeps hb1 (Nat.lt_succ_self _)
  have hs1 := hr0.lt
  rw [← hrbe] at hr0 hs1 HN ⊢
  rw [← hRe] at hR1 hB1 HNone HOk ⊢
  have hRrb : R < rb := by omega
  have hRw : R ≤ w.heap.size := by omega
  clear hRe hrbe
  have hb2 := ((Below.refl w1.heap.size w1).alloc (Nat.le_refl _) (.cells #[.pointer (some ⟨rb, 0, none⟩), .bool false] 73)).alloc (by simp) (.cells #[.pointer (some ⟨w1.heap.size, 0, none⟩)] 69)
  have hS2 : VarAt ((w1.alloc (.cells #[.pointer (some ⟨rb, 0, none⟩), .bool false] 73)).alloc (.cells #[.pointer (some ⟨w1.heap.size, 0, none⟩)] 69)) w1.heap.size [.pointer (some ⟨rb, 0, none⟩), .bool false] := (VarAt.new w1 #[.pointer (some ⟨rb, 0, none⟩), .bool false] 73).keeps ((Below.refl _ _).alloc (Nat.le_refl _) (.cells #[.pointer (some ⟨w1.heap.size, 0, none⟩)] 69)) (by simp)
  have hW2 : VarAt ((w1.alloc (.cells #[.pointer (some ⟨rb, 0, none⟩), .bool false] 73)).alloc (.cells #[.pointer (some ⟨w1.heap.size, 0, none⟩)] 69)) (w1.heap.size + 1) [.pointer (some ⟨w1.heap.size, 0, none⟩)] := by
    have := VarAt.new (w1.alloc (.cells #[.pointer (some ⟨rb, 0, none⟩), .bool false] 73)) #[.pointer (some ⟨w1.heap.size, 0, none⟩)] 69
    simpa using this
  have hr2 := hr0.keeps hb2 hs1
  have hR2 := hR1.keeps hb2 hR1.1
  have hB2 := hB1.trans (hb2.mono (Nat.le_trans hRw hB1.size))
  clear hr0 hR1 hb1 hB1 hb0 hR0 hb2
  go_wp2_with fail
  generalize (w1.alloc (.cells #[.pointer (some ⟨rb, 0, none⟩), .bool false] 73)).alloc (.cells #[.pointer (some ⟨w1.heap.size, 0, none⟩)] 69) = W2 at *
  obtain ⟨bs, hbse⟩ : ∃ bs, bs = w1.heap.size := ⟨_, rfl⟩
  obtain ⟨vr, hvre⟩ : ∃ vr, vr = w1.heap.size + 1 := ⟨_, rfl⟩
  rw [← hvre] at hW2 ⊢
  rw [← hbse] at hS2 hW2 ⊢
  have hrbbs : rb < bs := by omega
  have hbsvr : bs < vr := by omega
  clear hvre hbse hs1
  refine (HN.out _ hr2).mono ?_
  rintro e w3 ⟨rfl, hr3, hg3⟩
  have hR3 := hR2.grown hg3 (by simp; omega)
  have hS3 := hS2.grown hg3 (by simp; omega)
  have hW3 := hW2.grown hg3 (by simp; omega)
  have hB3 := hB2.grown hg3 (Nat.le_trans hRw hB2.size) (fun j ej => by cases ej; omega)
  clear hr2 hR2 hS2 hW2 hB2 hg3
  have hb4 := ((Below.refl w3.heap.size w3).alloc (Nat.le_refl _) (.cells #[.int .i64 2, .slice none 0 0, .slice none 0 0, .slice none 0 0, .slice none 0 0] 38)).alloc (by simp) (.cells #[.bool false] 4)
  have hM4 : VarAt ((w3.alloc (.cells #[.int .i64 2, .slice none 0 0, .slice none 0 0, .slice none 0 0, .slice none 0 0] 38)).alloc (.cells #[.bool false] 4)) w3.heap.size [.int .i64 2, .slice none 0 0, .slice none 0 0, .slice none 0 0, .slice none 0 0] := (VarAt.new w3 #[.int .i64 2, .slice none 0 0, .slice none 0 0, .slice none 0 0, .slice none 0 0] 38).keeps ((Below.refl _ _).alloc (Nat.le_refl _) (.cells #[.bool false] 4)) (by simp)
  have hV4 : VarAt ((w3.alloc (.cells #[.int .i64 2, .slice none 0 0, .slice none 0 0, .slice none 0 0, .slice none 0 0] 38)).alloc (.cells #[.bool false] 4)) (w3.heap.size + 1) [.bool false] := by
    have := VarAt.new (w3.alloc (.cells #[.int .i64 2, .slice none 0 0, .slice none 0 0, .slice none 0 0, .slice none 0 0] 38)) #[.bool false] 4
    simpa using this
  have hr := hr3.keeps hb4 hr3.lt
  have hR := hR3.keeps hb4 hR3.1
  have hS := hS3.keeps hb4 hS3.1
  have hW := hW3.keeps hb4 hW3.1
  have hB := hB3.trans (hb4.mono (Nat.le_trans hRw hB3.size))
  have hs3 := hW3.1
  clear hr3 hR3 hS3 hW3 hB3 hb4
  go_upto_region 4 with (fail)
  generalize (w3.alloc (.cells #[.int .i64 2, .slice none 0 0, .slice none 0 0, .slice none 0 0, .slice none 0 0] 38)).alloc (.cells #[.bool false] 4) = W at *
  obtain ⟨mb, hmbe⟩ : ∃ mb, mb = w3.heap.size := ⟨_, rfl⟩
  obtain ⟨vb, hvbe⟩ : ∃ vb, vb = w3.heap.size + 1 := ⟨_, rfl⟩
  rw [← hvbe] at hV4 ⊢
  rw [← hmbe] at hM4 ⊢
  have hM := hM4
  have hV := hV4
  have hvrmb : vr < mb := by omega
  have hmbvb : mb < vb := by omega
  clear hvbe hmbe hs3 hM4 hV4
  have hlR : R < W.heap.size := hR.1
  have hlb : vb < W.heap.size := hV.1
  have m0 := hM.2.2 0 _ rfl
  have hsrd : SRd W bs rb r1 := ⟨false, r1, hS, hr, by omega, fun _ => rfl, fun e => by cases e⟩
  have HT : Hid (Calls Tryz.prog 41 #[.pointer (some ⟨bs, 0, none⟩), .int .i64 20, .func (.func 42) #[] #[.pointer (some ⟨vr, 0, none⟩), .pointer (some ⟨vb, 0, none⟩)]] W (fun e w' => ∃ (a : Option Addr) (c : Nat) (xs : List ByteArray) (ys : List Opr) (bq : Bool), e = .returned (.slice a ys.length c) ∧ Hid (xs.map opOf = ys) ∧ Hid (OwnRows oprLay w' W.heap.size 28 (.slice a ys.length c) ys) ∧ Hid (SRd w' bs rb (listR Rd.str r1 20).2) ∧ Hid (VarAt w' vb [.bool bq]) ∧ Hid (Turned (fun k => k = rb ∨ k = bs ∨ k = vb) W.heap.size W w') ∧ Hid ((listR Rd.str r1 20).2.err = 0 → xs = (listR Rd.str r1 20).1 ∧ xs.any badOf = bq))) := Lib.hid ((taken_op vr vb bs rb false r1 20 W (by omega) hrl hsrd hW hV (by omega) (by omega) (by omega) (by omega) (by omega)).mono (fun e w' ⟨v, xs, bq, he, ho, hs, hv, ht, hx⟩ => by
    obtain ⟨a, c, rfl, hrw, _⟩ := ho.read
    exact ⟨a, c, xs, _, bq, he, Lib.hid rfl, Lib.hid ho, Lib.hid hs, Lib.hid hv, Lib.hid ht, Lib.hid (fun h => ⟨(hx h).1, by have := (hx h).2; rw [this]; rfl⟩)⟩))
  have u0 := hW.2.2 0 _ rfl
  go_wp2_with fail
  refine HT.out.mono ?_
  rintro e w5 ⟨a1, c1, xs, ys, bq, rfl, Hys, Ho1, Hs1, HV1, Ht1, Hx1⟩
  have hsz := Ht1.out.size
  have hbz1 := hlR
  have n1 : vr ≠ mb := by omega
  have n2 : bs ≠ mb := by omega
  have n3 : R ≠ mb := by omega
  have n4 : vb ≠ mb := by omega
  have n5 : mb ≠ rb := by omega
  have n6 : mb ≠ bs := by omega
  have hm5 := hM.turned Ht1.out hM.1 (by rintro (e | e | e) <;> omega)
  replace hR := (hR.turned Ht1.out hlR (by rintro (e | e | e) <;> omega)).other (k := mb) (i := 3) (.slice a1 ys.length c1) n3
  replace hV := HV1.out.other (k := mb) (i := 3) (.slice a1 ys.length c1) n4
  replace hW := (hW.turned Ht1.out hW.1 (by rintro (e | e | e) <;> omega)).other (k := mb) (i := 3) (.slice a1 ys.length c1) n1
  have hmlt := hM.1
  have hk3 := hm5.2.2 3 _ rfl
  have hk4 := hm5.2.1 3
  replace hM := hm5.set 3 (.slice a1 ys.length c1) (by simp)
  dsimp only [List.set] at hM
  replace hB := (hB.trans (Ht1.out.below (B' := R) (by omega) (fun k hk h => by rcases h with rfl | rfl | rfl <;> omega))).setCell (p := ⟨mb, 3, none⟩) (show R ≤ mb by omega) (.slice a1 ys.length c1)
  have ho1 := Ho1.out.set (b := mb) 3 (.slice a1 ys.length c1) hmlt
  have hsrd' : SRd (w5.setCell ⟨mb, 3, none⟩ (.slice a1 ys.length c1)) bs rb (listR Rd.str r1 20).2 := by
    obtain ⟨odd, rc, g1, g2, g3, g4, g5⟩ := Hs1.out
    exact ⟨odd, rc, g1.other _ n2, rdSet g2 3 _ n5, g3, g4, g5⟩
  replace hsrd := hsrd'
  clear u0
  go_upto_region 13 with (fail)
  clear hsrd' HT Hs1 Ht1 Ho1 HV1 hk3 hk4 hm5 n1 n2 n3 n4 n5 n6 m0
  generalize w5.setCell ⟨mb, 3, none⟩ (.slice a1 ys.length c1) = W5 at *
  obtain ⟨odd, rc, hSv, hrd, hne, hf, ht⟩ := hsrd
  have s1 := hSv.2.2 1 _ rfl
  have s0 := hSv.2.2 0 _ rfl
  have u0 := hW.2.2 0 _ rfl
  cases odd with
  | true =>
    have HD := Lib.hid (dec_odd (l := d.data.toList) (by rw [HKR.out]; exact ht rfl))
    clear hf ht
    have f0 := hR.2.2 0 _ rfl
    have f1 := hR.2.2 1 _ rfl
    have f2 := hR.2.2 2 _ rfl
    have f3 := hR.2.2 3 _ rfl
    have f4 := hR.2.2 4 _ rfl
    have ff := hR.2.1
    go_wp2_with fail
    have hR5 := hR.put [.int .i64 0, .slice none 0 0, .slice none 0 0, .slice none 0 0, .slice none 0 0] rfl
    have hB5 := belowPut (b := R) hB [.int .i64 0, .slice none 0 0, .slice none 0 0, .slice none 0 0, .slice none 0 0] 0 (by omega)
    simp only [putRow, Nat.zero_add, Nat.reduceAdd] at hR5 hB5
    have e0 := hR5.2.2 0 _ rfl
    have e1 := hR5.2.2 1 _ rfl
    have e2 := hR5.2.2 2 _ rfl
    have e3 := hR5.2.2 3 _ rfl
    have e4 := hR5.2.2 4 _ rfl
    refine bodyPost_ret (v := .tuple #[.agg #[.int .i64 0, .slice none 0 0, .slice none 0 0, .slice none 0 0, .slice none 0 0], .int .i64 11]) (by simp [results, Tryz.results11, go_sem, e0, e1, e2, e3, e4]) rfl (HNone.out _ _ HD.out hB5)
  | false =>
    have Hrc := Lib.hid (hf rfl)
    clear hf ht
    have HE := Lib.hid (End_any rb rc _ hrd)
    have HDf := Lib.hid (fun e (h : rc.fin = e) (he : e ≠ 0) => dec_fin (l := d.data.toList) (e := e) (by rw [HKR.out]; show Rd.fin (listR Rd.str r1 20).2 = e; rw [← Hrc.out]; exact h) he)
    by_cases hfin : ¬ rc.fin = 0
    · have HD := Lib.hid (HDf.out _ rfl hfin)
      have d1 : (rc.fin != 0) = true := by rw [bne_iff_ne]; exact hfin
      clear hfin
      generalize rc.fin = fe at *
      go_wp2_with fail
      refine HE.out.mono ?_
      rintro e w9 ⟨rfl, nq, rfl⟩
      replace hR := hR.drew nq
      replace hB := belowDrew hB nq
      have f0 := hR.2.2 0 _ rfl
      have f1 := hR.2.2 1 _ rfl
      have f2 := hR.2.2 2 _ rfl
      have f3 := hR.2.2 3 _ rfl
      have f4 := hR.2.2 4 _ rfl
      have ff := hR.2.1
      go_wp2_with fail
      have hR5 := hR.put [.int .i64 0, .slice none 0 0, .slice none 0 0, .slice none 0 0, .slice none 0 0] rfl
      have hB5 := belowPut (b := R) hB [.int .i64 0, .slice none 0 0, .slice none 0 0, .slice none 0 0, .slice none 0 0] 0 (by omega)
      simp only [putRow, Nat.zero_add, Nat.reduceAdd] at hR5 hB5
      have e0 := hR5.2.2 0 _ rfl
      have e1 := hR5.2.2 1 _ rfl
      have e2 := hR5.2.2 2 _ rfl
      have e3 := hR5.2.2 3 _ rfl
      have e4 := hR5.2.2 4 _ rfl
      refine bodyPost_ret (v := .tuple #[.agg #[.int .i64 0, .slice none 0 0, .slice none 0 0, .slice none 0 0, .slice none 0 0], .int .i64 fe]) (by simp [results, Tryz.results11, go_sem, e0, e1, e2, e3, e4]) rfl (HNone.out _ _ HD.out hB5)
    replace hfin := Decidable.not_not.1 hfin
    have HF0 := Lib.hid (show (readM d.data.toList).2.2.fin = 0 by rw [HKR.out]; show Rd.fin (listR Rd.str r1 20).2 = 0; rw [← Hrc.out]; exact hfin)
    rw [hfin] at HE
    have hre : Rd.err (listR Rd.str r1 20).2 = 0 := by rw [← Hrc.out]; exact (fin_back hfin).1
    clear hfin
    have hq1 := (Hx1.out hre).1
    have Hbq := Lib.hid (Hx1.out hre).2
    have hl1 : ys.length ≤ 20 := by rw [← Hys.out, List.length_map, hq1]; exact manyR_le _ _ 20
    have Hls := Lib.hid (show ∀ t ∈ xs, t.size ≤ 100000 from fun t ht => by rw [hq1] at ht; exact Nat.le_trans (listR_size _ _ t ht) hrl)
    rw [← hq1, Hys.out] at HKR
    clear hq1
    clear hre
    cases bq with
    | true =>
      have HD := Lib.hid (dec_bad (l := d.data.toList) HF0.out (.inl (by rw [HKR.out]; exact Hbq.out)))
      have v0 := hV.2.2 0 _ rfl
      go_wp2_with fail
      refine HE.out.mono ?_
      rintro e w9 ⟨rfl, nq, rfl⟩
      replace hR := hR.drew nq
      replace hB := belowDrew hB nq
      have f0 := hR.2.2 0 _ rfl
      have f1 := hR.2.2 1 _ rfl
      have f2 := hR.2.2 2 _ rfl
      have f3 := hR.2.2 3 _ rfl
      have f4 := hR.2.2 4 _ rfl
      have ff := hR.2.1
      go_wp2_with fail
      have hR5 := hR.put [.int .i64 0, .slice none 0 0, .slice none 0 0, .slice none 0 0, .slice none 0 0] rfl
      have hB5 := belowPut (b := R) hB [.int .i64 0, .slice none 0 0, .slice none 0 0, .slice none 0 0, .slice none 0 0] 0 (by omega)
      simp only [putRow, Nat.zero_add, Nat.reduceAdd] at hR5 hB5
      have e0 := hR5.2.2 0 _ rfl
      have e1 := hR5.2.2 1 _ rfl
      have e2 := hR5.2.2 2 _ rfl
      have e3 := hR5.2.2 3 _ rfl
      have e4 := hR5.2.2 4 _ rfl
      refine bodyPost_ret (v := .tuple #[.agg #[.int .i64 0, .slice none 0 0, .slice none 0 0, .slice none 0 0, .slice none 0 0], .int .i64 11]) (by simp [results, Tryz.results11, go_sem, e0, e1, e2, e3, e4]) rfl (HNone.out _ _ HD.out hB5)
    | false =>
      have HRt := Lib.hid fun W h1 h2 h3 h4 => mright_any (⟨2, [], [], ys, []⟩ : Msg) none none a1 none 0 0 c1 0 W (Nat.zero_le _) (Nat.zero_le _) (by show ys.length ≤ 100000; omega) (Nat.zero_le _) (fun x hx => by have hx : x ∈ ys := hx; rw [← Hys.out] at hx; obtain ⟨t, ht, rfl⟩ := List.mem_map.1 hx; have := Hls.out t ht; have := opOf_size t; omega) h1 h2 h3 h4
      have HDb := Lib.hid (fun h => dec_bad (l := d.data.toList) HF0.out (.inr h))
      have HDo := Lib.hid (fun h => dec_ok (l := d.data.toList) HF0.out (by rw [HKR.out]; exact Hbq.out) h)
      rw [HKR.out] at HDb HDo
      dsimp only at HDb HDo HRt
      obtain ⟨rt, hrt⟩ : ∃ rt, rightM (⟨2, [], [], ys, []⟩ : Msg) = rt := ⟨_, rfl⟩
      rw [hrt] at HRt HDb HDo
      clear hrt
      have v0 := hV.2.2 0 _ rfl
      have m0 := hM.2.2 0 _ rfl
      have m1 := hM.2.2 1 _ rfl
      have m2 := hM.2.2 2 _ rfl
      have m3 := hM.2.2 3 _ rfl
      have m4 := hM.2.2 4 _ rfl
      go_wp2_with fail
      refine HE.out.mono ?_
      rintro e w9 ⟨rfl, nq, rfl⟩
      replace hR := hR.drew nq
      replace hB := belowDrew hB nq
      replace hM := hM.drew nq
      go_wp2_with fail
      refine (HRt.out _ (RowsAt.nil _ _ _) (RowsAt.nil _ _ _) (ho1.drewN nq).rows (RowsAt.nil _ _ _)).mono ?_
      rintro e w10 ⟨rfl, hb10⟩
      replace hR := hR.keeps hb10 hR.1
      replace hM := hM.keeps hb10 hM.1
      replace hB := hB.trans (hb10.mono (Nat.le_trans hRw hB.size))
      clear m0 m1 m2 m3 m4
      cases rt with
      | false =>
        have HD := Lib.hid (HDb.out rfl)
        have f0 := hR.2.2 0 _ rfl
        have f1 := hR.2.2 1 _ rfl
        have f2 := hR.2.2 2 _ rfl
        have f3 := hR.2.2 3 _ rfl
        have f4 := hR.2.2 4 _ rfl
        have ff := hR.2.1
        go_wp2_with fail
        have hR5 := hR.put [.int .i64 0, .slice none 0 0, .slice none 0 0, .slice none 0 0, .slice none 0 0] rfl
        have hB5 := belowPut (b := R) hB [.int .i64 0, .slice none 0 0, .slice none 0 0, .slice none 0 0, .slice none 0 0] 0 (by omega)
        simp only [putRow, Nat.zero_add, Nat.reduceAdd] at hR5 hB5
        have e0 := hR5.2.2 0 _ rfl
        have e1 := hR5.2.2 1 _ rfl
        have e2 := hR5.2.2 2 _ rfl
        have e3 := hR5.2.2 3 _ rfl
        have e4 := hR5.2.2 4 _ rfl
        refine bodyPost_ret (v := .tuple #[.agg #[.int .i64 0, .slice none 0 0, .slice none 0 0, .slice none 0 0, .slice none 0 0], .int .i64 11]) (by simp [results, Tryz.results11, go_sem, e0, e1, e2, e3, e4]) rfl (HNone.out _ _ HD.out hB5)
      | true =>
        have HD := Lib.hid (HDo.out rfl)
        have m0 := hM.2.2 0 _ rfl
        have m1 := hM.2.2 1 _ rfl
        have m2 := hM.2.2 2 _ rfl
        have m3 := hM.2.2 3 _ rfl
        have m4 := hM.2.2 4 _ rfl
        have f0 := hR.2.2 0 _ rfl
        have f1 := hR.2.2 1 _ rfl
        have f2 := hR.2.2 2 _ rfl
        have f3 := hR.2.2 3 _ rfl
        have f4 := hR.2.2 4 _ rfl
        have ff := hR.2.1
        have hnm : R ≠ mb := by omega
        go_wp2_with fail
        have hR5 := hR.put [.int .i64 2, .slice none 0 0, .slice none 0 0, .slice a1 ys.length c1, .slice none 0 0] rfl
        have hB5 := belowPut (b := R) hB [.int .i64 2, .slice none 0 0, .slice none 0 0, .slice a1 ys.length c1, .slice none 0 0] 0 (by omega)
        have qho1 := ((ho1.drewN nq).below hb10).putRow (b := R) 0 [.int .i64 2, .slice none 0 0, .slice none 0 0, .slice a1 ys.length c1, .slice none 0 0] (by omega)
        simp only [putRow, Nat.zero_add, Nat.reduceAdd] at hR5 hB5 qho1
        have e0 := hR5.2.2 0 _ rfl
        have e1 := hR5.2.2 1 _ rfl
        have e2 := hR5.2.2 2 _ rfl
        have e3 := hR5.2.2 3 _ rfl
        have e4 := hR5.2.2 4 _ rfl
        refine bodyPost_ret (v := .tuple #[.agg #[.int .i64 2, .slice none 0 0, .slice none 0 0, .slice a1 ys.length c1, .slice none 0 0], .int .i64 0]) (by simp [results, Tryz.results11, go_sem, e0, e1, e2, e3, e4]) rfl ?_
        exact HOk.out _ (⟨2, [], [], ys, []⟩ : Msg) _ _ _ _ _ _ _ _ _ _ _ _ _ HD.out rfl rfl rfl rfl rfl hB5 (RowsAt.nil _ _ _) (RowsAt.nil _ _ _) qho1.rows (RowsAt.nil _ _ _)
end Go.Proofs.YtlenpifjkbcmdaaGreatDoor

namespace Go.Proofs.YtlenpifjkbcmdaaGreatDoor
open Go Go.RowKit Go.Lib
attribute [local go_sem ↓] Go.wp_at_zero Go.wp_at_succ

set_option maxRecDepth 100000 in
set_option maxHeartbeats 12800000 in
theorem mdecode_3 (d : ByteArray) (w : World) (hd : d.size ≤ 100000) (hk : (Rd.num ⟨0, d.data.toList⟩).1 = 3) :
    Calls Tryz.prog 11 #[.string d] w (DecPost d.data.toList w) := by
  obtain ⟨r1, hr1⟩ : ∃ r1, (Rd.num ⟨0, d.data.toList⟩).2 = r1 := ⟨_, rfl⟩
  have hrl : r1.rest.length ≤ 100000 := by
    have := num_rest ⟨0, d.data.toList⟩
    rw [hr1] at this
    rw [size_eq] at hd
    exact Nat.le_trans this hd
  have HKR := Lib.hid (readM_3 hk)
  rw [hr1] at HKR
  have HNone := Lib.hid fun er W (h : decM d.data.toList = (noMsg, er)) (hb : Below w.heap.size w W) => decPost_none h hb
  have HOk := Lib.hid fun W m k nv nw no np av aw ao ap cv cw co cp h h0 h1 h2 h3 h4 hb q1 q2 q3 q4 => decPost_ok (l := d.data.toList) (w := w) (w' := W) (m := m) (k := k) (nv := nv) (nw := nw) (no := no) (np := np) av aw ao ap cv cw co cp h h0 h1 h2 h3 h4 hb q1 q2 q3 q4
  generalize DecPost d.data.toList w = Q at *
  have hb0 := (Below.refl w.heap.size w).alloc (Nat.le_refl _) (.cells #[.int .i64 0, .slice none 0 0, .slice none 0 0, .slice none 0 0, .slice none 0 0] 38)
  have hR0 := VarAt.new w #[.int .i64 0, .slice none 0 0, .slice none 0 0, .slice none 0 0, .slice none 0 0] 38
  have HRD := Lib.hid (show Calls Tryz.prog 36 #[.string d] (w.alloc (.cells #[.int .i64 0, .slice none 0 0, .slice none 0 0, .slice none 0 0, .slice none 0 0] 38)) fun e w' => e = .returned (.pointer (some ⟨w.heap.size + 1, 0, none⟩)) ∧ RdAt w' (w.heap.size + 1) ⟨0, d.data.toList⟩ ∧ Below (w.heap.size + 1) (w.alloc (.cells #[.int .i64 0, .slice none 0 0, .slice none 0 0, .slice none 0 0, .slice none 0 0] 38)) w' by
    have := Read_any d (w.alloc (.cells #[.int .i64 0, .slice none 0 0, .slice none 0 0, .slice none 0 0, .slice none 0 0] 38)) (by omega)
    simpa using this)
  have HN := Lib.hid fun W (h : RdAt W (w.heap.size + 1) ⟨0, d.data.toList⟩) => Num_any (w.heap.size + 1) ⟨0, d.data.toList⟩ W h

  rw [hk, hr1] at HN

  clear hk hr1
  go_enter Tryz.func11, Tryz.ntmps11
  go_wp2_with fail
  refine HRD.out.mono ?_
  rintro e w1 ⟨rfl, hr0, hb1⟩
  obtain ⟨R, hRe⟩ : ∃ R, R = w.heap.size := ⟨_, rfl⟩
  obtain ⟨rb, hrbe⟩ : ∃ rb, rb = w.heap.size + 1 := ⟨_, rfl⟩
  have hB1 := hb0.trans (hb1.mono (Nat.le_succ _))
  have hR1 := hR0.keeps hb1 (Nat.lt_succ_self _)
  have hs1 := hr0.lt
  rw [← hrbe] at hr0 hs1 HN ⊢
  rw [← hRe] at hR1 hB1 HNone HOk ⊢
  have hRrb : R < rb := by omega
  have hRw : R ≤ w.heap.size := by omega
  clear hRe hrbe
  have hb2 := ((Below.refl w1.heap.size w1).alloc (Nat.le_refl _) (.cells #[.pointer (some ⟨rb, 0, none⟩), .bool false] 73)).alloc (by simp) (.cells #[.pointer (some ⟨w1.heap.size, 0, none⟩)] 69)
  have hS2 : VarAt ((w1.alloc (.cells #[.pointer (some ⟨rb, 0, none⟩), .bool false] 73)).alloc (.cells #[.pointer (some ⟨w1.heap.size, 0, none⟩)] 69)) w1.heap.size [.pointer (some ⟨rb, 0, none⟩), .bool false] := (VarAt.new w1 #[.pointer (some ⟨rb, 0, none⟩), .bool false] 73).keeps ((Below.refl _ _).alloc (Nat.le_refl _) (.cells #[.pointer (some ⟨w1.heap.size, 0, none⟩)] 69)) (by simp)
  have hW2 : VarAt ((w1.alloc (.cells #[.pointer (some ⟨rb, 0, none⟩), .bool false] 73)).alloc (.cells #[.pointer (some ⟨w1.heap.size, 0, none⟩)] 69)) (w1.heap.size + 1) [.pointer (some ⟨w1.heap.size, 0, none⟩)] := by
    have := VarAt.new (w1.alloc (.cells #[.pointer (some ⟨rb, 0, none⟩), .bool false] 73)) #[.pointer (some ⟨w1.heap.size, 0, none⟩)] 69
    simpa using this
  have hr2 := hr0.keeps hb2 hs1
  have hR2 := hR1.keeps hb2 hR1.1
  have hB2 := hB1.trans (hb2.mono (Nat.le_trans hRw hB1.size))
  clear hr0 hR1 hb1 hB1 hb0 hR0 hb2
  go_wp2_with fail
  generalize (w1.alloc (.cells #[.pointer (some ⟨rb, 0, none⟩), .bool false] 73)).alloc (.cells #[.pointer (some ⟨w1.heap.size, 0, none⟩)] 69) = W2 at *
  obtain ⟨bs, hbse⟩ : ∃ bs, bs = w1.heap.size := ⟨_, rfl⟩
  obtain ⟨vr, hvre⟩ : ∃ vr, vr = w1.heap.size + 1 := ⟨_, rfl⟩
  rw [← hvre] at hW2 ⊢
  rw [← hbse] at hS2 hW2 ⊢
  have hrbbs : rb < bs := by omega
  have hbsvr : bs < vr := by omega
  clear hvre hbse hs1
  refine (HN.out _ hr2).mono ?_
  rintro e w3 ⟨rfl, hr3, hg3⟩
  have hR3 := hR2.grown hg3 (by simp; omega)
  have hS3 := hS2.grown hg3 (by simp; omega)
  have hW3 := hW2.grown hg3 (by simp; omega)
  have hB3 := hB2.grown hg3 (Nat.le_trans hRw hB2.size) (fun j ej => by cases ej; omega)
  clear hr2 hR2 hS2 hW2 hB2 hg3
  have hb4 := ((Below.refl w3.heap.size w3).alloc (Nat.le_refl _) (.cells #[.int .i64 3, .slice none 0 0, .slice none 0 0, .slice none 0 0, .slice none 0 0] 38)).alloc (by simp) (.cells #[.bool false] 4)
  have hM4 : VarAt ((w3.alloc (.cells #[.int .i64 3, .slice none 0 0, .slice none 0 0, .slice none 0 0, .slice none 0 0] 38)).alloc (.cells #[.bool false] 4)) w3.heap.size [.int .i64 3, .slice none 0 0, .slice none 0 0, .slice none 0 0, .slice none 0 0] := (VarAt.new w3 #[.int .i64 3, .slice none 0 0, .slice none 0 0, .slice none 0 0, .slice none 0 0] 38).keeps ((Below.refl _ _).alloc (Nat.le_refl _) (.cells #[.bool false] 4)) (by simp)
  have hV4 : VarAt ((w3.alloc (.cells #[.int .i64 3, .slice none 0 0, .slice none 0 0, .slice none 0 0, .slice none 0 0] 38)).alloc (.cells #[.bool false] 4)) (w3.heap.size + 1) [.bool false] := by
    have := VarAt.new (w3.alloc (.cells #[.int .i64 3, .slice none 0 0, .slice none 0 0, .slice none 0 0, .slice none 0 0] 38)) #[.bool false] 4
    simpa using this
  have hr := hr3.keeps hb4 hr3.lt
  have hR := hR3.keeps hb4 hR3.1
  have hS := hS3.keeps hb4 hS3.1
  have hW := hW3.keeps hb4 hW3.1
  have hB := hB3.trans (hb4.mono (Nat.le_trans hRw hB3.size))
  have hs3 := hW3.1
  clear hr3 hR3 hS3 hW3 hB3 hb4
  go_upto_region 4 with (fail)
  generalize (w3.alloc (.cells #[.int .i64 3, .slice none 0 0, .slice none 0 0, .slice none 0 0, .slice none 0 0] 38)).alloc (.cells #[.bool false] 4) = W at *
  obtain ⟨mb, hmbe⟩ : ∃ mb, mb = w3.heap.size := ⟨_, rfl⟩
  obtain ⟨vb, hvbe⟩ : ∃ vb, vb = w3.heap.size + 1 := ⟨_, rfl⟩
  rw [← hvbe] at hV4 ⊢
  rw [← hmbe] at hM4 ⊢
  have hM := hM4
  have hV := hV4
  have hvrmb : vr < mb := by omega
  have hmbvb : mb < vb := by omega
  clear hvbe hmbe hs3 hM4 hV4
  have hlR : R < W.heap.size := hR.1
  have hlb : vb < W.heap.size := hV.1
  have m0 := hM.2.2 0 _ rfl
  have hsrd : SRd W bs rb r1 := ⟨false, r1, hS, hr, by omega, fun _ => rfl, fun e => by cases e⟩
  go_wp2_with fail
  have HT : Hid (Calls Tryz.prog 39 #[.pointer (some ⟨bs, 0, none⟩), .int .i64 16, .func (.func 40) #[.pointer (some ⟨rb, 0, none⟩)] #[]] W.drew (fun e w' => ∃ (a : Option Addr) (c : Nat) (xs : List ByteArray), e = .returned (.slice a xs.length c) ∧ Hid (OwnRows strLay w' W.heap.size 9 (.slice a xs.length c) xs) ∧ Hid (SRd w' bs rb (listR Rd.str (r1) 16).2) ∧ Hid (Turned (fun k => k = rb ∨ k = bs) W.heap.size W w') ∧ Hid ((listR Rd.str (r1) 16).2.err = 0 → xs = (listR Rd.str (r1) 16).1) ∧ w'.cell? ⟨vr, 0, none⟩ = some (.pointer (some ⟨bs, 0, none⟩)) ∧ w'.cell? ⟨bs, 0, none⟩ = some (.pointer (some ⟨rb, 0, none⟩)) ∧ Hid (VarAt w' mb [.int .i64 3, .slice none 0 0, .slice none 0 0, .slice none 0 0, .slice none 0 0]) ∧ w'.cell? ⟨mb, 4, none⟩ = some (.slice none 0 0) ∧ w'.frozen? ⟨mb, 4, none⟩ = false)) := Lib.hid ((taken_str bs rb (r1) 16 W.drew (by omega) hsrd).mono (fun e w' ⟨v, xs, he, ho, hs, ht, hx⟩ => by
    rw [List.map_id] at ho
    obtain ⟨a, c, rfl, hrw, _⟩ := ho.read
    have ht' : Turned (fun k => k = rb ∨ k = bs) W.heap.size W w' := (show Turned (fun k => k = rb ∨ k = bs) W.heap.size W W.drew from ⟨rfl, rfl, rfl, Nat.le_refl _, fun _ _ _ => rfl⟩).trans ht
    have h1 := hW.turned ht' hW.1 (by rintro (e | e) <;> omega)
    have h3 := hM.turned ht' hM.1 (by rintro (e | e) <;> omega)
    obtain ⟨_, _, h2, _⟩ := id hs
    exact ⟨a, c, xs, he, Lib.hid ho, Lib.hid hs, Lib.hid ht', Lib.hid hx, h1.2.2 0 _ rfl, h2.2.2 0 _ rfl, Lib.hid h3, h3.2.2 4 _ rfl, h3.2.1 4⟩))
  have hkc : W.drew.cell? ⟨vr, 0, none⟩ = some (.pointer (some ⟨bs, 0, none⟩)) ∧ W.drew.cell? ⟨bs, 0, none⟩ = some (.pointer (some ⟨rb, 0, none⟩)) := by
    obtain ⟨_, _, h2, _⟩ := id hsrd
    exact ⟨hW.2.2 0 _ rfl, h2.2.2 0 _ rfl⟩
  have n1 : vr ≠ mb := by omega
  have n2 : bs ≠ mb := by omega
  have n3 : R ≠ mb := by omega
  have n4 : vb ≠ mb := by omega
  have n5 : mb ≠ rb := by omega
  have n6 : mb ≠ bs := by omega
  go_region_held3 (fun w' => w'.cell? ⟨vr, 0, none⟩ = some (.pointer (some ⟨bs, 0, none⟩)) ∧ w'.cell? ⟨bs, 0, none⟩ = some (.pointer (some ⟨rb, 0, none⟩)))
    (first | exact hkc | (exact ⟨by assumption, by assumption⟩) | (exact ⟨cell_set_ne (by assumption) n1, cell_set_ne (by assumption) n2⟩))
    ((go_at_call 39; refine HT.out.mono ?_; rintro e w5 ⟨a1, c1, xs1, rfl, Ho1, Hs1, Ht1, Hx1, hk1, hk2, Hm1, hk3, hk4⟩))
  have hsz := Ht1.out.size
  have hbz1 := hlR
  replace hR := (hR.turned Ht1.out hlR (by rintro (e | e) <;> omega)).other (k := mb) (i := 4) (.slice a1 xs1.length c1) n3
  replace hV := (hV.turned Ht1.out hlb (by rintro (e | e) <;> omega)).other (k := mb) (i := 4) (.slice a1 xs1.length c1) n4
  replace hW := (hW.turned Ht1.out hW.1 (by rintro (e | e) <;> omega)).other (k := mb) (i := 4) (.slice a1 xs1.length c1) n1
  have hmlt := hM.1
  replace hM := Hm1.out.set 4 (.slice a1 xs1.length c1) (by simp)
  dsimp only [List.set] at hM
  replace hB := (hB.trans (Ht1.out.below (B' := R) (by omega) (fun k hk h => by rcases h with rfl | rfl <;> omega))).setCell (p := ⟨mb, 4, none⟩) (show R ≤ mb by omega) (.slice a1 xs1.length c1)
  have ho1 := Ho1.out.set (b := mb) 4 (.slice a1 xs1.length c1) hmlt
  have hsrd' : SRd (w5.setCell ⟨mb, 4, none⟩ (.slice a1 xs1.length c1)) bs rb (listR Rd.str (r1) 16).2 := by
    obtain ⟨odd, rc, g1, g2, g3, g4, g5⟩ := Hs1.out
    exact ⟨odd, rc, g1.other _ n2, rdSet g2 4 _ n5, g3, g4, g5⟩
  replace hsrd := hsrd'
  replace hlR := hR.1
  replace hlb := hV.1
  clear hsrd' HT hkc Hs1 Ht1 Hm1 Ho1 hk1 hk2 hk3 hk4 n1 n2 n3 n4 n5 n6 m0
  generalize w5.setCell ⟨mb, 4, none⟩ (.slice a1 xs1.length c1) = W5 at *
  obtain ⟨odd, rc, hSv, hrd, hne, hf, ht⟩ := hsrd
  have s1 := hSv.2.2 1 _ rfl
  have s0 := hSv.2.2 0 _ rfl
  have u0 := hW.2.2 0 _ rfl
  cases odd with
  | true =>
    have HD := Lib.hid (dec_odd (l := d.data.toList) (by rw [HKR.out]; exact ht rfl))
    clear hf ht
    have f0 := hR.2.2 0 _ rfl
    have f1 := hR.2.2 1 _ rfl
    have f2 := hR.2.2 2 _ rfl
    have f3 := hR.2.2 3 _ rfl
    have f4 := hR.2.2 4 _ rfl
    have ff := hR.2.1
    go_wp2_with fail
    have hR5 := hR.put [.int .i64 0, .slice none 0 0, .slice none 0 0, .slice none 0 0, .slice none 0 0] rfl
    have hB5 := belowPut (b := R) hB [.int .i64 0, .slice none 0 0, .slice none 0 0, .slice none 0 0, .slice none 0 0] 0 (by omega)
    simp only [putRow, Nat.zero_add, Nat.reduceAdd] at hR5 hB5
    have e0 := hR5.2.2 0 _ rfl
    have e1 := hR5.2.2 1 _ rfl
    have e2 := hR5.2.2 2 _ rfl
    have e3 := hR5.2.2 3 _ rfl
    have e4 := hR5.2.2 4 _ rfl
    refine bodyPost_ret (v := .tuple #[.agg #[.int .i64 0, .slice none 0 0, .slice none 0 0, .slice none 0 0, .slice none 0 0], .int .i64 11]) (by simp [results, Tryz.results11, go_sem, e0, e1, e2, e3, e4]) rfl (HNone.out _ _ HD.out hB5)
  | false =>
    have Hrc := Lib.hid (hf rfl)
    clear hf ht
    have HE := Lib.hid (End_any rb rc _ hrd)
    have HDf := Lib.hid (fun e (h : rc.fin = e) (he : e ≠ 0) => dec_fin (l := d.data.toList) (e := e) (by rw [HKR.out]; show Rd.fin (listR Rd.str r1 16).2 = e; rw [← Hrc.out]; exact h) he)
    by_cases hfin : ¬ rc.fin = 0
    · have HD := Lib.hid (HDf.out _ rfl hfin)
      have d1 : (rc.fin != 0) = true := by rw [bne_iff_ne]; exact hfin
      clear hfin
      generalize rc.fin = fe at *
      go_wp2_with fail
      refine HE.out.mono ?_
      rintro e w9 ⟨rfl, nq, rfl⟩
      replace hR := hR.drew nq
      replace hB := belowDrew hB nq
      have f0 := hR.2.2 0 _ rfl
      have f1 := hR.2.2 1 _ rfl
      have f2 := hR.2.2 2 _ rfl
      have f3 := hR.2.2 3 _ rfl
      have f4 := hR.2.2 4 _ rfl
      have ff := hR.2.1
      go_wp2_with fail
      have hR5 := hR.put [.int .i64 0, .slice none 0 0, .slice none 0 0, .slice none 0 0, .slice none 0 0] rfl
      have hB5 := belowPut (b := R) hB [.int .i64 0, .slice none 0 0, .slice none 0 0, .slice none 0 0, .slice none 0 0] 0 (by omega)
      simp only [putRow, Nat.zero_add, Nat.reduceAdd] at hR5 hB5
      have e0 := hR5.2.2 0 _ rfl
      have e1 := hR5.2.2 1 _ rfl
      have e2 := hR5.2.2 2 _ rfl
      have e3 := hR5.2.2 3 _ rfl
      have e4 := hR5.2.2 4 _ rfl
      refine bodyPost_ret (v := .tuple #[.agg #[.int .i64 0, .slice none 0 0, .slice none 0 0, .slice none 0 0, .slice none 0 0], .int .i64 fe]) (by simp [results, Tryz.results11, go_sem, e0, e1, e2, e3, e4]) rfl (HNone.out _ _ HD.out hB5)
    replace hfin := Decidable.not_not.1 hfin
    have HF0 := Lib.hid (show (readM d.data.toList).2.2.fin = 0 by rw [HKR.out]; show Rd.fin (listR Rd.str r1 16).2 = 0; rw [← Hrc.out]; exact hfin)
    rw [hfin] at HE
    have hre : Rd.err (listR Rd.str r1 16).2 = 0 := by rw [← Hrc.out]; exact (fin_back hfin).1
    clear hfin
    have hq1 := Hx1.out hre
    have hl1 : xs1.length ≤ 16 := by rw [hq1]; exact manyR_le _ _ 16
    rw [← hq1] at HKR
    clear hq1
    clear hre
    have HRt := Lib.hid fun W h1 h2 h3 h4 => mright_any (⟨3, [], [], [], xs1⟩ : Msg) none none none a1 0 0 0 c1 W (Nat.zero_le _) (Nat.zero_le _) (Nat.zero_le _) (by show xs1.length ≤ 100000; omega) (fun x hx => by cases hx) h1 h2 h3 h4
    have HDb := Lib.hid (fun h => dec_bad (l := d.data.toList) HF0.out (.inr h))
    have HDo := Lib.hid (fun h => dec_ok (l := d.data.toList) HF0.out (by rw [HKR.out]) h)
    rw [HKR.out] at HDb HDo
    dsimp only at HDb HDo HRt
    obtain ⟨rt, hrt⟩ : ∃ rt, rightM (⟨3, [], [], [], xs1⟩ : Msg) = rt := ⟨_, rfl⟩
    rw [hrt] at HRt HDb HDo
    clear hrt
    have v0 := hV.2.2 0 _ rfl
    have m0 := hM.2.2 0 _ rfl
    have m1 := hM.2.2 1 _ rfl
    have m2 := hM.2.2 2 _ rfl
    have m3 := hM.2.2 3 _ rfl
    have m4 := hM.2.2 4 _ rfl
    go_wp2_with fail
    refine HE.out.mono ?_
    rintro e w9 ⟨rfl, nq, rfl⟩
    replace hR := hR.drew nq
    replace hB := belowDrew hB nq
    replace hM := hM.drew nq
    go_wp2_with fail
    refine (HRt.out _ (RowsAt.nil _ _ _) (RowsAt.nil _ _ _) (RowsAt.nil _ _ _) (ho1.drewN nq).rows).mono ?_
    rintro e w10 ⟨rfl, hb10⟩
    replace hR := hR.keeps hb10 hR.1
    replace hM := hM.keeps hb10 hM.1
    replace hB := hB.trans (hb10.mono (Nat.le_trans hRw hB.size))
    clear m0 m1 m2 m3 m4
    cases rt with
    | false =>
      have HD := Lib.hid (HDb.out rfl)
      have f0 := hR.2.2 0 _ rfl
      have f1 := hR.2.2 1 _ rfl
      have f2 := hR.2.2 2 _ rfl
      have f3 := hR.2.2 3 _ rfl
      have f4 := hR.2.2 4 _ rfl
      have ff := hR.2.1
      go_wp2_with fail
      have hR5 := hR.put [.int .i64 0, .slice none 0 0, .slice none 0 0, .slice none 0 0, .slice none 0 0] rfl
      have hB5 := belowPut (b := R) hB [.int .i64 0, .slice none 0 0, .slice none 0 0, .slice none 0 0, .slice none 0 0] 0 (by omega)
      simp only [putRow, Nat.zero_add, Nat.reduceAdd] at hR5 hB5
      have e0 := hR5.2.2 0 _ rfl
      have e1 := hR5.2.2 1 _ rfl
      have e2 := hR5.2.2 2 _ rfl
      have e3 := hR5.2.2 3 _ rfl
      have e4 := hR5.2.2 4 _ rfl
      refine bodyPost_ret (v := .tuple #[.agg #[.int .i64 0, .slice none 0 0, .slice none 0 0, .slice none 0 0, .slice none 0 0], .int .i64 11]) (by simp [results, Tryz.results11, go_sem, e0, e1, e2, e3, e4]) rfl (HNone.out _ _ HD.out hB5)
    | true =>
      have HD := Lib.hid (HDo.out rfl)
      have m0 := hM.2.2 0 _ rfl
      have m1 := hM.2.2 1 _ rfl
      have m2 := hM.2.2 2 _ rfl
      have m3 := hM.2.2 3 _ rfl
      have m4 := hM.2.2 4 _ rfl
      have f0 := hR.2.2 0 _ rfl
      have f1 := hR.2.2 1 _ rfl
      have f2 := hR.2.2 2 _ rfl
      have f3 := hR.2.2 3 _ rfl
      have f4 := hR.2.2 4 _ rfl
      have ff := hR.2.1
      have hnm : R ≠ mb := by omega
      go_wp2_with fail
      have hR5 := hR.put [.int .i64 3, .slice none 0 0, .slice none 0 0, .slice none 0 0, .slice a1 xs1.length c1] rfl
      have hB5 := belowPut (b := R) hB [.int .i64 3, .slice none 0 0, .slice none 0 0, .slice none 0 0, .slice a1 xs1.length c1] 0 (by omega)
      have qho1 := ((ho1.drewN nq).below hb10).putRow (b := R) 0 [.int .i64 3, .slice none 0 0, .slice none 0 0, .slice none 0 0, .slice a1 xs1.length c1] (by omega)
      simp only [putRow, Nat.zero_add, Nat.reduceAdd] at hR5 hB5 qho1
      have e0 := hR5.2.2 0 _ rfl
      have e1 := hR5.2.2 1 _ rfl
      have e2 := hR5.2.2 2 _ rfl
      have e3 := hR5.2.2 3 _ rfl
      have e4 := hR5.2.2 4 _ rfl
      refine bodyPost_ret (v := .tuple #[.agg #[.int .i64 3, .slice none 0 0, .slice none 0 0, .slice none 0 0, .slice a1 xs1.length c1], .int .i64 0]) (by simp [results, Tryz.results11, go_sem, e0, e1, e2, e3, e4]) rfl ?_
      exact HOk.out _ (⟨3, [], [], [], xs1⟩ : Msg) _ _ _ _ _ _ _ _ _ _ _ _ _ HD.out rfl rfl rfl rfl rfl hB5 (RowsAt.nil _ _ _) (RowsAt.nil _ _ _) (RowsAt.nil _ _ _) qho1.rows
end Go.Proofs.YtlenpifjkbcmdaaGreatDoor

namespace Go.Proofs.YtlenpifjkbcmdaaGreatDoor
open Go Go.RowKit Go.Lib
theorem mdecode_any (d : ByteArray) (w : World) (hd : d.size ≤ 100000) : Calls Tryz.prog 11 #[.string d] w (DecPost d.data.toList w) := by
  have h : (Rd.num ⟨0, d.data.toList⟩).1 = 1 ∨ (Rd.num ⟨0, d.data.toList⟩).1 = 2 ∨ (Rd.num ⟨0, d.data.toList⟩).1 = 3 ∨ (Rd.num ⟨0, d.data.toList⟩).1 < 1 ∨ 3 < (Rd.num ⟨0, d.data.toList⟩).1 := by omega
  rcases h with h | h | h | h
  · exact mdecode_1 d w hd h
  · exact mdecode_2 d w hd h
  · exact mdecode_3 d w hd h
  · exact mdecode_0 d w hd h
end Go.Proofs.YtlenpifjkbcmdaaGreatDoor

