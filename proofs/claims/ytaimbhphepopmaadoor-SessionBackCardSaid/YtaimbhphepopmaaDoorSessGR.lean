/-
  arbourref23.Right: what the parts say. arbourref23.Right: may a message be? (kind 1) arbourref23.Right: may a message be? (kind 2) arbourref23.Right: may a message be? (kind 3) arbourref23.Right: may a message be?
-/
import Derived.Test.YtaimbhphepopmaaDoorSessGA
import Derived.Test.YtaimbhphepopmaaDoorNums
import Derived.Test.YtaimbhphepopmaaDoorCells
import Derived.Test.YtaimbhphepopmaaDoorOpsW5
namespace Go.Proofs.YtaimbhphepopmaaDoor
open Go Go.RowKit Go.Lib

theorem right_no {m : Msg} (h : ¬ rightM m = true) : rightM m = false := by simpa using h
theorem right_kind {m : Msg} (h : kindM m = false) : rightM m = false := right_no fun e => by rw [(rightM_iff.1 e).1] at h; cases h
theorem right_kind_no {m : Msg} (h : ¬ (1 ≤ m.kind ∧ m.kind ≤ 3 ∧ (m.kind ≠ 1 → m.vec = [] ∧ m.wants = []) ∧ (m.kind ≠ 2 → m.ops = []) ∧ (m.kind ≠ 3 → m.pcs = []))) : rightM m = false := right_kind (kind_no h)
theorem right_l1 {m : Msg} (h : 15 < m.vec.length) : rightM m = false := right_no fun e => by have := (rightM_iff.1 e).2.1.1; omega
theorem right_l2 {m : Msg} (h : 16 < m.wants.length) : rightM m = false := right_no fun e => by have := (rightM_iff.1 e).2.2.1.1; omega
theorem right_l3 {m : Msg} (h : 20 < m.ops.length) : rightM m = false := right_no fun e => by have := (rightM_iff.1 e).2.2.2.1.1; omega
theorem right_l4 {m : Msg} (h : 16 < m.pcs.length) : rightM m = false := right_no fun e => by have := (rightM_iff.1 e).2.2.2.2.1; omega
theorem right_v {m : Msg} {x : Int} (hx : x ∈ m.vec) (h : numOk x = false) : rightM m = false := right_no fun e => by rw [(rightM_iff.1 e).2.1.2 x hx] at h; cases h
theorem right_w {m : Msg} {x : ByteArray} (hx : x ∈ m.wants) (h : keyOk x = false) : rightM m = false := right_no fun e => by rw [(rightM_iff.1 e).2.2.1.2 x hx] at h; cases h
theorem right_o {m : Msg} {x : Opr} (hx : x ∈ m.ops) (h : opOk x = false) : rightM m = false := right_no fun e => by rw [(rightM_iff.1 e).2.2.2.1.2 x hx] at h; cases h
theorem right_p {m : Msg} {x : ByteArray} (hx : x ∈ m.pcs) (h : pieceOk x = false) : rightM m = false := right_no fun e => by rw [(rightM_iff.1 e).2.2.2.2.2 x hx] at h; cases h
theorem all_got {α : Type} {l : List α} {p : α → Bool} (h : ∀ j y, j < l.length → l[j]? = some y → p y = true) : ∀ x ∈ l, p x = true := fun x hx => by
  obtain ⟨j, hj, e⟩ := List.mem_iff_getElem.1 hx
  exact h j x hj (by rw [List.getElem?_eq_getElem hj, e])
theorem right_yes {m : Msg} (hk : kindM m = true) (g1 : ¬ 15 < m.vec.length) (g2 : ¬ 16 < m.wants.length) (g3 : ¬ 20 < m.ops.length) (g4 : ¬ 16 < m.pcs.length)
    (h1 : ∀ j y, j < m.vec.length → m.vec[j]? = some y → numOk y = true) (h2 : ∀ j y, j < m.wants.length → m.wants[j]? = some y → keyOk y = true)
    (h3 : ∀ j y, j < m.ops.length → m.ops[j]? = some y → opOk y = true) (h4 : ∀ j y, j < m.pcs.length → m.pcs[j]? = some y → pieceOk y = true) : rightM m = true :=
  rightM_iff.2 ⟨hk, ⟨by omega, all_got h1⟩, ⟨by omega, all_got h2⟩, ⟨by omega, all_got h3⟩, by omega, all_got h4⟩

end Go.Proofs.YtaimbhphepopmaaDoor

namespace Go.Proofs.YtaimbhphepopmaaDoor
open Go Go.RowKit Go.Lib

set_option maxRecDepth 100000 in
set_option maxHeartbeats 6400000 in
theorem rright_1 (av aw ao ap : Option Addr) (cv cw co cp : Nat) (vec : List Int) (wants : List ByteArray) (ops : List Opr) (pcs : List ByteArray) (w : World) (l1 : vec.length ≤ 100000) (l2 : wants.length ≤ 100000) (l3 : ops.length ≤ 100000) (l4 : pcs.length ≤ 100000) (_hos : ∀ x ∈ ops, x.name.size ≤ 100000 ∧ x.man.size ≤ 100000) (hv : RowsAt numLay w av vec) (hw : RowsAt strLay w aw wants) (hp : RowsAt oprLay w ao ops) (hc : RowsAt strLay w ap pcs) :
    Calls Tryd.prog 22 #[.agg #[.int .i64 1, .slice av vec.length cv, .slice aw wants.length cw, .slice ao ops.length co, .slice ap pcs.length cp]] w fun e w' => e = .returned (.bool (rightM ⟨1, vec, wants, ops, pcs⟩)) ∧ Below w.heap.size w w' := by
  have hbx := (Below.refl w.heap.size w).alloc (Nat.le_refl _) (.cells #[.int .i64 1, .slice av vec.length cv, .slice aw wants.length cw, .slice ao ops.length co, .slice ap pcs.length cp] 33)
  have hbox := VarAt.new w #[.int .i64 1, .slice av vec.length cv, .slice aw wants.length cw, .slice ao ops.length co, .slice ap pcs.length cp] 33
  have hbf := hbx
  have hq1 := hv.keeps hbx
  have hq2 := hw.keeps hbx
  have hq3 := hp.keeps hbx
  have hq4 := hc.keeps hbx
  obtain ⟨W0, hW0⟩ : ∃ W0, W0 = w.alloc (.cells #[.int .i64 1, .slice av vec.length cv, .slice aw wants.length cw, .slice ao ops.length co, .slice ap pcs.length cp] 33) := ⟨_, rfl⟩
  rw [← hW0] at hbx hbox hq1 hq2 hq3 hq4
  have HV := Lib.hid hq1
  have HW := Lib.hid hq2
  have HO := Lib.hid hq3
  have HCC := Lib.hid hq4
  clear hq1 hq2 hq3 hq4 hv hw hp hc
  have HN := Lib.hid (right_kind_no (m := ⟨1, vec, wants, ops, pcs⟩))
  have HL1 := Lib.hid (fun h => right_l1 (m := ⟨1, vec, wants, ops, pcs⟩) h)
  have HL2 := Lib.hid (fun h => right_l2 (m := ⟨1, vec, wants, ops, pcs⟩) h)
  have HL3 := Lib.hid (fun h => right_l3 (m := ⟨1, vec, wants, ops, pcs⟩) h)
  have HL4 := Lib.hid (fun h => right_l4 (m := ⟨1, vec, wants, ops, pcs⟩) h)
  have HV1 := Lib.hid (fun x hx h => right_v (m := ⟨1, vec, wants, ops, pcs⟩) (x := x) hx h)
  have HV2 := Lib.hid (fun x hx h => right_w (m := ⟨1, vec, wants, ops, pcs⟩) (x := x) hx h)
  have HV3 := Lib.hid (fun x hx h => right_o (m := ⟨1, vec, wants, ops, pcs⟩) (x := x) hx h)
  have HV4 := Lib.hid (fun x hx h => right_p (m := ⟨1, vec, wants, ops, pcs⟩) (x := x) hx h)
  have HY := Lib.hid (right_yes (m := ⟨1, vec, wants, ops, pcs⟩))
  dsimp only at HN HL1 HL2 HL3 HL4 HV1 HV2 HV3 HV4 HY
  generalize rightM _ = q at *
  by_cases to : ¬ (ops.length = 0)
  · have hg : 0 < ops.length := by omega
    have hgd : decide ((0 : Int) < (ops.length : Int)) = true := decide_eq_true (by omega)
    have hge : decide (0 < ops.length) = true := decide_eq_true (by omega)
    clear to
    have Hk := Lib.hid (HN.out (fun h => by have := nil_len (h.2.2.2.1 (by omega)); omega))
    go_enter Tryd.func22, Tryd.ntmps22
    go_wp2_with fail
    go_ret
    exact ⟨ret_bool Hk.out.symm, hbf⟩
  replace to : ops.length = 0 := Decidable.not_not.1 to
  have tdo : decide ((0 : Int) < (ops.length : Int)) = false := decide_eq_false (by omega)
  have teo : decide (0 < ops.length) = false := decide_eq_false (by omega)
  have tno : ¬ 0 < ops.length := by omega
  have To := Lib.hid to
  clear to
  by_cases tp : ¬ (pcs.length = 0)
  · have hg : 0 < pcs.length := by omega
    have hgd : decide ((0 : Int) < (pcs.length : Int)) = true := decide_eq_true (by omega)
    have hge : decide (0 < pcs.length) = true := decide_eq_true (by omega)
    clear tp
    have Hk := Lib.hid (HN.out (fun h => by have := nil_len (h.2.2.2.2 (by omega)); omega))
    go_enter Tryd.func22, Tryd.ntmps22
    go_wp2_with fail
    go_ret
    exact ⟨ret_bool Hk.out.symm, hbf⟩
  replace tp : pcs.length = 0 := Decidable.not_not.1 tp
  have tdp : decide ((0 : Int) < (pcs.length : Int)) = false := decide_eq_false (by omega)
  have tep : decide (0 < pcs.length) = false := decide_eq_false (by omega)
  have tnp : ¬ 0 < pcs.length := by omega
  have Tp := Lib.hid tp
  clear tp
  have HKY := Lib.hid (kindM_iff (m := ⟨1, vec, wants, ops, pcs⟩) |>.2 (by dsimp only; exact ⟨by omega, by omega, fun h => absurd rfl h, fun _ => len_nil To.out, fun _ => len_nil Tp.out⟩))
  by_cases g1 : 15 < vec.length
  · have gd1 : decide ((15 : Int) < (vec.length : Int)) = true := decide_eq_true (by omega)
    have ge1 : decide (15 < vec.length) = true := decide_eq_true (by omega)
    have Hk := Lib.hid (HL1.out g1)
    go_enter Tryd.func22, Tryd.ntmps22
    go_wp2_with fail
    go_ret
    exact ⟨ret_bool Hk.out.symm, hbf⟩
  have gd1 : decide ((15 : Int) < (vec.length : Int)) = false := decide_eq_false (by omega)
  have ge1 : decide (15 < vec.length) = false := decide_eq_false (by omega)
  by_cases g2 : 16 < wants.length
  · have gd2 : decide ((16 : Int) < (wants.length : Int)) = true := decide_eq_true (by omega)
    have ge2 : decide (16 < wants.length) = true := decide_eq_true (by omega)
    have Hk := Lib.hid (HL2.out g2)
    go_enter Tryd.func22, Tryd.ntmps22
    go_wp2_with fail
    go_ret
    exact ⟨ret_bool Hk.out.symm, hbf⟩
  have gd2 : decide ((16 : Int) < (wants.length : Int)) = false := decide_eq_false (by omega)
  have ge2 : decide (16 < wants.length) = false := decide_eq_false (by omega)
  have g3 : ¬ 20 < ops.length := by have := To.out; omega
  have gd3 : decide ((20 : Int) < (ops.length : Int)) = false := decide_eq_false (by omega)
  have ge3 : decide (20 < ops.length) = false := decide_eq_false (by omega)
  have g4 : ¬ 16 < pcs.length := by have := Tp.out; omega
  have gd4 : decide ((16 : Int) < (pcs.length : Int)) = false := decide_eq_false (by omega)
  have ge4 : decide (16 < pcs.length) = false := decide_eq_false (by omega)
  go_enter Tryd.func22, Tryd.ntmps22
  go_wp2_with fail
  rw [← hW0]
  clear hW0
  go_loop [3] (fun i => ∃ k : Nat, k ≤ vec.length ∧ i = .int .i64 k ∧ Hid (∀ j y, j < k → vec[j]? = some y → numOk y = true)) (fun i => vec.length - (RowKit.intOf i).toNat)
  case atStart => exact ⟨0, Nat.zero_le _, rfl, Lib.hid (fun j _ hj => absurd hj (Nat.not_lt_zero _))⟩
  case round =>
    obtain ⟨k, hk, rfl, Hk⟩ := hrel
    have x1 := hbox.2.2 1 _ rfl
    by_cases hlt : k < vec.length
    · obtain ⟨y, hy⟩ := at_some hlt
      obtain ⟨b1, off, rfl, hbl, c0⟩ := num_at HV.out hy
      have Hy := Lib.hid hy
      have Hno := Lib.hid (fun h => HV1.out y (List.mem_of_getElem? hy) h)
      have HOK := Lib.hid (show numOk y = (decide (0 ≤ y) && decide (y ≤ 1099511627776)) from rfl)
      clear hy
      generalize numOk y = ok at *
      by_cases hneg : y < 0
      · have d1 : decide (y < 0) = true := decide_eq_true hneg
        have Hok := Lib.hid (Hno.out (by rw [HOK.out, decide_eq_false (by omega)]; rfl))
        go_wp2_with fail
        go_ret
        exact ⟨ret_bool Hok.out.symm, hbx⟩
      have d1 : decide (y < 0) = false := decide_eq_false hneg
      by_cases hbig : 1099511627776 < y
      · have d2 : decide (1099511627776 < y) = true := decide_eq_true hbig
        have Hok := Lib.hid (Hno.out (by rw [HOK.out, decide_eq_false (show ¬ y ≤ 1099511627776 by omega)]; simp))
        go_wp2_with fail
        go_ret
        exact ⟨ret_bool Hok.out.symm, hbx⟩
      have d2 : decide (1099511627776 < y) = false := decide_eq_false hbig
      have Hok := Lib.hid (show ok = true by rw [HOK.out, decide_eq_true (by omega), decide_eq_true (by omega)]; rfl)
      go_wp2_with fail
      go_round
      case rel =>
        refine ⟨k + 1, by omega, by go_num, Lib.hid (fun j z hj hz => ?_)⟩
        by_cases e : j = k
        · subst e
          rw [Hy.out] at hz
          cases hz
          exact (HOK.out.symm.trans Hok.out)
        · exact Hk.out j z (by omega) hz
      case measure => simp [RowKit.intOf]; omega
    obtain rfl : k = vec.length := by omega
    have HvA := Lib.hid Hk.out
    clear Hk hk hlt
    go_wp2_with fail
    clear x1
    go_loop [4] (fun i => ∃ k : Nat, k ≤ wants.length ∧ i = .int .i64 k ∧ Hid (∀ j y, j < k → wants[j]? = some y → keyOk y = true)) (fun i => wants.length - (RowKit.intOf i).toNat)
    case atStart => exact ⟨0, Nat.zero_le _, rfl, Lib.hid (fun j _ hj => absurd hj (Nat.not_lt_zero _))⟩
    case round =>
      obtain ⟨k, hk, rfl, Hk⟩ := hrel
      have x2 := hbox.2.2 2 _ rfl
      by_cases hlt : k < wants.length
      · obtain ⟨y, hy⟩ := at_some hlt
        obtain ⟨b1, off, rfl, hbl, c0⟩ := str_at HW.out hy
        have Hy := Lib.hid hy
        have Hno := Lib.hid (fun h => HV2.out y (List.mem_of_getElem? hy) h)
        have HOK := Lib.hid (show keyOk y = (y.size == 32) from rfl)
        clear hy
        generalize keyOk y = ok at *
        by_cases hs : y.size = 32
        · have d1 : ((y.size : Int) != 32) = false := by rw [hs]; rfl
          have Hok := Lib.hid (show ok = true by rw [HOK.out, hs]; rfl)
          go_wp2_with fail
          go_round
          case rel =>
            refine ⟨k + 1, by omega, by go_num, Lib.hid (fun j z hj hz => ?_)⟩
            by_cases e : j = k
            · subst e
              rw [Hy.out] at hz
              cases hz
              exact (HOK.out.symm.trans Hok.out)
            · exact Hk.out j z (by omega) hz
          case measure => simp [RowKit.intOf]; omega
        · have d1 : ((y.size : Int) != 32) = true := by rw [bne_iff_ne]; omega
          have Hok := Lib.hid (Hno.out (by rw [HOK.out, beq_eq_false_iff_ne]; exact hs))
          clear hs
          go_wp2_with fail
          go_ret
          exact ⟨ret_bool Hok.out.symm, hbx⟩
      obtain rfl : k = wants.length := by omega
      have HwA := Lib.hid Hk.out
      clear Hk hk hlt
      go_wp2_with fail
      clear x2
      go_loopw [5] (fun i wr => ∃ k : Nat, k ≤ ops.length ∧ i = .int .i64 k ∧ Hid (∀ j y, j < k → ops[j]? = some y → opOk y = true) ∧ Below W0.heap.size W0 wr) (fun i _ => ops.length - (RowKit.intOf i).toNat)
      case atStart => exact ⟨0, Nat.zero_le _, rfl, Lib.hid (fun j _ hj => absurd hj (Nat.not_lt_zero _)), Below.refl _ _⟩
      case round =>
        obtain ⟨k, hk, rfl, Hk, hb⟩ := hrel
        have hbw := hbox.keeps hb hbox.1
        have x3 := hbw.2.2 3 _ rfl
        have hlt : ¬ k < ops.length := by have := To.out; omega
        obtain rfl : k = ops.length := by omega
        have HoA := Lib.hid Hk.out
        clear Hk hk hlt
        go_wp2_with fail
        clear x3
        have x4 := hbw.2.2 4 _ rfl
        have HC := Lib.hid (HCC.out.keeps hb)
        have hB := hbx.trans (hb.mono hbx.size)
        go_loop [6] (fun i => ∃ k : Nat, k ≤ pcs.length ∧ i = .int .i64 k ∧ Hid (∀ j y, j < k → pcs[j]? = some y → pieceOk y = true)) (fun i => pcs.length - (RowKit.intOf i).toNat)
        case atStart => exact ⟨0, Nat.zero_le _, rfl, Lib.hid (fun j _ hj => absurd hj (Nat.not_lt_zero _))⟩
        case round =>
          obtain ⟨k, hk, rfl, Hk⟩ := hrel
          have hlt : ¬ k < pcs.length := by have := Tp.out; omega
          obtain rfl : k = pcs.length := by omega
          have Hq := Lib.hid (HY.out (HKY.out) g1 g2 g3 g4 HvA.out HwA.out HoA.out Hk.out)
          go_wp2_with fail
          go_ret
          exact ⟨ret_bool Hq.out.symm, hB⟩
end Go.Proofs.YtaimbhphepopmaaDoor

namespace Go.Proofs.YtaimbhphepopmaaDoor
open Go Go.RowKit Go.Lib

set_option maxRecDepth 100000 in
set_option maxHeartbeats 6400000 in
theorem rright_2 (av aw ao ap : Option Addr) (cv cw co cp : Nat) (vec : List Int) (wants : List ByteArray) (ops : List Opr) (pcs : List ByteArray) (w : World) (l1 : vec.length ≤ 100000) (l2 : wants.length ≤ 100000) (l3 : ops.length ≤ 100000) (l4 : pcs.length ≤ 100000) (hos : ∀ x ∈ ops, x.name.size ≤ 100000 ∧ x.man.size ≤ 100000) (hv : RowsAt numLay w av vec) (hw : RowsAt strLay w aw wants) (hp : RowsAt oprLay w ao ops) (hc : RowsAt strLay w ap pcs) :
    Calls Tryd.prog 22 #[.agg #[.int .i64 2, .slice av vec.length cv, .slice aw wants.length cw, .slice ao ops.length co, .slice ap pcs.length cp]] w fun e w' => e = .returned (.bool (rightM ⟨2, vec, wants, ops, pcs⟩)) ∧ Below w.heap.size w w' := by
  have hbx := (Below.refl w.heap.size w).alloc (Nat.le_refl _) (.cells #[.int .i64 2, .slice av vec.length cv, .slice aw wants.length cw, .slice ao ops.length co, .slice ap pcs.length cp] 33)
  have hbox := VarAt.new w #[.int .i64 2, .slice av vec.length cv, .slice aw wants.length cw, .slice ao ops.length co, .slice ap pcs.length cp] 33
  have hbf := hbx
  have hq1 := hv.keeps hbx
  have hq2 := hw.keeps hbx
  have hq3 := hp.keeps hbx
  have hq4 := hc.keeps hbx
  obtain ⟨W0, hW0⟩ : ∃ W0, W0 = w.alloc (.cells #[.int .i64 2, .slice av vec.length cv, .slice aw wants.length cw, .slice ao ops.length co, .slice ap pcs.length cp] 33) := ⟨_, rfl⟩
  rw [← hW0] at hbx hbox hq1 hq2 hq3 hq4
  have HV := Lib.hid hq1
  have HW := Lib.hid hq2
  have HO := Lib.hid hq3
  have HCC := Lib.hid hq4
  clear hq1 hq2 hq3 hq4 hv hw hp hc
  have HN := Lib.hid (right_kind_no (m := ⟨2, vec, wants, ops, pcs⟩))
  have HL1 := Lib.hid (fun h => right_l1 (m := ⟨2, vec, wants, ops, pcs⟩) h)
  have HL2 := Lib.hid (fun h => right_l2 (m := ⟨2, vec, wants, ops, pcs⟩) h)
  have HL3 := Lib.hid (fun h => right_l3 (m := ⟨2, vec, wants, ops, pcs⟩) h)
  have HL4 := Lib.hid (fun h => right_l4 (m := ⟨2, vec, wants, ops, pcs⟩) h)
  have HV1 := Lib.hid (fun x hx h => right_v (m := ⟨2, vec, wants, ops, pcs⟩) (x := x) hx h)
  have HV2 := Lib.hid (fun x hx h => right_w (m := ⟨2, vec, wants, ops, pcs⟩) (x := x) hx h)
  have HV3 := Lib.hid (fun x hx h => right_o (m := ⟨2, vec, wants, ops, pcs⟩) (x := x) hx h)
  have HV4 := Lib.hid (fun x hx h => right_p (m := ⟨2, vec, wants, ops, pcs⟩) (x := x) hx h)
  have HY := Lib.hid (right_yes (m := ⟨2, vec, wants, ops, pcs⟩))
  dsimp only at HN HL1 HL2 HL3 HL4 HV1 HV2 HV3 HV4 HY
  generalize rightM _ = q at *
  by_cases tvw : ¬ (vec.length + wants.length = 0)
  · have hg : 0 < vec.length + wants.length := by omega
    have hgd : decide ((0 : Int) < (vec.length : Int) + (wants.length : Int)) = true := decide_eq_true (by omega)
    have hge : decide (0 < vec.length + wants.length) = true := decide_eq_true (by omega)
    clear tvw
    have Hk := Lib.hid (HN.out (fun h => by have := h.2.2.1 (by omega); have h1 := nil_len this.1; have h2 := nil_len this.2; omega))
    go_enter Tryd.func22, Tryd.ntmps22
    go_wp2_with fail
    go_ret
    exact ⟨ret_bool Hk.out.symm, hbf⟩
  replace tvw : vec.length + wants.length = 0 := Decidable.not_not.1 tvw
  have tdvw : decide ((0 : Int) < (vec.length : Int) + (wants.length : Int)) = false := decide_eq_false (by omega)
  have tevw : decide (0 < vec.length + wants.length) = false := decide_eq_false (by omega)
  have tnvw : ¬ 0 < vec.length + wants.length := by omega
  have Tvw := Lib.hid tvw
  clear tvw
  by_cases tp : ¬ (pcs.length = 0)
  · have hg : 0 < pcs.length := by omega
    have hgd : decide ((0 : Int) < (pcs.length : Int)) = true := decide_eq_true (by omega)
    have hge : decide (0 < pcs.length) = true := decide_eq_true (by omega)
    clear tp
    have Hk := Lib.hid (HN.out (fun h => by have := nil_len (h.2.2.2.2 (by omega)); omega))
    go_enter Tryd.func22, Tryd.ntmps22
    go_wp2_with fail
    go_ret
    exact ⟨ret_bool Hk.out.symm, hbf⟩
  replace tp : pcs.length = 0 := Decidable.not_not.1 tp
  have tdp : decide ((0 : Int) < (pcs.length : Int)) = false := decide_eq_false (by omega)
  have tep : decide (0 < pcs.length) = false := decide_eq_false (by omega)
  have tnp : ¬ 0 < pcs.length := by omega
  have Tp := Lib.hid tp
  clear tp
  have HKY := Lib.hid (kindM_iff (m := ⟨2, vec, wants, ops, pcs⟩) |>.2 (by dsimp only; exact ⟨by omega, by omega, fun _ => ⟨len_nil (by have := Tvw.out; omega), len_nil (by have := Tvw.out; omega)⟩, fun h => absurd rfl h, fun _ => len_nil Tp.out⟩))
  have g1 : ¬ 15 < vec.length := by have := Tvw.out; omega
  have gd1 : decide ((15 : Int) < (vec.length : Int)) = false := decide_eq_false (by omega)
  have ge1 : decide (15 < vec.length) = false := decide_eq_false (by omega)
  have g2 : ¬ 16 < wants.length := by have := Tvw.out; omega
  have gd2 : decide ((16 : Int) < (wants.length : Int)) = false := decide_eq_false (by omega)
  have ge2 : decide (16 < wants.length) = false := decide_eq_false (by omega)
  by_cases g3 : 20 < ops.length
  · have gd3 : decide ((20 : Int) < (ops.length : Int)) = true := decide_eq_true (by omega)
    have ge3 : decide (20 < ops.length) = true := decide_eq_true (by omega)
    have Hk := Lib.hid (HL3.out g3)
    go_enter Tryd.func22, Tryd.ntmps22
    go_wp2_with fail
    go_ret
    exact ⟨ret_bool Hk.out.symm, hbf⟩
  have gd3 : decide ((20 : Int) < (ops.length : Int)) = false := decide_eq_false (by omega)
  have ge3 : decide (20 < ops.length) = false := decide_eq_false (by omega)
  have g4 : ¬ 16 < pcs.length := by have := Tp.out; omega
  have gd4 : decide ((16 : Int) < (pcs.length : Int)) = false := decide_eq_false (by omega)
  have ge4 : decide (16 < pcs.length) = false := decide_eq_false (by omega)
  go_enter Tryd.func22, Tryd.ntmps22
  go_wp2_with fail
  rw [← hW0]
  clear hW0
  go_loop [3] (fun i => ∃ k : Nat, k ≤ vec.length ∧ i = .int .i64 k ∧ Hid (∀ j y, j < k → vec[j]? = some y → numOk y = true)) (fun i => vec.length - (RowKit.intOf i).toNat)
  case atStart => exact ⟨0, Nat.zero_le _, rfl, Lib.hid (fun j _ hj => absurd hj (Nat.not_lt_zero _))⟩
  case round =>
    obtain ⟨k, hk, rfl, Hk⟩ := hrel
    have x1 := hbox.2.2 1 _ rfl
    have hlt : ¬ k < vec.length := by have := Tvw.out; omega
    obtain rfl : k = vec.length := by omega
    have HvA := Lib.hid Hk.out
    clear Hk hk hlt
    go_wp2_with fail
    clear x1
    go_loop [4] (fun i => ∃ k : Nat, k ≤ wants.length ∧ i = .int .i64 k ∧ Hid (∀ j y, j < k → wants[j]? = some y → keyOk y = true)) (fun i => wants.length - (RowKit.intOf i).toNat)
    case atStart => exact ⟨0, Nat.zero_le _, rfl, Lib.hid (fun j _ hj => absurd hj (Nat.not_lt_zero _))⟩
    case round =>
      obtain ⟨k, hk, rfl, Hk⟩ := hrel
      have x2 := hbox.2.2 2 _ rfl
      have hlt : ¬ k < wants.length := by have := Tvw.out; omega
      obtain rfl : k = wants.length := by omega
      have HwA := Lib.hid Hk.out
      clear Hk hk hlt
      go_wp2_with fail
      clear x2
      go_loopw [5] (fun i wr => ∃ k : Nat, k ≤ ops.length ∧ i = .int .i64 k ∧ Hid (∀ j y, j < k → ops[j]? = some y → opOk y = true) ∧ Below W0.heap.size W0 wr) (fun i _ => ops.length - (RowKit.intOf i).toNat)
      case atStart => exact ⟨0, Nat.zero_le _, rfl, Lib.hid (fun j _ hj => absurd hj (Nat.not_lt_zero _)), Below.refl _ _⟩
      case round =>
        obtain ⟨k, hk, rfl, Hk, hb⟩ := hrel
        have hbw := hbox.keeps hb hbox.1
        have x3 := hbw.2.2 3 _ rfl
        by_cases hlt : k < ops.length
        · obtain ⟨y, hy⟩ := at_some hlt
          obtain ⟨b1, off, rfl, hbl, c0, c1, c2, c3, c4, c5, c6, c7, c8, c9, c10⟩ := opr_at (HO.out.keeps hb) hy
          have Hy := Lib.hid hy
          have Hno := Lib.hid (fun h => HV3.out y (List.mem_of_getElem? hy) h)
          have HOK := Lib.hid (show opOk y = (rightO y == 0) from rfl)
          have HRR := Lib.hid fun W => roright_any y W (hos y (List.mem_of_getElem? hy)).1 (hos y (List.mem_of_getElem? hy)).2
          clear hy
          have HY1 := Lib.hid (fun h : rightO y = 0 => (show opOk y = true by rw [HOK.out, h]; rfl))
          generalize rightO y = ro at *
          by_cases hs : ro = 0
          · have Hok := Lib.hid (HY1.out hs)
            subst hs
            go_wp2_with fail
            refine (HRR.out _).mono ?_
            rintro e w2 ⟨rfl, hb2⟩
            go_wp2_with fail
            go_roundw
            case rel =>
              refine ⟨k + 1, by omega, by go_num, Lib.hid (fun j z hj hz => ?_), hb.trans (hb2.mono hb.size)⟩
              by_cases e : j = k
              · subst e
                rw [Hy.out] at hz
                cases hz
                exact Hok.out
              · exact Hk.out j z (by omega) hz
            case measure => simp [RowKit.intOf]; omega
          · have d1 : (ro != 0) = true := by rw [bne_iff_ne]; exact hs
            have Hok := Lib.hid (Hno.out (by rw [HOK.out, beq_eq_false_iff_ne]; exact hs))
            clear hs
            go_wp2_with fail
            refine (HRR.out _).mono ?_
            rintro e w2 ⟨rfl, hb2⟩
            go_wp2_with fail
            go_ret
            exact ⟨ret_bool Hok.out.symm, hbx.trans ((hb.trans (hb2.mono hb.size)).mono hbx.size)⟩
        obtain rfl : k = ops.length := by omega
        have HoA := Lib.hid Hk.out
        clear Hk hk hlt
        go_wp2_with fail
        clear x3
        have x4 := hbw.2.2 4 _ rfl
        have HC := Lib.hid (HCC.out.keeps hb)
        have hB := hbx.trans (hb.mono hbx.size)
        go_loop [6] (fun i => ∃ k : Nat, k ≤ pcs.length ∧ i = .int .i64 k ∧ Hid (∀ j y, j < k → pcs[j]? = some y → pieceOk y = true)) (fun i => pcs.length - (RowKit.intOf i).toNat)
        case atStart => exact ⟨0, Nat.zero_le _, rfl, Lib.hid (fun j _ hj => absurd hj (Nat.not_lt_zero _))⟩
        case round =>
          obtain ⟨k, hk, rfl, Hk⟩ := hrel
          have hlt : ¬ k < pcs.length := by have := Tp.out; omega
          obtain rfl : k = pcs.length := by omega
          have Hq := Lib.hid (HY.out (HKY.out) g1 g2 g3 g4 HvA.out HwA.out HoA.out Hk.out)
          go_wp2_with fail
          go_ret
          exact ⟨ret_bool Hq.out.symm, hB⟩
end Go.Proofs.YtaimbhphepopmaaDoor

namespace Go.Proofs.YtaimbhphepopmaaDoor
open Go Go.RowKit Go.Lib

set_option maxRecDepth 100000 in
set_option maxHeartbeats 6400000 in
theorem rright_3 (av aw ao ap : Option Addr) (cv cw co cp : Nat) (vec : List Int) (wants : List ByteArray) (ops : List Opr) (pcs : List ByteArray) (w : World) (l1 : vec.length ≤ 100000) (l2 : wants.length ≤ 100000) (l3 : ops.length ≤ 100000) (l4 : pcs.length ≤ 100000) (_hos : ∀ x ∈ ops, x.name.size ≤ 100000 ∧ x.man.size ≤ 100000) (hv : RowsAt numLay w av vec) (hw : RowsAt strLay w aw wants) (hp : RowsAt oprLay w ao ops) (hc : RowsAt strLay w ap pcs) :
    Calls Tryd.prog 22 #[.agg #[.int .i64 3, .slice av vec.length cv, .slice aw wants.length cw, .slice ao ops.length co, .slice ap pcs.length cp]] w fun e w' => e = .returned (.bool (rightM ⟨3, vec, wants, ops, pcs⟩)) ∧ Below w.heap.size w w' := by
  have hbx := (Below.refl w.heap.size w).alloc (Nat.le_refl _) (.cells #[.int .i64 3, .slice av vec.length cv, .slice aw wants.length cw, .slice ao ops.length co, .slice ap pcs.length cp] 33)
  have hbox := VarAt.new w #[.int .i64 3, .slice av vec.length cv, .slice aw wants.length cw, .slice ao ops.length co, .slice ap pcs.length cp] 33
  have hbf := hbx
  have hq1 := hv.keeps hbx
  have hq2 := hw.keeps hbx
  have hq3 := hp.keeps hbx
  have hq4 := hc.keeps hbx
  obtain ⟨W0, hW0⟩ : ∃ W0, W0 = w.alloc (.cells #[.int .i64 3, .slice av vec.length cv, .slice aw wants.length cw, .slice ao ops.length co, .slice ap pcs.length cp] 33) := ⟨_, rfl⟩
  rw [← hW0] at hbx hbox hq1 hq2 hq3 hq4
  have HV := Lib.hid hq1
  have HW := Lib.hid hq2
  have HO := Lib.hid hq3
  have HCC := Lib.hid hq4
  clear hq1 hq2 hq3 hq4 hv hw hp hc
  have HN := Lib.hid (right_kind_no (m := ⟨3, vec, wants, ops, pcs⟩))
  have HL1 := Lib.hid (fun h => right_l1 (m := ⟨3, vec, wants, ops, pcs⟩) h)
  have HL2 := Lib.hid (fun h => right_l2 (m := ⟨3, vec, wants, ops, pcs⟩) h)
  have HL3 := Lib.hid (fun h => right_l3 (m := ⟨3, vec, wants, ops, pcs⟩) h)
  have HL4 := Lib.hid (fun h => right_l4 (m := ⟨3, vec, wants, ops, pcs⟩) h)
  have HV1 := Lib.hid (fun x hx h => right_v (m := ⟨3, vec, wants, ops, pcs⟩) (x := x) hx h)
  have HV2 := Lib.hid (fun x hx h => right_w (m := ⟨3, vec, wants, ops, pcs⟩) (x := x) hx h)
  have HV3 := Lib.hid (fun x hx h => right_o (m := ⟨3, vec, wants, ops, pcs⟩) (x := x) hx h)
  have HV4 := Lib.hid (fun x hx h => right_p (m := ⟨3, vec, wants, ops, pcs⟩) (x := x) hx h)
  have HY := Lib.hid (right_yes (m := ⟨3, vec, wants, ops, pcs⟩))
  dsimp only at HN HL1 HL2 HL3 HL4 HV1 HV2 HV3 HV4 HY
  generalize rightM _ = q at *
  by_cases tvw : ¬ (vec.length + wants.length = 0)
  · have hg : 0 < vec.length + wants.length := by omega
    have hgd : decide ((0 : Int) < (vec.length : Int) + (wants.length : Int)) = true := decide_eq_true (by omega)
    have hge : decide (0 < vec.length + wants.length) = true := decide_eq_true (by omega)
    clear tvw
    have Hk := Lib.hid (HN.out (fun h => by have := h.2.2.1 (by omega); have h1 := nil_len this.1; have h2 := nil_len this.2; omega))
    go_enter Tryd.func22, Tryd.ntmps22
    go_wp2_with fail
    go_ret
    exact ⟨ret_bool Hk.out.symm, hbf⟩
  replace tvw : vec.length + wants.length = 0 := Decidable.not_not.1 tvw
  have tdvw : decide ((0 : Int) < (vec.length : Int) + (wants.length : Int)) = false := decide_eq_false (by omega)
  have tevw : decide (0 < vec.length + wants.length) = false := decide_eq_false (by omega)
  have tnvw : ¬ 0 < vec.length + wants.length := by omega
  have Tvw := Lib.hid tvw
  clear tvw
  by_cases to : ¬ (ops.length = 0)
  · have hg : 0 < ops.length := by omega
    have hgd : decide ((0 : Int) < (ops.length : Int)) = true := decide_eq_true (by omega)
    have hge : decide (0 < ops.length) = true := decide_eq_true (by omega)
    clear to
    have Hk := Lib.hid (HN.out (fun h => by have := nil_len (h.2.2.2.1 (by omega)); omega))
    go_enter Tryd.func22, Tryd.ntmps22
    go_wp2_with fail
    go_ret
    exact ⟨ret_bool Hk.out.symm, hbf⟩
  replace to : ops.length = 0 := Decidable.not_not.1 to
  have tdo : decide ((0 : Int) < (ops.length : Int)) = false := decide_eq_false (by omega)
  have teo : decide (0 < ops.length) = false := decide_eq_false (by omega)
  have tno : ¬ 0 < ops.length := by omega
  have To := Lib.hid to
  clear to
  have HKY := Lib.hid (kindM_iff (m := ⟨3, vec, wants, ops, pcs⟩) |>.2 (by dsimp only; exact ⟨by omega, by omega, fun _ => ⟨len_nil (by have := Tvw.out; omega), len_nil (by have := Tvw.out; omega)⟩, fun _ => len_nil To.out, fun h => absurd rfl h⟩))
  have g1 : ¬ 15 < vec.length := by have := Tvw.out; omega
  have gd1 : decide ((15 : Int) < (vec.length : Int)) = false := decide_eq_false (by omega)
  have ge1 : decide (15 < vec.length) = false := decide_eq_false (by omega)
  have g2 : ¬ 16 < wants.length := by have := Tvw.out; omega
  have gd2 : decide ((16 : Int) < (wants.length : Int)) = false := decide_eq_false (by omega)
  have ge2 : decide (16 < wants.length) = false := decide_eq_false (by omega)
  have g3 : ¬ 20 < ops.length := by have := To.out; omega
  have gd3 : decide ((20 : Int) < (ops.length : Int)) = false := decide_eq_false (by omega)
  have ge3 : decide (20 < ops.length) = false := decide_eq_false (by omega)
  by_cases g4 : 16 < pcs.length
  · have gd4 : decide ((16 : Int) < (pcs.length : Int)) = true := decide_eq_true (by omega)
    have ge4 : decide (16 < pcs.length) = true := decide_eq_true (by omega)
    have Hk := Lib.hid (HL4.out g4)
    go_enter Tryd.func22, Tryd.ntmps22
    go_wp2_with fail
    go_ret
    exact ⟨ret_bool Hk.out.symm, hbf⟩
  have gd4 : decide ((16 : Int) < (pcs.length : Int)) = false := decide_eq_false (by omega)
  have ge4 : decide (16 < pcs.length) = false := decide_eq_false (by omega)
  go_enter Tryd.func22, Tryd.ntmps22
  go_wp2_with fail
  rw [← hW0]
  clear hW0
  go_loop [3] (fun i => ∃ k : Nat, k ≤ vec.length ∧ i = .int .i64 k ∧ Hid (∀ j y, j < k → vec[j]? = some y → numOk y = true)) (fun i => vec.length - (RowKit.intOf i).toNat)
  case atStart => exact ⟨0, Nat.zero_le _, rfl, Lib.hid (fun j _ hj => absurd hj (Nat.not_lt_zero _))⟩
  case round =>
    obtain ⟨k, hk, rfl, Hk⟩ := hrel
    have x1 := hbox.2.2 1 _ rfl
    have hlt : ¬ k < vec.length := by have := Tvw.out; omega
    obtain rfl : k = vec.length := by omega
    have HvA := Lib.hid Hk.out
    clear Hk hk hlt
    go_wp2_with fail
    clear x1
    go_loop [4] (fun i => ∃ k : Nat, k ≤ wants.length ∧ i = .int .i64 k ∧ Hid (∀ j y, j < k → wants[j]? = some y → keyOk y = true)) (fun i => wants.length - (RowKit.intOf i).toNat)
    case atStart => exact ⟨0, Nat.zero_le _, rfl, Lib.hid (fun j _ hj => absurd hj (Nat.not_lt_zero _))⟩
    case round =>
      obtain ⟨k, hk, rfl, Hk⟩ := hrel
      have x2 := hbox.2.2 2 _ rfl
      have hlt : ¬ k < wants.length := by have := Tvw.out; omega
      obtain rfl : k = wants.length := by omega
      have HwA := Lib.hid Hk.out
      clear Hk hk hlt
      go_wp2_with fail
      clear x2
      go_loopw [5] (fun i wr => ∃ k : Nat, k ≤ ops.length ∧ i = .int .i64 k ∧ Hid (∀ j y, j < k → ops[j]? = some y → opOk y = true) ∧ Below W0.heap.size W0 wr) (fun i _ => ops.length - (RowKit.intOf i).toNat)
      case atStart => exact ⟨0, Nat.zero_le _, rfl, Lib.hid (fun j _ hj => absurd hj (Nat.not_lt_zero _)), Below.refl _ _⟩
      case round =>
        obtain ⟨k, hk, rfl, Hk, hb⟩ := hrel
        have hbw := hbox.keeps hb hbox.1
        have x3 := hbw.2.2 3 _ rfl
        have hlt : ¬ k < ops.length := by have := To.out; omega
        obtain rfl : k = ops.length := by omega
        have HoA := Lib.hid Hk.out
        clear Hk hk hlt
        go_wp2_with fail
        clear x3
        have x4 := hbw.2.2 4 _ rfl
        have HC := Lib.hid (HCC.out.keeps hb)
        have hB := hbx.trans (hb.mono hbx.size)
        go_loop [6] (fun i => ∃ k : Nat, k ≤ pcs.length ∧ i = .int .i64 k ∧ Hid (∀ j y, j < k → pcs[j]? = some y → pieceOk y = true)) (fun i => pcs.length - (RowKit.intOf i).toNat)
        case atStart => exact ⟨0, Nat.zero_le _, rfl, Lib.hid (fun j _ hj => absurd hj (Nat.not_lt_zero _))⟩
        case round =>
          obtain ⟨k, hk, rfl, Hk⟩ := hrel
          by_cases hlt : k < pcs.length
          · obtain ⟨y, hy⟩ := at_some hlt
            obtain ⟨b1, off, rfl, hbl, c0⟩ := str_at HC.out hy
            have Hy := Lib.hid hy
            have Hno := Lib.hid (fun h => HV4.out y (List.mem_of_getElem? hy) h)
            have HOK := Lib.hid (show pieceOk y = (decide (1 ≤ y.size) && decide (y.size ≤ 256)) from rfl)
            clear hy
            generalize pieceOk y = ok at *
            by_cases hneg : y.size < 1
            · have d1 : decide ((y.size : Int) < 1) = true := decide_eq_true (by omega)
              have d1' : decide (y.size < 1) = true := decide_eq_true (by omega)
              have Hok := Lib.hid (Hno.out (by rw [HOK.out, decide_eq_false (by omega)]; rfl))
              go_wp2_with fail
              go_ret
              exact ⟨ret_bool Hok.out.symm, hB⟩
            have d1 : decide ((y.size : Int) < 1) = false := decide_eq_false (by omega)
            have d1' : decide (y.size < 1) = false := decide_eq_false (by omega)
            by_cases hbig : 256 < y.size
            · have d2 : decide ((256 : Int) < (y.size : Int)) = true := decide_eq_true (by omega)
              have d2' : decide (256 < y.size) = true := decide_eq_true (by omega)
              have Hok := Lib.hid (Hno.out (by rw [HOK.out, decide_eq_false (show ¬ y.size ≤ 256 by omega)]; simp))
              go_wp2_with fail
              go_ret
              exact ⟨ret_bool Hok.out.symm, hB⟩
            have d2 : decide ((256 : Int) < (y.size : Int)) = false := decide_eq_false (by omega)
            have d2' : decide (256 < y.size) = false := decide_eq_false (by omega)
            have Hok := Lib.hid (show ok = true by rw [HOK.out, decide_eq_true (by omega), decide_eq_true (by omega)]; rfl)
            go_wp2_with fail
            go_round
            case rel =>
              refine ⟨k + 1, by omega, by go_num, Lib.hid (fun j z hj hz => ?_)⟩
              by_cases e : j = k
              · subst e
                rw [Hy.out] at hz
                cases hz
                exact (HOK.out.symm.trans Hok.out)
              · exact Hk.out j z (by omega) hz
            case measure => simp [RowKit.intOf]; omega
          obtain rfl : k = pcs.length := by omega
          have Hq := Lib.hid (HY.out (HKY.out) g1 g2 g3 g4 HvA.out HwA.out HoA.out Hk.out)
          go_wp2_with fail
          go_ret
          exact ⟨ret_bool Hq.out.symm, hB⟩
end Go.Proofs.YtaimbhphepopmaaDoor

namespace Go.Proofs.YtaimbhphepopmaaDoor
open Go Go.RowKit Go.Lib
set_option maxRecDepth 100000 in
set_option maxHeartbeats 3200000 in
theorem rmright_any (kind : Int) (av aw ao ap : Option Addr) (cv cw co cp : Nat) (vec : List Int) (wants : List ByteArray) (ops : List Opr) (pcs : List ByteArray) (w : World) (l1 : vec.length ≤ 100000) (l2 : wants.length ≤ 100000) (l3 : ops.length ≤ 100000) (l4 : pcs.length ≤ 100000) (hos : ∀ x ∈ ops, x.name.size ≤ 100000 ∧ x.man.size ≤ 100000) (hv : RowsAt numLay w av vec) (hw : RowsAt strLay w aw wants) (hp : RowsAt oprLay w ao ops) (hc : RowsAt strLay w ap pcs) :
    Calls Tryd.prog 22 #[.agg #[.int .i64 kind, .slice av vec.length cv, .slice aw wants.length cw, .slice ao ops.length co, .slice ap pcs.length cp]] w fun e w' => e = .returned (.bool (rightM ⟨kind, vec, wants, ops, pcs⟩)) ∧ Below w.heap.size w w' := by
  have k : kind < 1 ∨ 3 < kind ∨ kind = 1 ∨ kind = 2 ∨ kind = 3 := by omega
  rcases k with k1 | k1 | rfl | rfl | rfl
  · have hbx := (Below.refl w.heap.size w).alloc (Nat.le_refl _) (.cells #[.int .i64 kind, .slice av vec.length cv, .slice aw wants.length cw, .slice ao ops.length co, .slice ap pcs.length cp] 33)
    have Hk := Lib.hid (right_kind_no (m := ⟨kind, vec, wants, ops, pcs⟩) (fun h => by have := h.1; dsimp only at this; omega))
    have d1 : decide (kind < 1) = true := decide_eq_true k1
    generalize rightM _ = q at *
    go_enter Tryd.func22, Tryd.ntmps22
    go_wp2_with fail
    go_ret
    exact ⟨ret_bool Hk.out.symm, hbx⟩
  · have hbx := (Below.refl w.heap.size w).alloc (Nat.le_refl _) (.cells #[.int .i64 kind, .slice av vec.length cv, .slice aw wants.length cw, .slice ao ops.length co, .slice ap pcs.length cp] 33)
    have Hk := Lib.hid (right_kind_no (m := ⟨kind, vec, wants, ops, pcs⟩) (fun h => by have := h.2.1; dsimp only at this; omega))
    have d1 : decide (kind < 1) = false := decide_eq_false (by omega)
    have d2 : decide (3 < kind) = true := decide_eq_true k1
    generalize rightM _ = q at *
    go_enter Tryd.func22, Tryd.ntmps22
    go_wp2_with fail
    go_ret
    exact ⟨ret_bool Hk.out.symm, hbx⟩
  · exact rright_1 av aw ao ap cv cw co cp vec wants ops pcs w l1 l2 l3 l4 hos hv hw hp hc
  · exact rright_2 av aw ao ap cv cw co cp vec wants ops pcs w l1 l2 l3 l4 hos hv hw hp hc
  · exact rright_3 av aw ao ap cv cw co cp vec wants ops pcs w l1 l2 l3 l4 hos hv hw hp hc
end Go.Proofs.YtaimbhphepopmaaDoor

