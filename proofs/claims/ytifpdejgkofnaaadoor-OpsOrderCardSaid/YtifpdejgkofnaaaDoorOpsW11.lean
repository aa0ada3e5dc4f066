import Derived.Test.YtifpdejgkofnaaaDoorOpsW5
import Derived.Test.YtifpdejgkofnaaaDoorCells
namespace Go.Proofs.YtifpdejgkofnaaaDoor
open Go Go.RowKit Go.Lib

theorem any_take {α : Type} {l : List α} {k : Nat} {y : α} (h : l[k]? = some y) (p : α → Bool) : (l.take (k + 1)).any p = ((l.take k).any p || p y) := by
  rw [List.take_add_one, h, List.any_append]
  simp
theorem any_all {α : Type} {l : List α} {k : Nat} (hk : ¬ k < l.length) (p : α → Bool) : (l.take k).any p = l.any p := by rw [List.take_of_length_le (by omega)]
theorem any_hit {α : Type} {l : List α} {k : Nat} {y : α} (h : l[k]? = some y) {p : α → Bool} (hp : p y = true) : l.any p = true := List.any_eq_true.2 ⟨y, List.mem_of_getElem? h, hp⟩
theorem any_none {α : Type} {l : List α} {p : α → Bool} (h : ∀ j y, j < l.length → l[j]? = some y → p y = false) : l.any p = false := by
  rw [List.any_eq_false]
  intro y hy
  obtain ⟨j, hj, e⟩ := List.mem_iff_getElem.1 hy
  rw [h j y hj (by rw [List.getElem?_eq_getElem hj, e])]
  simp

/-! ### slices.Index, slices.Contains -/
/-- Where the first of such elements stands; -1: nowhere. -/
def idxO (l : List Opr) (x : Opr) : Int := if l.any (fun y => decide (y = x)) then (l.findIdx (fun y => decide (y = x)) : Nat) else -1

/-! ### Why an operation does not go with others -/
def twiceB (x y : Opr) : Bool := decide ((⟨y.cnt, y.who⟩ : Stp) = ⟨x.cnt, x.who⟩) || (y.who == x.who && y.seq == x.seq)
def aheadB (x y : Opr) : Bool := y.who == x.who && y.seq == x.seq - 1
def lateB (x y : Opr) : Bool := y.who == x.who && ((y.seq == x.seq - 1 && !lessC y.cnt y.who x.cnt x.who) || (decide (x.seq < y.seq) && !lessC x.cnt x.who y.cnt y.who))
def fitsO (l : List Opr) (x : Opr) : Int := if l.any (twiceB x) then 24 else if (x.seq == 1 || l.any (aheadB x)) = false then 26 else if l.any (lateB x) then 20 else 0
def gapO (b : Bool) : Int := if b then 0 else 26
theorem box_VarAt (W : World) (x : Opr) : VarAt (W.alloc (.cells #[.int .i64 x.cnt, .int .i64 x.who, .int .i64 x.seq, .int .i64 x.kind, .int .i64 x.nc, .int .i64 x.nw, .bool x.dir, .int .i64 x.pc, .int .i64 x.pw, .string x.name, .string x.man] 25)) W.heap.size x.cells := VarAt.new W _ _

set_option maxRecDepth 100000 in
set_option maxHeartbeats 6400000 in
theorem fits_any (a : Option Addr) (cap : Nat) (l : List Opr) (x : Opr) (w : World) (hl : l.length ≤ 140737488351232) (hs1 : 1 ≤ x.seq) (hs2 : x.seq ≤ 1099511627776) (ha : RowsAt oprLay w a l) :
    Calls Tryd.prog 45 #[.slice a l.length cap, .agg #[.int .i64 x.cnt, .int .i64 x.who, .int .i64 x.seq, .int .i64 x.kind, .int .i64 x.nc, .int .i64 x.nw, .bool x.dir, .int .i64 x.pc, .int .i64 x.pw, .string x.name, .string x.man]] w fun e w' => e = .returned (.int .i64 (fitsO l x)) ∧ Below w.heap.size w w' := by
  obtain ⟨WX, hWX⟩ : ∃ WX, WX = w.alloc (.cells #[.int .i64 x.cnt, .int .i64 x.who, .int .i64 x.seq, .int .i64 x.kind, .int .i64 x.nc, .int .i64 x.nw, .bool x.dir, .int .i64 x.pc, .int .i64 x.pw, .string x.name, .string x.man] 25) := ⟨_, rfl⟩
  have hbx : Below w.heap.size w WX := by rw [hWX]; exact (Below.refl _ _).alloc (Nat.le_refl _) _
  have hX : VarAt WX w.heap.size x.cells := by rw [hWX]; exact box_VarAt w x
  have HA := Lib.hid (ha.keeps hbx)
  have HL1 := Lib.hid fun (y : Opr) W => cless_any y.cnt y.who x.cnt x.who W
  have HL2 := Lib.hid fun (y : Opr) W => cless_any x.cnt x.who y.cnt y.who W
  have HF := Lib.hid (show fitsO l x = if l.any (twiceB x) then 24 else if (x.seq == 1 || l.any (aheadB x)) = false then 26 else if l.any (lateB x) then 20 else 0 from rfl)
  have HT := Lib.hid (show ∀ y, twiceB x y = (decide ((⟨y.cnt, y.who⟩ : Stp) = ⟨x.cnt, x.who⟩) || (y.who == x.who && y.seq == x.seq)) from fun _ => rfl)
  have HH := Lib.hid (show ∀ y, aheadB x y = (y.who == x.who && y.seq == x.seq - 1) from fun _ => rfl)
  have HLt := Lib.hid (show ∀ y, lateB x y = (y.who == x.who && ((y.seq == x.seq - 1 && !lessC y.cnt y.who x.cnt x.who) || (decide (x.seq < y.seq) && !lessC x.cnt x.who y.cnt y.who))) from fun _ => rfl)
  generalize fitsO l x = fo at *
  generalize hta : twiceB x = tB at *
  generalize haa : aheadB x = aB at *
  generalize hla : lateB x = lB at *
  clear hta haa hla ha
  have hx0 := hX.2.2 0 _ rfl
  have hx1 := hX.2.2 1 _ rfl
  have hx2 := hX.2.2 2 _ rfl
  obtain ⟨s1, hs1e⟩ : ∃ s1, s1 = (x.seq == 1) := ⟨_, rfl⟩
  have Hs1 := Lib.hid hs1e.symm
  rw [← hs1e] at HF
  cases s1
  all_goals
    replace hs1e := hs1e.symm
    go_enter Tryd.func45, Tryd.ntmps45
    go_wp2_with fail
    rw [← hWX]
    go_loopw [5, 6, 15] (fun e lt i wr => ∃ k : Nat, k ≤ l.length ∧ e = .int .i64 (gapO (x.seq == 1 || (l.take k).any aB)) ∧ lt = .bool ((l.take k).any lB) ∧ i = .int .i64 k ∧ Hid (∀ j y, j < k → l[j]? = some y → tB y = false) ∧ Below WX.heap.size WX wr) (fun _ _ i _ => l.length - (RowKit.intOf i).toNat)
    case atStart => exact ⟨0, Nat.zero_le _, by simp [gapO, hs1e], by simp, rfl, Lib.hid (fun j _ hj => absurd hj (Nat.not_lt_zero _)), Below.refl _ _⟩
    case round =>
      obtain ⟨k, hk, rfl, rfl, rfl, Hk, hb⟩ := hrel
      have hbw := hbx.trans (hb.mono hbx.size)
      by_cases hlt : k < l.length
      · obtain ⟨y, hy⟩ := at_some hlt
        have hX1 := hX.keeps hb hX.1
        obtain ⟨b, off, rfl, hbl, c0, c1, c2, c3, c4, c5, c6, c7, c8, c9, c10⟩ := opr_at (HA.out.keeps hb) hy
        have Hy := Lib.hid hy
        have hY := box_VarAt wr y
        have hX2 := hX1.keeps ((Below.refl _ _).alloc (Nat.le_refl _) (.cells #[.int .i64 y.cnt, .int .i64 y.who, .int .i64 y.seq, .int .i64 y.kind, .int .i64 y.nc, .int .i64 y.nw, .bool y.dir, .int .i64 y.pc, .int .i64 y.pw, .string y.name, .string y.man] 25)) hX1.1
        have hbY : Below WX.heap.size WX (wr.alloc (.cells #[.int .i64 y.cnt, .int .i64 y.who, .int .i64 y.seq, .int .i64 y.kind, .int .i64 y.nc, .int .i64 y.nw, .bool y.dir, .int .i64 y.pc, .int .i64 y.pw, .string y.name, .string y.man] 25)) := hb.alloc hb.size _
        have hbW : Below w.heap.size w (wr.alloc (.cells #[.int .i64 y.cnt, .int .i64 y.who, .int .i64 y.seq, .int .i64 y.kind, .int .i64 y.nc, .int .i64 y.nw, .bool y.dir, .int .i64 y.pc, .int .i64 y.pw, .string y.name, .string y.man] 25)) := hbx.trans (hbY.mono hbx.size)
        obtain ⟨WY, hWY⟩ : ∃ WY, WY = wr.alloc (.cells #[.int .i64 y.cnt, .int .i64 y.who, .int .i64 y.seq, .int .i64 y.kind, .int .i64 y.nc, .int .i64 y.nw, .bool y.dir, .int .i64 y.pc, .int .i64 y.pw, .string y.name, .string y.man] 25) := ⟨_, rfl⟩
        have heq := eqlStp ⟨y.cnt, y.who⟩ ⟨x.cnt, x.who⟩
        dsimp only at heq
        obtain ⟨st, hst⟩ : ∃ st, decide ((⟨y.cnt, y.who⟩ : Stp) = ⟨x.cnt, x.who⟩) = st := ⟨_, rfl⟩
        obtain ⟨ow, how⟩ : ∃ ow, (y.who == x.who) = ow := ⟨_, rfl⟩
        obtain ⟨sq, hsq⟩ : ∃ sq, (y.seq == x.seq) = sq := ⟨_, rfl⟩
        obtain ⟨pv, hpv⟩ : ∃ pv, (y.seq == x.seq - 1) = pv := ⟨_, rfl⟩
        obtain ⟨gt, hgt⟩ : ∃ gt, decide (x.seq < y.seq) = gt := ⟨_, rfl⟩
        obtain ⟨l1, hl1⟩ : ∃ l1, lessC y.cnt y.who x.cnt x.who = l1 := ⟨_, rfl⟩
        obtain ⟨l2, hl2⟩ : ∃ l2, lessC x.cnt x.who y.cnt y.who = l2 := ⟨_, rfl⟩
        obtain ⟨late, hlate⟩ : ∃ late, (l.take k).any lB = late := ⟨_, rfl⟩
        rw [hst] at heq
        have Hst := Lib.hid hst
        have Ho := Lib.hid how
        have Ht := Lib.hid hsq
        have Hp := Lib.hid hpv
        have Hg := Lib.hid hgt
        have Hl1 := Lib.hid hl1
        have Hl2 := Lib.hid hl2
        have Hlate := Lib.hid hlate
        rw [hlate]
        have HLtY := Lib.hid (show lB y = (y.who == x.who && ((y.seq == x.seq - 1 && !l1) || (decide (x.seq < y.seq) && !l2))) by rw [HLt.out, hl1, hl2])
        clear hl1 hl2 hlate hst
        have g0 := hX2.2.2 0 _ rfl
        have g1 := hX2.2.2 1 _ rfl
        have g2 := hX2.2.2 2 _ rfl
        have k0 := hX1.2.2 0 _ rfl
        have k1 := hX1.2.2 1 _ rfl
        have k2 := hX1.2.2 2 _ rfl
        have hne : w.heap.size < wr.heap.size := hX1.1
        cases st with
        | true =>
          clear how hsq hpv hgt
          have HtE := Lib.hid (show tB y = true by rw [HT.out, Hst.out, Ho.out, Ht.out]; first | rfl | simp)
          go_wp2_with fail
          go_ret
          exact ⟨ret_int (by rw [HF.out, if_pos (any_hit Hy.out HtE.out)]), hbW⟩
        | false =>
          cases ow with
          | false =>
            clear hsq hpv hgt
            have HtE := Lib.hid (show tB y = false by rw [HT.out, Hst.out, Ho.out, Ht.out]; rfl)
            have HaE := Lib.hid (show aB y = false by rw [HH.out, Ho.out, Hp.out]; rfl)
            have HlE := Lib.hid (show lB y = false by rw [HLtY.out, Ho.out, Hp.out, Hg.out]; first | rfl | simp)
            go_wp2_with fail
            go_roundw
            case rel =>
              refine ⟨k + 1, by omega, ?_, ?_, by go_num, fun j z hj hz => ?_, hbY⟩
              · rw [any_take Hy.out, HaE.out]; first | rfl | (simp [gapO]; done) | (have h1 := hs1e; simp at h1; simp [gapO, h1])
              · rw [any_take Hy.out, HlE.out, Hlate.out]; first | rfl | simp
              · by_cases e : j = k
                · subst e; rw [Hy.out] at hz; cases hz; exact HtE.out
                · exact Hk.out j z (by omega) hz
            case measure => simp [RowKit.intOf]; omega
          | true =>
            cases sq with
            | true =>
              clear hpv hgt
              have HtE := Lib.hid (show tB y = true by rw [HT.out, Hst.out, Ho.out, Ht.out]; first | rfl | simp)
              go_wp2_with fail
              go_ret
              exact ⟨ret_int (by rw [HF.out, if_pos (any_hit Hy.out HtE.out)]), hbW⟩
            | false =>
              cases pv with
              | true =>
                have hgf : decide (x.seq < y.seq) = false := by
                  have := Hp.out
                  rw [beq_iff_eq] at this
                  simp; omega
                rw [hgt] at hgf
                subst hgf
                have HtE := Lib.hid (show tB y = false by rw [HT.out, Hst.out, Ho.out, Ht.out]; rfl)
                have HaE := Lib.hid (show aB y = true by rw [HH.out, Ho.out, Hp.out]; rfl)
                have HlE := Lib.hid (show lB y = !l1 by rw [HLtY.out, Ho.out, Hp.out, Hg.out]; first | rfl | simp)
                cases late with
                | true =>
                  go_wp2_with fail
                  go_roundw
                  case rel =>
                    refine ⟨k + 1, by omega, ?_, ?_, by go_num, fun j z hj hz => ?_, hbY⟩
                    · rw [any_take Hy.out, HaE.out]; first | rfl | (simp [gapO]; done) | (have h1 := hs1e; simp at h1; simp [gapO, h1])
                    · rw [any_take Hy.out, HlE.out, Hlate.out]; first | rfl | simp
                    · by_cases e : j = k
                      · subst e; rw [Hy.out] at hz; cases hz; exact HtE.out
                      · exact Hk.out j z (by omega) hz
                  case measure => simp [RowKit.intOf]; omega
                | false =>
                  go_wp2_with fail
                  refine (HL1.out y _).mono ?_
                  rintro e w2 ⟨rfl, hb2⟩
                  rw [Hl1.out]
                  have hb3 := hbY.trans (hb2.mono hbY.size)
                  go_wp2_with fail
                  go_roundw
                  case rel =>
                    refine ⟨k + 1, by omega, ?_, ?_, by go_num, fun j z hj hz => ?_, hb3⟩
                    · rw [any_take Hy.out, HaE.out]; first | rfl | (simp [gapO]; done) | (have h1 := hs1e; simp at h1; simp [gapO, h1])
                    · rw [any_take Hy.out, HlE.out, Hlate.out]; first | rfl | simp
                    · by_cases e : j = k
                      · subst e; rw [Hy.out] at hz; cases hz; exact HtE.out
                      · exact Hk.out j z (by omega) hz
                  case measure => simp [RowKit.intOf]; omega
              | false =>
                cases gt with
                | false =>
                  have HtE := Lib.hid (show tB y = false by rw [HT.out, Hst.out, Ho.out, Ht.out]; rfl)
                  have HaE := Lib.hid (show aB y = false by rw [HH.out, Ho.out, Hp.out]; rfl)
                  have HlE := Lib.hid (show lB y = false by rw [HLtY.out, Ho.out, Hp.out, Hg.out]; first | rfl | simp)
                  go_wp2_with fail
                  go_roundw
                  case rel =>
                    refine ⟨k + 1, by omega, ?_, ?_, by go_num, fun j z hj hz => ?_, hbY⟩
                    · rw [any_take Hy.out, HaE.out]; first | rfl | (simp [gapO]; done) | (have h1 := hs1e; simp at h1; simp [gapO, h1])
                    · rw [any_take Hy.out, HlE.out, Hlate.out]; first | rfl | simp
                    · by_cases e : j = k
                      · subst e; rw [Hy.out] at hz; cases hz; exact HtE.out
                      · exact Hk.out j z (by omega) hz
                  case measure => simp [RowKit.intOf]; omega
                | true =>
                  have HtE := Lib.hid (show tB y = false by rw [HT.out, Hst.out, Ho.out, Ht.out]; rfl)
                  have HaE := Lib.hid (show aB y = false by rw [HH.out, Ho.out, Hp.out]; rfl)
                  have HlE := Lib.hid (show lB y = !l2 by rw [HLtY.out, Ho.out, Hp.out, Hg.out]; first | rfl | simp)
                  cases late with
                  | true =>
                    go_wp2_with fail
                    go_roundw
                    case rel =>
                      refine ⟨k + 1, by omega, ?_, ?_, by go_num, fun j z hj hz => ?_, hbY⟩
                      · rw [any_take Hy.out, HaE.out]; first | rfl | (simp [gapO]; done) | (have h1 := hs1e; simp at h1; simp [gapO, h1])
                      · rw [any_take Hy.out, HlE.out, Hlate.out]; first | rfl | simp
                      · by_cases e : j = k
                        · subst e; rw [Hy.out] at hz; cases hz; exact HtE.out
                        · exact Hk.out j z (by omega) hz
                    case measure => simp [RowKit.intOf]; omega
                  | false =>
                    go_wp2_with fail
                    refine (HL2.out y _).mono ?_
                    rintro e w2 ⟨rfl, hb2⟩
                    rw [Hl2.out]
                    have hb3 := hbY.trans (hb2.mono hbY.size)
                    go_wp2_with fail
                    go_roundw
                    case rel =>
                      refine ⟨k + 1, by omega, ?_, ?_, by go_num, fun j z hj hz => ?_, hb3⟩
                      · rw [any_take Hy.out, HaE.out]; first | rfl | (simp [gapO]; done) | (have h1 := hs1e; simp at h1; simp [gapO, h1])
                      · rw [any_take Hy.out, HlE.out, Hlate.out]; first | rfl | simp
                      · by_cases e : j = k
                        · subst e; rw [Hy.out] at hz; cases hz; exact HtE.out
                        · exact Hk.out j z (by omega) hz
                    case measure => simp [RowKit.intOf]; omega
      · have e1 := HF.out
        rw [any_none (p := tB) (fun j y hj hy => Hk.out j y (by omega) hy)] at e1
        rw [any_all hlt, any_all hlt]
        have HFF := Lib.hid e1
        clear e1
        generalize l.any aB = aa at *
        generalize l.any lB = ll at *
        rw [hs1e]
        cases aa <;> cases ll
        all_goals
          dsimp only [gapO, Bool.or_false, Bool.or_true, Bool.false_or, Bool.true_or, if_true, if_false]
          go_wp2_with fail
          go_ret
          exact ⟨ret_int (by rw [HFF.out]; first | rfl | simp), hbw⟩
end Go.Proofs.YtifpdejgkofnaaaDoor
