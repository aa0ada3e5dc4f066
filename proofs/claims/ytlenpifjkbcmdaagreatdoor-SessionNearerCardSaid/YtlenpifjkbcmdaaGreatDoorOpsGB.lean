/-
  
-/
import Derived.Test.YtlenpifjkbcmdaaGreatDoorOpsW5
import Derived.Test.YtlenpifjkbcmdaaGreatDoorCells
import Derived.Test.YtlenpifjkbcmdaaGreatDoorAppends
import Derived.Test.YtlenpifjkbcmdaaGreatDoorSliced
import Derived.Deep.RegionHeld3
import Derived.Lib.SliceRun
namespace Go.Proofs.YtlenpifjkbcmdaaGreatDoor
open Go Go.RowKit Go.Lib

theorem any_take {α : Type} {l : List α} {k : Nat} {y : α} (h : l[k]? = some y) (p : α → Bool) : (l.take (k + 1)).any p = ((l.take k).any p || p y) := by
  rw [List.take_add_one, h, List.any_append]
  simp
theorem any_all {α : Type} {l : List α} {k : Nat} (hk : ¬ k < l.length) (p : α → Bool) : (l.take k).any p = l.any p := by rw [List.take_of_length_le (by omega)]
theorem any_hit {α : Type} {l : List α} {k : Nat} {y : α} (h : l[k]? = some y) {p : α → Bool} (hp : p y = true) : l.any p = true := List.any_eq_true.2 ⟨y, List.mem_of_getElem? h, hp⟩
theorem any_none {α : Type} {l : List α} {p : α → Bool} (h : ∀ j y, j < l.length → l[j]? = some y → p y = false) : l.any p = false := by
  rw [List.any_eq_false]
  intro y hy
  obtain ⟨j, hj, e⟩ := List.mem_iff_getElem.1 hy
  rw [h j y hj (by rw [List.getElem?_eq_getElem hj, e])]
  simp

/-! ### slices.Index, slices.Contains -/
/-- Where the first of such elements stands; -1: nowhere. -/
def idxO (l : List Opr) (x : Opr) : Int := if l.any (fun y => decide (y = x)) then (l.findIdx (fun y => decide (y = x)) : Nat) else -1

/-! ### Why an operation does not go with others -/
def twiceB (x y : Opr) : Bool := decide ((⟨y.cnt, y.who⟩ : Stp) = ⟨x.cnt, x.who⟩) || (y.who == x.who && y.seq == x.seq)
def aheadB (x y : Opr) : Bool := y.who == x.who && y.seq == x.seq - 1
def lateB (x y : Opr) : Bool := y.who == x.who && ((y.seq == x.seq - 1 && !lessC y.cnt y.who x.cnt x.who) || (decide (x.seq < y.seq) && !lessC x.cnt x.who y.cnt y.who))
def fitsO (l : List Opr) (x : Opr) : Int := if l.any (twiceB x) then 24 else if (x.seq == 1 || l.any (aheadB x)) = false then 26 else if l.any (lateB x) then 20 else 0
def gapO (b : Bool) : Int := if b then 0 else 26
theorem box_VarAt (W : World) (x : Opr) : VarAt (W.alloc (.cells #[.int .i64 x.cnt, .int .i64 x.who, .int .i64 x.seq, .int .i64 x.kind, .int .i64 x.nc, .int .i64 x.nw, .bool x.dir, .int .i64 x.pc, .int .i64 x.pw, .string x.name, .string x.man] 28)) W.heap.size x.cells := VarAt.new W _ _

set_option maxRecDepth 100000 in
set_option maxHeartbeats 6400000 in
theorem fits_any (a : Option Addr) (cap : Nat) (l : List Opr) (x : Opr) (w : World) (hl : l.length ≤ 140737488351232) (hs1 : 1 ≤ x.seq) (hs2 : x.seq ≤ 1099511627776) (ha : RowsAt oprLay w a l) :
    Calls Tryz.prog 14 #[.slice a l.length cap, .agg #[.int .i64 x.cnt, .int .i64 x.who, .int .i64 x.seq, .int .i64 x.kind, .int .i64 x.nc, .int .i64 x.nw, .bool x.dir, .int .i64 x.pc, .int .i64 x.pw, .string x.name, .string x.man]] w fun e w' => e = .returned (.int .i64 (fitsO l x)) ∧ Below w.heap.size w w' := by
  obtain ⟨WX, hWX⟩ : ∃ WX, WX = w.alloc (.cells #[.int .i64 x.cnt, .int .i64 x.who, .int .i64 x.seq, .int .i64 x.kind, .int .i64 x.nc, .int .i64 x.nw, .bool x.dir, .int .i64 x.pc, .int .i64 x.pw, .string x.name, .string x.man] 28) := ⟨_, rfl⟩
  have hbx : Below w.heap.size w WX := by rw [hWX]; exact (Below.refl _ _).alloc (Nat.le_refl _) _
  have hX : VarAt WX w.heap.size x.cells := by rw [hWX]; exact box_VarAt w x
  have HA := Lib.hid (ha.keeps hbx)
  have HL1 := Lib.hid fun (y : Opr) W => cless_any y.cnt y.who x.cnt x.who W
  have HL2 := Lib.hid fun (y : Opr) W => cless_any x.cnt x.who y.cnt y.who W
  have HF := Lib.hid (show fitsO l x = if l.any (twiceB x) then 24 else if (x.seq == 1 || l.any (aheadB x)) = false then 26 else if l.any (lateB x) then 20 else 0 from rfl)
  have HT := Lib.hid (show ∀ y, twiceB x y = (decide ((⟨y.cnt, y.who⟩ : Stp) = ⟨x.cnt, x.who⟩) || (y.who == x.who && y.seq == x.seq)) from fun _ => rfl)
  have HH := Lib.hid (show ∀ y, aheadB x y = (y.who == x.who && y.seq == x.seq - 1) from fun _ => rfl)
  have HLt := Lib.hid (show ∀ y, lateB x y = (y.who == x.who && ((y.seq == x.seq - 1 && !lessC y.cnt y.who x.cnt x.who) || (decide (x.seq < y.seq) && !lessC x.cnt x.who y.cnt y.who))) from fun _ => rfl)
  generalize fitsO l x = fo at *
  generalize hta : twiceB x = tB at *
  generalize haa : aheadB x = aB at *
  generalize hla : lateB x = lB at *
  clear hta haa hla ha
  have hx0 := hX.2.2 0 _ rfl
  have hx1 := hX.2.2 1 _ rfl
  have hx2 := hX.2.2 2 _ rfl
  obtain ⟨s1, hs1e⟩ : ∃ s1, s1 = (x.seq == 1) := ⟨_, rfl⟩
  have Hs1 := Lib.hid hs1e.symm
  rw [← hs1e] at HF
  cases s1
  all_goals
    replace hs1e := hs1e.symm
    go_enter Tryz.func14, Tryz.ntmps14
    go_wp2_with fail
    rw [← hWX]
    go_loopw [5, 6, 15] (fun e lt i wr => ∃ k : Nat, k ≤ l.length ∧ e = .int .i64 (gapO (x.seq == 1 || (l.take k).any aB)) ∧ lt = .bool ((l.take k).any lB) ∧ i = .int .i64 k ∧ Hid (∀ j y, j < k → l[j]? = some y → tB y = false) ∧ Below WX.heap.size WX wr) (fun _ _ i _ => l.length - (RowKit.intOf i).toNat)
    case atStart => exact ⟨0, Nat.zero_le _, by simp [gapO, hs1e], by simp, rfl, Lib.hid (fun j _ hj => absurd hj (Nat.not_lt_zero _)), Below.refl _ _⟩
    case round =>
      obtain ⟨k, hk, rfl, rfl, rfl, Hk, hb⟩ := hrel
      have hbw := hbx.trans (hb.mono hbx.size)
      by_cases hlt : k < l.length
      · obtain ⟨y, hy⟩ := at_some hlt
        have hX1 := hX.keeps hb hX.1
        obtain ⟨b, off, rfl, hbl, c0, c1, c2, c3, c4, c5, c6, c7, c8, c9, c10⟩ := opr_at (HA.out.keeps hb) hy
        have Hy := Lib.hid hy
        have hY := box_VarAt wr y
        have hX2 := hX1.keeps ((Below.refl _ _).alloc (Nat.le_refl _) (.cells #[.int .i64 y.cnt, .int .i64 y.who, .int .i64 y.seq, .int .i64 y.kind, .int .i64 y.nc, .int .i64 y.nw, .bool y.dir, .int .i64 y.pc, .int .i64 y.pw, .string y.name, .string y.man] 28)) hX1.1
        have hbY : Below WX.heap.size WX (wr.alloc (.cells #[.int .i64 y.cnt, .int .i64 y.who, .int .i64 y.seq, .int .i64 y.kind, .int .i64 y.nc, .int .i64 y.nw, .bool y.dir, .int .i64 y.pc, .int .i64 y.pw, .string y.name, .string y.man] 28)) := hb.alloc hb.size _
        have hbW : Below w.heap.size w (wr.alloc (.cells #[.int .i64 y.cnt, .int .i64 y.who, .int .i64 y.seq, .int .i64 y.kind, .int .i64 y.nc, .int .i64 y.nw, .bool y.dir, .int .i64 y.pc, .int .i64 y.pw, .string y.name, .string y.man] 28)) := hbx.trans (hbY.mono hbx.size)
        obtain ⟨WY, hWY⟩ : ∃ WY, WY = wr.alloc (.cells #[.int .i64 y.cnt, .int .i64 y.who, .int .i64 y.seq, .int .i64 y.kind, .int .i64 y.nc, .int .i64 y.nw, .bool y.dir, .int .i64 y.pc, .int .i64 y.pw, .string y.name, .string y.man] 28) := ⟨_, rfl⟩
        have heq := eqlStp ⟨y.cnt, y.who⟩ ⟨x.cnt, x.who⟩
        dsimp only at heq
        obtain ⟨st, hst⟩ : ∃ st, decide ((⟨y.cnt, y.who⟩ : Stp) = ⟨x.cnt, x.who⟩) = st := ⟨_, rfl⟩
        obtain ⟨ow, how⟩ : ∃ ow, (y.who == x.who) = ow := ⟨_, rfl⟩
        obtain ⟨sq, hsq⟩ : ∃ sq, (y.seq == x.seq) = sq := ⟨_, rfl⟩
        obtain ⟨pv, hpv⟩ : ∃ pv, (y.seq == x.seq - 1) = pv := ⟨_, rfl⟩
        obtain ⟨gt, hgt⟩ : ∃ gt, decide (x.seq < y.seq) = gt := ⟨_, rfl⟩
        obtain ⟨l1, hl1⟩ : ∃ l1, lessC y.cnt y.who x.cnt x.who = l1 := ⟨_, rfl⟩
        obtain ⟨l2, hl2⟩ : ∃ l2, lessC x.cnt x.who y.cnt y.who = l2 := ⟨_, rfl⟩
        obtain ⟨late, hlate⟩ : ∃ late, (l.take k).any lB = late := ⟨_, rfl⟩
        rw [hst] at heq
        have Hst := Lib.hid hst
        have Ho := Lib.hid how
        have Ht := Lib.hid hsq
        have Hp := Lib.hid hpv
        have Hg := Lib.hid hgt
        have Hl1 := Lib.hid hl1
        have Hl2 := Lib.hid hl2
        have Hlate := Lib.hid hlate
        rw [hlate]
        have HLtY := Lib.hid (show lB y = (y.who == x.who && ((y.seq == x.seq - 1 && !l1) || (decide (x.seq < y.seq) && !l2))) by rw [HLt.out, hl1, hl2])
        clear hl1 hl2 hlate hst
        have g0 := hX2.2.2 0 _ rfl
        have g1 := hX2.2.2 1 _ rfl
        have g2 := hX2.2.2 2 _ rfl
        have k0 := hX1.2.2 0 _ rfl
        have k1 := hX1.2.2 1 _ rfl
        have k2 := hX1.2.2 2 _ rfl
        have hne : w.heap.size < wr.heap.size := hX1.1
        cases st with
        | true =>
          clear how hsq hpv hgt
          have HtE := Lib.hid (show tB y = true by rw [HT.out, Hst.out, Ho.out, Ht.out]; first | rfl | simp)
          go_wp2_with fail
          go_ret
          exact ⟨ret_int (by rw [HF.out, if_pos (any_hit Hy.out HtE.out)]), hbW⟩
        | false =>
          cases ow with
          | false =>
            clear hsq hpv hgt
            have HtE := Lib.hid (show tB y = false by rw [HT.out, Hst.out, Ho.out, Ht.out]; rfl)
            have HaE := Lib.hid (show aB y = false by rw [HH.out, Ho.out, Hp.out]; rfl)
            have HlE := Lib.hid (show lB y = false by rw [HLtY.out, Ho.out, Hp.out, Hg.out]; first | rfl | simp)
            go_wp2_with fail
            go_roundw
            case rel =>
              refine ⟨k + 1, by omega, ?_, ?_, by go_num, fun j z hj hz => ?_, hbY⟩
              · rw [any_take Hy.out, HaE.out]; first | rfl | (simp [gapO]; done) | (have h1 := hs1e; simp at h1; simp [gapO, h1])
              · rw [any_take Hy.out, HlE.out, Hlate.out]; first | rfl | simp
              · by_cases e : j = k
                · subst e; rw [Hy.out] at hz; cases hz; exact HtE.out
                · exact Hk.out j z (by omega) hz
            case measure => simp [RowKit.intOf]; omega
          | true =>
            cases sq with
            | true =>
              clear hpv hgt
              have HtE := Lib.hid (show tB y = true by rw [HT.out, Hst.out, Ho.out, Ht.out]; first | rfl | simp)
              go_wp2_with fail
              go_ret
              exact ⟨ret_int (by rw [HF.out, if_pos (any_hit Hy.out HtE.out)]), hbW⟩
            | false =>
              cases pv with
              | true =>
                have hgf : decide (x.seq < y.seq) = false := by
                  have := Hp.out
                  rw [beq_iff_eq] at this
                  simp; omega
                rw [hgt] at hgf
                subst hgf
                have HtE := Lib.hid (show tB y = false by rw [HT.out, Hst.out, Ho.out, Ht.out]; rfl)
                have HaE := Lib.hid (show aB y = true by rw [HH.out, Ho.out, Hp.out]; rfl)
                have HlE := Lib.hid (show lB y = !l1 by rw [HLtY.out, Ho.out, Hp.out, Hg.out]; first | rfl | simp)
                cases late with
                | true =>
                  go_wp2_with fail
                  go_roundw
                  case rel =>
                    refine ⟨k + 1, by omega, ?_, ?_, by go_num, fun j z hj hz => ?_, hbY⟩
                    · rw [any_take Hy.out, HaE.out]; first | rfl | (simp [gapO]; done) | (have h1 := hs1e; simp at h1; simp [gapO, h1])
                    · rw [any_take Hy.out, HlE.out, Hlate.out]; first | rfl | simp
                    · by_cases e : j = k
                      · subst e; rw [Hy.out] at hz; cases hz; exact HtE.out
                      · exact Hk.out j z (by omega) hz
                  case measure => simp [RowKit.intOf]; omega
                | false =>
                  go_wp2_with fail
                  refine (HL1.out y _).mono ?_
                  rintro e w2 ⟨rfl, hb2⟩
                  rw [Hl1.out]
                  have hb3 := hbY.trans (hb2.mono hbY.size)
                  go_wp2_with fail
                  go_roundw
                  case rel =>
                    refine ⟨k + 1, by omega, ?_, ?_, by go_num, fun j z hj hz => ?_, hb3⟩
                    · rw [any_take Hy.out, HaE.out]; first | rfl | (simp [gapO]; done) | (have h1 := hs1e; simp at h1; simp [gapO, h1])
                    · rw [any_take Hy.out, HlE.out, Hlate.out]; first | rfl | simp
                    · by_cases e : j = k
                      · subst e; rw [Hy.out] at hz; cases hz; exact HtE.out
                      · exact Hk.out j z (by omega) hz
                  case measure => simp [RowKit.intOf]; omega
              | false =>
                cases gt with
                | false =>
                  have HtE := Lib.hid (show tB y = false by rw [HT.out, Hst.out, Ho.out, Ht.out]; rfl)
                  have HaE := Lib.hid (show aB y = false by rw [HH.out, Ho.out, Hp.out]; rfl)
                  have HlE := Lib.hid (show lB y = false by rw [HLtY.out, Ho.out, Hp.out, Hg.out]; first | rfl | simp)
                  go_wp2_with fail
                  go_roundw
                  case rel =>
                    refine ⟨k + 1, by omega, ?_, ?_, by go_num, fun j z hj hz => ?_, hbY⟩
                    · rw [any_take Hy.out, HaE.out]; first | rfl | (simp [gapO]; done) | (have h1 := hs1e; simp at h1; simp [gapO, h1])
                    · rw [any_take Hy.out, HlE.out, Hlate.out]; first | rfl | simp
                    · by_cases e : j = k
                      · subst e; rw [Hy.out] at hz; cases hz; exact HtE.out
                      · exact Hk.out j z (by omega) hz
                  case measure => simp [RowKit.intOf]; omega
                | true =>
                  have HtE := Lib.hid (show tB y = false by rw [HT.out, Hst.out, Ho.out, Ht.out]; rfl)
                  have HaE := Lib.hid (show aB y = false by rw [HH.out, Ho.out, Hp.out]; rfl)
                  have HlE := Lib.hid (show lB y = !l2 by rw [HLtY.out, Ho.out, Hp.out, Hg.out]; first | rfl | simp)
                  cases late with
                  | true =>
                    go_wp2_with fail
                    go_roundw
                    case rel =>
                      refine ⟨k + 1, by omega, ?_, ?_, by go_num, fun j z hj hz => ?_, hbY⟩
                      · rw [any_take Hy.out, HaE.out]; first | rfl | (simp [gapO]; done) | (have h1 := hs1e; simp at h1; simp [gapO, h1])
                      · rw [any_take Hy.out, HlE.out, Hlate.out]; first | rfl | simp
                      · by_cases e : j = k
                        · subst e; rw [Hy.out] at hz; cases hz; exact HtE.out
                        · exact Hk.out j z (by omega) hz
                    case measure => simp [RowKit.intOf]; omega
                  | false =>
                    go_wp2_with fail
                    refine (HL2.out y _).mono ?_
                    rintro e w2 ⟨rfl, hb2⟩
                    rw [Hl2.out]
                    have hb3 := hbY.trans (hb2.mono hbY.size)
                    go_wp2_with fail
                    go_roundw
                    case rel =>
                      refine ⟨k + 1, by omega, ?_, ?_, by go_num, fun j z hj hz => ?_, hb3⟩
                      · rw [any_take Hy.out, HaE.out]; first | rfl | (simp [gapO]; done) | (have h1 := hs1e; simp at h1; simp [gapO, h1])
                      · rw [any_take Hy.out, HlE.out, Hlate.out]; first | rfl | simp
                      · by_cases e : j = k
                        · subst e; rw [Hy.out] at hz; cases hz; exact HtE.out
                        · exact Hk.out j z (by omega) hz
                    case measure => simp [RowKit.intOf]; omega
      · have e1 := HF.out
        rw [any_none (p := tB) (fun j y hj hy => Hk.out j y (by omega) hy)] at e1
        rw [any_all hlt, any_all hlt]
        have HFF := Lib.hid e1
        clear e1
        generalize l.any aB = aa at *
        generalize l.any lB = ll at *
        rw [hs1e]
        cases aa <;> cases ll
        all_goals
          dsimp only [gapO, Bool.or_false, Bool.or_true, Bool.false_or, Bool.true_or, if_true, if_false]
          go_wp2_with fail
          go_ret
          exact ⟨ret_int (by rw [HFF.out]; first | rfl | simp), hbw⟩
end Go.Proofs.YtlenpifjkbcmdaaGreatDoor

namespace Go.Proofs.YtlenpifjkbcmdaaGreatDoor
open Go Go.RowKit Go.Lib

def memB (l : List Opr) (x : Opr) : Bool := l.any fun y => decide (x = y)
def foreB (x y : Opr) : Bool := lessC x.cnt x.who y.cnt y.who
def atO (l : List Opr) (x : Opr) : Nat := l.findIdx (foreB x)
def foundO (l : List Opr) (x : Opr) : Int := if atO l x < l.length then (atO l x : Int) else -1

set_option maxRecDepth 100000 in
set_option maxHeartbeats 6400000 in
theorem opAt_any (a : Option Addr) (cap : Nat) (l : List Opr) (x : Opr) (w : World) (hl : l.length ≤ 140737488351232) (ha : RowsAt oprLay w a l) :
    Calls Tryz.prog 49 #[.slice a l.length cap, .agg #[.int .i64 x.cnt, .int .i64 x.who, .int .i64 x.seq, .int .i64 x.kind, .int .i64 x.nc, .int .i64 x.nw, .bool x.dir, .int .i64 x.pc, .int .i64 x.pw, .string x.name, .string x.man]] w fun e w' => ∃ n : Int, e = .returned (.int .i64 n) ∧ decide (0 ≤ n) = memB l x ∧ Below w.heap.size w w' := by
  obtain ⟨WX, hWX⟩ : ∃ WX, WX = w.alloc (.cells #[.int .i64 x.cnt, .int .i64 x.who, .int .i64 x.seq, .int .i64 x.kind, .int .i64 x.nc, .int .i64 x.nw, .bool x.dir, .int .i64 x.pc, .int .i64 x.pw, .string x.name, .string x.man] 28) := ⟨_, rfl⟩
  have hbx : Below w.heap.size w WX := by rw [hWX]; exact (Below.refl _ _).alloc (Nat.le_refl _) _
  have hX : VarAt WX w.heap.size x.cells := by rw [hWX]; exact box_VarAt w x
  have HA := Lib.hid (ha.keeps hbx)
  have HM := Lib.hid (show memB l x = l.any fun y => decide (x = y) from rfl)
  generalize memB l x = mb at *
  clear ha
  have x0 := hX.2.2 0 _ rfl
  have x1 := hX.2.2 1 _ rfl
  have x2 := hX.2.2 2 _ rfl
  have x3 := hX.2.2 3 _ rfl
  have x4 := hX.2.2 4 _ rfl
  have x5 := hX.2.2 5 _ rfl
  have x6 := hX.2.2 6 _ rfl
  have x7 := hX.2.2 7 _ rfl
  have x8 := hX.2.2 8 _ rfl
  have x9 := hX.2.2 9 _ rfl
  have x10 := hX.2.2 10 _ rfl
  go_enter Tryz.func49, Tryz.ntmps49
  go_wp2_with fail
  rw [← hWX]
  clear hWX
  go_loopw [5, 8] (fun _ i wr => ∃ k : Nat, k ≤ l.length ∧ i = .int .i64 k ∧ Hid (∀ j y, j < k → l[j]? = some y → x ≠ y) ∧ ∃ n, wr = WX.drewN n) (fun _ i _ => l.length - (RowKit.intOf i).toNat)
  case atStart => exact ⟨0, Nat.zero_le _, rfl, fun j _ hj => absurd hj (Nat.not_lt_zero _), Drawn.refl _⟩
  case round =>
    obtain ⟨k, hk, rfl, Hk, n, rfl⟩ := hrel
    by_cases hlt : k < l.length
    · obtain ⟨y, hy⟩ := at_some hlt
      obtain ⟨b, off, rfl, hbl, c0, c1, c2, c3, c4, c5, c6, c7, c8, c9, c10⟩ := opr_at HA.out hy
      have Hy := Lib.hid hy
      clear hy
      have hk1 : (0 : Int) ≤ k := by omega
      have hk2 : (k : Int) < l.length := by omega
      have heq := eqlOpr x y
      by_cases h1 : x = y
      · have e1 : decide (x = y) = true := by rw [h1]; simp
        rw [e1] at heq
        have Hr := Lib.hid (any_hit (p := fun y => decide (x = y)) Hy.out e1)
        clear h1 e1
        go_wp2_with fail
        go_quiet (fail)
        go_wp2_with fail
        go_ret
        exact ⟨_, rfl, by rw [HM.out, Hr.out]; simp, hbx.trans ⟨rfl, rfl, rfl, Nat.le_refl _, fun _ _ => rfl⟩⟩
      · have e1 : decide (x = y) = false := by simp [h1]
        rw [e1] at heq
        have Hn := Lib.hid h1
        clear h1 e1
        go_wp2_with fail
        go_quiet (fail)
        go_wp2_with fail
        go_roundw
        case rel =>
          refine ⟨k + 1, by omega, by go_num, fun j z hj hz => ?_, n + nq, by simp⟩
          by_cases e : j = k
          · subst e
            rw [Hy.out] at hz
            cases hz
            exact Hn.out
          · exact Hk.out j z (by omega) hz
        case measure => simp [RowKit.intOf]; omega
    · have Hr := Lib.hid (any_none (l := l) (p := fun y => decide (x = y)) (fun j y hj hy => by have := Hk.out j y (by omega) hy; simp [this]))
      go_wp2_with fail
      go_ret
      exact ⟨_, rfl, by rw [HM.out, Hr.out]; simp, hbx.trans ⟨rfl, rfl, rfl, Nat.le_refl _, fun _ _ => rfl⟩⟩

set_option maxRecDepth 100000 in
theorem has_any (a : Option Addr) (cap : Nat) (l : List Opr) (x : Opr) (w : World) (hl : l.length ≤ 140737488351232) (ha : RowsAt oprLay w a l) :
    Calls Tryz.prog 13 #[.slice a l.length cap, .agg #[.int .i64 x.cnt, .int .i64 x.who, .int .i64 x.seq, .int .i64 x.kind, .int .i64 x.nc, .int .i64 x.nw, .bool x.dir, .int .i64 x.pc, .int .i64 x.pw, .string x.name, .string x.man]] w fun e w' => e = .returned (.bool (memB l x)) ∧ Below w.heap.size w w' := by
  have hbx : Below w.heap.size w (w.alloc (.cells #[.int .i64 x.cnt, .int .i64 x.who, .int .i64 x.seq, .int .i64 x.kind, .int .i64 x.nc, .int .i64 x.nw, .bool x.dir, .int .i64 x.pc, .int .i64 x.pw, .string x.name, .string x.man] 28)) := (Below.refl _ _).alloc (Nat.le_refl _) _
  have HI := Lib.hid (opAt_any a cap l x _ hl (ha.keeps hbx))
  go_enter Tryz.func13, Tryz.ntmps13
  go_wp2_with fail
  refine HI.out.mono ?_
  rintro e w1 ⟨n, rfl, hn, hb⟩
  go_wp2_with fail
  go_ret
  exact ⟨ret_bool (by rw [← hn]), hbx.trans (hb.mono hbx.size)⟩

set_option maxRecDepth 100000 in
theorem fore_any (b : Nat) (x y : Opr) (w : World) (hX : VarAt w b x.cells) :
    Calls Tryz.prog 16 #[.agg #[.int .i64 y.cnt, .int .i64 y.who, .int .i64 y.seq, .int .i64 y.kind, .int .i64 y.nc, .int .i64 y.nw, .bool y.dir, .int .i64 y.pc, .int .i64 y.pw, .string y.name, .string y.man], .pointer (some ⟨b, 0, none⟩)] w fun e w' => e = .returned (.bool (foreB x y)) ∧ Below w.heap.size w w' := by
  have hby : Below w.heap.size w (w.alloc (.cells #[.int .i64 y.cnt, .int .i64 y.who, .int .i64 y.seq, .int .i64 y.kind, .int .i64 y.nc, .int .i64 y.nw, .bool y.dir, .int .i64 y.pc, .int .i64 y.pw, .string y.name, .string y.man] 28)) := (Below.refl _ _).alloc (Nat.le_refl _) _
  have hX2 := hX.keeps ((Below.refl _ _).alloc (Nat.le_refl _) (.cells #[.int .i64 y.cnt, .int .i64 y.who, .int .i64 y.seq, .int .i64 y.kind, .int .i64 y.nc, .int .i64 y.nw, .bool y.dir, .int .i64 y.pc, .int .i64 y.pw, .string y.name, .string y.man] 28)) hX.1
  have x0 := hX.2.2 0 _ rfl
  have x1 := hX.2.2 1 _ rfl
  have z0 := hX2.2.2 0 _ rfl
  have z1 := hX2.2.2 1 _ rfl
  have hlt := hX.1
  have HL := Lib.hid fun W => cless_any x.cnt x.who y.cnt y.who W
  have HF := Lib.hid (show foreB x y = lessC x.cnt x.who y.cnt y.who from rfl)
  go_enter Tryz.func16, Tryz.ntmps16
  go_wp2_with fail
  refine (HL.out _).mono ?_
  rintro e w1 ⟨rfl, hb⟩
  go_wp2_with fail
  go_ret
  exact ⟨ret_bool HF.out.symm, hby.trans (hb.mono hby.size)⟩

set_option maxRecDepth 100000 in
set_option maxHeartbeats 1600000 in
theorem foreAt_any (a : Option Addr) (cap b : Nat) (l : List Opr) (x : Opr) (w : World) (hl : l.length ≤ 140737488351232) (ha : RowsAt oprLay w a l) (hX : VarAt w b x.cells) :
    Calls Tryz.prog 15 #[.slice a l.length cap, .func (.func 16) #[] #[.pointer (some ⟨b, 0, none⟩)]] w fun e w' => e = .returned (.int .i64 (foundO l x)) ∧ Below w.heap.size w w' := by
  have HA := Lib.hid ha
  have HF := Lib.hid fun y W (hX : VarAt W b x.cells) => fore_any b x y W hX
  have HO := Lib.hid (show foundO l x = if l.findIdx (foreB x) < l.length then (l.findIdx (foreB x) : Int) else -1 from rfl)
  generalize foreB x = fB at *
  generalize foundO l x = at' at *
  clear ha
  go_enter Tryz.func15, Tryz.ntmps15
  go_wp2_with fail
  go_loopw [5, 8] (fun _ i wr => ∃ k : Nat, k ≤ l.length ∧ i = .int .i64 k ∧ Hid (∀ j y, j < k → l[j]? = some y → fB y = false) ∧ Below w.heap.size w wr) (fun _ i _ => l.length - (RowKit.intOf i).toNat)
  case atStart => exact ⟨0, Nat.zero_le _, rfl, fun j _ hj => absurd hj (Nat.not_lt_zero _), Below.refl _ _⟩
  case round =>
    obtain ⟨k, hk, rfl, Hk, hb⟩ := hrel
    by_cases hlt : k < l.length
    · obtain ⟨y, hy⟩ := at_some hlt
      obtain ⟨b1, off, rfl, hbl, c0, c1, c2, c3, c4, c5, c6, c7, c8, c9, c10⟩ := opr_at (HA.out.keeps hb) hy
      have Hy := Lib.hid hy
      clear hy
      have hX1 := hX.keeps hb hX.1
      have HFy := Lib.hid (HF.out y wr hX1)
      have Hv := Lib.hid (rfl : fB y = fB y)
      obtain ⟨v, hv⟩ : ∃ v, fB y = v := ⟨_, rfl⟩
      rw [hv] at HFy
      cases v with
      | true =>
        have Hr := Lib.hid (show l.findIdx fB = k from (List.findIdx_eq hlt).2 ⟨by have h1 := Hy.out; rw [List.getElem?_eq_getElem hlt] at h1; cases h1; exact hv, fun j hj => Hk.out j _ hj (List.getElem?_eq_getElem (by omega))⟩)
        clear hv Hv
        go_wp2_with fail
        refine HFy.out.mono ?_
        rintro e w1 ⟨rfl, hb1⟩
        have hb2 := hb.trans (hb1.mono hb.size)
        go_wp2_with fail
        go_ret
        exact ⟨ret_int (by rw [HO.out, Hr.out, if_pos hlt]), hb2⟩
      | false =>
        have Hn := Lib.hid hv
        clear hv Hv
        go_wp2_with fail
        refine HFy.out.mono ?_
        rintro e w1 ⟨rfl, hb1⟩
        have hb2 := hb.trans (hb1.mono hb.size)
        go_wp2_with fail
        go_roundw
        case rel =>
          refine ⟨k + 1, by omega, by go_num, fun j z hj hz => ?_, hb2⟩
          by_cases e : j = k
          · subst e
            rw [Hy.out] at hz
            cases hz
            exact Hn.out
          · exact Hk.out j z (by omega) hz
        case measure => simp [RowKit.intOf]; omega
    · have Hr := Lib.hid (show l.findIdx fB = l.length from List.findIdx_eq_length.2 (fun z hz => by
        obtain ⟨j, hj, e⟩ := List.mem_iff_getElem.1 hz
        exact Hk.out j z (by omega) (by rw [List.getElem?_eq_getElem hj, e])))
      go_wp2_with fail
      go_ret
      exact ⟨ret_int (by rw [HO.out, Hr.out, if_neg (Nat.lt_irrefl _)]), hb⟩
end Go.Proofs.YtlenpifjkbcmdaaGreatDoor

namespace Go.Proofs.YtlenpifjkbcmdaaGreatDoor
open Go Go.RowKit Go.Lib

theorem rows_var {W : World} {b : Nat} {x : Opr} (h : VarAt W b x.cells) : RowsAt oprLay W (some ⟨b, 0, none⟩) [x] := by
  intro j y hy
  match j, hy with
  | 0, hy =>
    cases hy
    exact ⟨b, 0, rfl, h.1, fun f v hv => by simpa using h.2.2 f v hv⟩

set_option maxRecDepth 100000 in
theorem clone_any (a : Option Addr) (cap : Nat) (l : List Opr) (w : World) (hl : l.length ≤ 10000) (hnil : a = none → cap = 0) (ha : RowsAt oprLay w a l) :
    Calls Tryz.prog 19 #[.slice a l.length cap] w fun e w' => ∃ v, e = .returned v ∧ OwnRows oprLay w' w.heap.size 28 v l ∧ Below w.heap.size w w' := by
  obtain ⟨i0, hi, hz0, hz1, hz2⟩ := info_parts oprInfo
  have Hi := Lib.hid hi
  have Hz0 := Lib.hid hz0
  have Hz1 := Lib.hid hz1
  have Hz2 := Lib.hid hz2
  clear hi hz0 hz1 hz2
  cases a with
  | none =>
    obtain rfl : l = [] := by
      cases l with
      | nil => rfl
      | cons y l =>
        obtain ⟨b, off, e, _⟩ := ha 0 y rfl
        cases e
    obtain rfl := hnil rfl
    have hq : ∀ W, (binOp .eql 22 (.slice none 0 0) (.slice none 0 0)).run Tryz.prog W = .ok (.bool true) W := fun W => Lib.run_eql_slice_nil W _ _ _ _ _ _ _ Tryz.underlying22
    go_enter Tryz.func19, Tryz.ntmps19
    go_wp2_with fail
    go_ret
    exact ⟨_, rfl, OwnRows.nil _ _ _ _, Below.refl _ _⟩
  | some ad =>
    have hb0 := (Below.refl w.heap.size w).alloc (Nat.le_refl _) (.cells #[] 28)
    have ha1 := ha.keeps hb0
    have ho := OwnRows.lit w oprLay w.heap.size w.heap.size 28 #[] 0 [] rfl (Nat.le_refl _) (Nat.zero_le _) rfl rfl
    clear ha
    have hq : ∀ W, (binOp .eql 22 (.slice (some ad) l.length cap) (.slice none 0 0)).run Tryz.prog W = .ok (.bool false) W := fun W => Lib.run_eql_slice_nil W _ _ _ _ _ _ _ Tryz.underlying22
    go_enter Tryz.func19, Tryz.ntmps19
    go_wp2_with (at_builtin; refine wpList_append_from _ rfl _ _ 22 rfl oprLay w.heap.size 28 i0 (.agg #[.int .i64 0, .int .i64 0, .int .i64 0, .int .i64 0, .int .i64 0, .int .i64 0, .bool false, .int .i64 0, .int .i64 0, .string ⟨#[]⟩, .string ⟨#[]⟩]) 104 Tryz.underlying22 Hi.out Hz0.out Hz1.out Hz2.out rfl (by decide) _ [] rfl ho (some ad) cap l.length l rfl rfl ha1 (fun h => by cases h) (by unfold maxLen; simp; omega) (by simp; omega) (by simp) ?_)
    intro v w2 ho2 hg _
    have hb2 := hb0.grown hg (by simp) (fun j ej => (ho.lt ej).1)
    clear hg ho
    go_wp2_with fail
    go_ret
    exact ⟨_, rfl, by simpa using ho2, hb2⟩

set_option maxRecDepth 100000 in
theorem insertEnd_any (v : Value) (l : List Opr) (x : Opr) (vb B : Nat) (w : World) (hl : l.length ≤ 10000) (hv : OwnRows oprLay w B 28 v l) (hBw : B ≤ w.heap.size) (hx : VarAt w vb x.cells) :
    Calls Tryz.prog 18 #[v, .int .i64 l.length, .slice (some ⟨vb, 0, none⟩) 1 1] w fun e w' => ∃ v', e = .returned v' ∧ OwnRows oprLay w' B 28 v' (l ++ [x]) ∧ Below B w w' := by
  obtain ⟨i0, hi, hz0, hz1, hz2⟩ := info_parts oprInfo
  have Hi := Lib.hid hi
  have Hz0 := Lib.hid hz0
  have Hz1 := Lib.hid hz1
  have Hz2 := Lib.hid hz2
  clear hi hz0 hz1 hz2
  have hra := rows_var hx
  obtain ⟨a, cap, rfl, _, hlc, hnil, hcm⟩ := hv.read_nil
  have hsl := slice_low (P := Tryz.prog) Tryz.underlying22 (fun w => Tryz.sizeOf28 w) a l.length cap l.length (Nat.le_refl _)
  clear hx
  go_enter Tryz.func18, Tryz.ntmps18
  go_wp2_with (at_builtin; refine wpList_append_from _ rfl _ _ 22 rfl oprLay B 28 i0 (.agg #[.int .i64 0, .int .i64 0, .int .i64 0, .int .i64 0, .int .i64 0, .int .i64 0, .bool false, .int .i64 0, .int .i64 0, .string ⟨#[]⟩, .string ⟨#[]⟩]) 104 Tryz.underlying22 Hi.out Hz0.out Hz1.out Hz2.out rfl (by decide) _ l rfl hv (some ⟨vb, 0, none⟩) 1 1 [x] rfl rfl hra (fun h => by cases h) (by unfold maxLen; simp; omega) (by simp; omega) hBw ?_)
  intro v w2 ho2 hg _
  have hb2 := (Below.refl B w).grown hg hBw (fun j ej => (hv.lt ej).1)
  clear hg hv
  go_wp2_with fail
  go_ret
  exact ⟨_, rfl, ho2, hb2⟩

/-! ### A set with one more -/
def insO (l : List Opr) (x : Opr) : List Opr := l.take (atO l x) ++ x :: l.drop (atO l x)
def addO (l : List Opr) (x : Opr) : List Opr × Int :=
  if rightO x ≠ 0 then ([], rightO x) else if memB l x then (l, 0) else if fitsO l x ≠ 0 then ([], fitsO l x) else if 400 ≤ l.length then ([], 40) else (insO l x, 0)
/-- What 'slices.Insert' must give. -/
def InsOk (l : List Opr) (x : Opr) : Prop := ∀ (v : Value) (vb B : Nat) (W : World), OwnRows oprLay W B 28 v l → B ≤ W.heap.size → VarAt W vb x.cells →
  Calls Tryz.prog 18 #[v, .int .i64 (atO l x), .slice (some ⟨vb, 0, none⟩) 1 1] W fun e w' => ∃ v', e = .returned v' ∧ OwnRows oprLay w' B 28 v' (insO l x) ∧ Below B W w'
theorem right_seq {x : Opr} (h : rightO x = 0) : 1 ≤ x.seq ∧ x.seq ≤ 1099511627776 := by
  unfold rightO at h
  split at h
  · cases h
  · rename_i h2
    omega
theorem atO_le (l : List Opr) (x : Opr) : atO l x ≤ l.length := List.findIdx_le_length

theorem var_ad (W : World) (x : Opr) : VarAt (World.drew (W.alloc (.cells #[.int .i64 x.cnt, .int .i64 x.who, .int .i64 x.seq, .int .i64 x.kind, .int .i64 x.nc, .int .i64 x.nw, .bool x.dir, .int .i64 x.pc, .int .i64 x.pw, .string x.name, .string x.man] 28))) W.heap.size x.cells := (box_VarAt W x).drew 1
theorem lt_ad (W : World) (o : Obj) : W.heap.size < (World.drew (W.alloc o)).heap.size := by
  show W.heap.size < (W.alloc o).heap.size
  simp
theorem keepX {W w1 w2 : World} {b B : Nat} {x : Opr} (hX : VarAt W b x.cells) (hb : Below W.heap.size W w1) (h : Below B w1 w2) (hB : W.heap.size ≤ B) : Below W.heap.size W w2 ∧ w2.cell? ⟨b, 0, none⟩ = some (.int .i64 x.cnt) ∧ w2.cell? ⟨b, 1, none⟩ = some (.int .i64 x.who) ∧ w2.cell? ⟨b, 2, none⟩ = some (.int .i64 x.seq) ∧ w2.cell? ⟨b, 3, none⟩ = some (.int .i64 x.kind) ∧ w2.cell? ⟨b, 4, none⟩ = some (.int .i64 x.nc) ∧ w2.cell? ⟨b, 5, none⟩ = some (.int .i64 x.nw) ∧ w2.cell? ⟨b, 6, none⟩ = some (.bool x.dir) ∧ w2.cell? ⟨b, 7, none⟩ = some (.int .i64 x.pc) ∧ w2.cell? ⟨b, 8, none⟩ = some (.int .i64 x.pw) ∧ w2.cell? ⟨b, 9, none⟩ = some (.string x.name) ∧ w2.cell? ⟨b, 10, none⟩ = some (.string x.man) :=
  have hb2 := hb.trans (h.mono hB)
  have h := hX.keeps hb2 hX.1
  ⟨hb2, h.2.2 0 _ rfl, h.2.2 1 _ rfl, h.2.2 2 _ rfl, h.2.2 3 _ rfl, h.2.2 4 _ rfl, h.2.2 5 _ rfl, h.2.2 6 _ rfl, h.2.2 7 _ rfl, h.2.2 8 _ rfl, h.2.2 9 _ rfl, h.2.2 10 _ rfl⟩

set_option maxRecDepth 100000 in
set_option maxHeartbeats 6400000 in
theorem add_walk (a : Option Addr) (cap : Nat) (l : List Opr) (x : Opr) (w : World) (hl : l.length ≤ 10000) (hn : x.name.size ≤ 100000) (hm : x.man.size ≤ 100000) (hnil : a = none → cap = 0) (hlc : l.length ≤ cap) (ha : RowsAt oprLay w a l)
    (HI : rightO x = 0 → memB l x = false → fitsO l x = 0 → InsOk l x) :
    Calls Tryz.prog 5 #[.slice a l.length cap, .agg #[.int .i64 x.cnt, .int .i64 x.who, .int .i64 x.seq, .int .i64 x.kind, .int .i64 x.nc, .int .i64 x.nw, .bool x.dir, .int .i64 x.pc, .int .i64 x.pw, .string x.name, .string x.man]] w fun e w' => ∃ a' cap', e = .returned (.tuple #[.slice a' (addO l x).1.length cap', .int .i64 (addO l x).2]) ∧ RowsAt oprLay w' a' (addO l x).1 ∧ (a' = none → cap' = 0) ∧ (addO l x).1.length ≤ cap' ∧ Below w.heap.size w w' := by
  obtain ⟨WX, hWX⟩ : ∃ WX, WX = w.alloc (.cells #[.int .i64 x.cnt, .int .i64 x.who, .int .i64 x.seq, .int .i64 x.kind, .int .i64 x.nc, .int .i64 x.nw, .bool x.dir, .int .i64 x.pc, .int .i64 x.pw, .string x.name, .string x.man] 28) := ⟨_, rfl⟩
  have hbx : Below w.heap.size w WX := by rw [hWX]; exact (Below.refl _ _).alloc (Nat.le_refl _) _
  have hX : VarAt WX w.heap.size x.cells := by rw [hWX]; exact box_VarAt w x
  have HA := Lib.hid (ha.keeps hbx)
  have HR := Lib.hid fun W => oright_any x W hn hm
  have HH := Lib.hid fun W (h : RowsAt oprLay W a l) => has_any a cap l x W (by omega) h
  have HFt := Lib.hid fun W (hs : 1 ≤ x.seq ∧ x.seq ≤ 1099511627776) (h : RowsAt oprLay W a l) => fits_any a cap l x W (by omega) hs.1 hs.2 h
  have HFo := Lib.hid fun W (h : RowsAt oprLay W a l) (hX : VarAt W w.heap.size x.cells) => foreAt_any a cap w.heap.size l x W (by omega) h hX
  have HC := Lib.hid fun W (h : RowsAt oprLay W a l) => clone_any a cap l W hl hnil h
  have HS := Lib.hid (right_seq (x := x))
  have HD := Lib.hid (show addO l x = if rightO x ≠ 0 then ([], rightO x) else if memB l x then (l, 0) else if fitsO l x ≠ 0 then ([], fitsO l x) else if 400 ≤ l.length then ([], 40) else (insO l x, 0) from rfl)
  have HO := Lib.hid (show foundO l x = if atO l x < l.length then (atO l x : Int) else -1 from rfl)
  have hal := atO_le l x
  have HII := Lib.hid (show InsOk l x = ∀ (v : Value) (vb B : Nat) (W : World), OwnRows oprLay W B 28 v l → B ≤ W.heap.size → VarAt W vb x.cells → Calls Tryz.prog 18 #[v, .int .i64 (atO l x), .slice (some ⟨vb, 0, none⟩) 1 1] W fun e w' => ∃ v', e = .returned v' ∧ OwnRows oprLay w' B 28 v' (insO l x) ∧ Below B W w' from rfl)
  have HI' := Lib.hid HI
  clear HI
  generalize rightO x = ro at *
  generalize memB l x = mb at *
  generalize fitsO l x = fo at *
  generalize addO l x = ao at *
  generalize foundO l x = fd at *
  generalize insO l x = il at *
  generalize atO l x = k at *
  generalize InsOk l x = io at *
  clear ha
  have cs : ∀ W, VarAt W w.heap.size x.cells → W.cell? ⟨w.heap.size, 0, none⟩ = some (.int .i64 x.cnt) ∧ W.cell? ⟨w.heap.size, 1, none⟩ = some (.int .i64 x.who) ∧ W.cell? ⟨w.heap.size, 2, none⟩ = some (.int .i64 x.seq) ∧ W.cell? ⟨w.heap.size, 3, none⟩ = some (.int .i64 x.kind) ∧ W.cell? ⟨w.heap.size, 4, none⟩ = some (.int .i64 x.nc) ∧ W.cell? ⟨w.heap.size, 5, none⟩ = some (.int .i64 x.nw) ∧ W.cell? ⟨w.heap.size, 6, none⟩ = some (.bool x.dir) ∧ W.cell? ⟨w.heap.size, 7, none⟩ = some (.int .i64 x.pc) ∧ W.cell? ⟨w.heap.size, 8, none⟩ = some (.int .i64 x.pw) ∧ W.cell? ⟨w.heap.size, 9, none⟩ = some (.string x.name) ∧ W.cell? ⟨w.heap.size, 10, none⟩ = some (.string x.man) := fun W h => ⟨h.2.2 0 _ rfl, h.2.2 1 _ rfl, h.2.2 2 _ rfl, h.2.2 3 _ rfl, h.2.2 4 _ rfl, h.2.2 5 _ rfl, h.2.2 6 _ rfl, h.2.2 7 _ rfl, h.2.2 8 _ rfl, h.2.2 9 _ rfl, h.2.2 10 _ rfl⟩
  have HCS := Lib.hid cs
  clear cs
  by_cases hro : ro = 0
  · subst hro
    have hs := HS.out rfl
    have hD2 := HD.out.trans (if_neg (fun h => h rfl))
    have e1 : ((0 : Int) != 0) = false := rfl
    obtain ⟨x0, x1, x2, x3, x4, x5, x6, x7, x8, x9, x10⟩ := HCS.out _ hX
    go_enter Tryz.func5, Tryz.ntmps5
    go_wp2_with fail
    rw [← hWX]
    refine (HR.out _).mono ?_
    rintro e w1 ⟨rfl, hb1⟩
    have hX1 := hX.keeps hb1 hX.1
    have hc1 := hbx.trans (hb1.mono hbx.size)
    have ha1 := HA.out.keeps hb1
    clear x0 x1 x2 x3 x4 x5 x6 x7 x8 x9 x10 hWX
    obtain ⟨x0, x1, x2, x3, x4, x5, x6, x7, x8, x9, x10⟩ := HCS.out _ hX1
    go_wp2_with fail
    refine (HH.out _ ha1).mono ?_
    rintro e w2 ⟨rfl, hb2⟩
    have hX2 := hX1.keeps hb2 hX1.1
    have hc2 := hc1.trans (hb2.mono hc1.size)
    have ha2 := ha1.keeps hb2
    clear x0 x1 x2 x3 x4 x5 x6 x7 x8 x9 x10 hX hX1 ha1
    obtain ⟨x0, x1, x2, x3, x4, x5, x6, x7, x8, x9, x10⟩ := HCS.out _ hX2
    cases mb with
    | true =>
      have hD3 := hD2.trans (if_pos rfl)
      have HZ := Lib.hid hD3
      clear hD3
      go_wp2_with fail
      go_ret2
      rw [HZ.out]
      exact ⟨a, cap, rfl, ha2, hnil, hlc, hc2⟩
    | false =>
      have hD3 := hD2.trans (if_neg (fun h => by cases h))
      go_wp2_with fail
      refine (HFt.out _ hs ha2).mono ?_
      rintro e w3 ⟨rfl, hb3⟩
      have hX3 := hX2.keeps hb3 hX2.1
      have hc3 := hc2.trans (hb3.mono hc2.size)
      have ha3 := ha2.keeps hb3
      clear x0 x1 x2 x3 x4 x5 x6 x7 x8 x9 x10 hX2 ha2 hD2
      by_cases hfo : fo = 0
      · subst hfo
        have hD4 := hD3.trans (if_neg (fun h => h rfl))
        by_cases hbig : 400 ≤ l.length
        · have hD5 := hD4.trans (if_pos hbig)
          have HZ := Lib.hid hD5
          clear hD5
          go_wp2_with fail
          go_ret2
          rw [HZ.out]
          exact ⟨none, 0, rfl, RowsAt.nil _ _ _, fun _ => rfl, Nat.le_refl _, hc3⟩
        · have hD5 := hD4.trans (if_neg hbig)
          have HZ := Lib.hid hD5
          clear hD5
          clear hD4 hD3
          have hio : io := by first | exact HI'.out rfl rfl rfl | exact HI'.out trivial trivial trivial | (have := HI'.out; simp at this; exact this)
          have HIN := Lib.hid (HII.out ▸ hio)
          clear hio
          clear HI' HII
          go_wp2_with fail
          refine (HFo.out _ ha3 hX3).mono ?_
          rintro e w4 ⟨rfl, hb4⟩
          have hX4 := hX3.keeps hb4 hX3.1
          have hc4 := hc3.trans (hb4.mono hc3.size)
          have ha4 := ha3.keeps hb4
          have hlt4 := hX4.1
          clear hX3 ha3
          obtain ⟨x0, x1, x2, x3, x4, x5, x6, x7, x8, x9, x10⟩ := HCS.out _ hX4
          have hfd : (0 ≤ fd ∧ fd = k) ∨ (fd < 0 ∧ k = l.length) := by
            rw [HO.out]
            split
            · exact .inl ⟨by omega, rfl⟩
            · exact .inr ⟨by omega, by omega⟩
          rcases hfd with ⟨hp, rfl⟩ | ⟨hp, rfl⟩
          all_goals
            go_wp2_with fail
            have hlt4' := hlt4
            have hB0 := Below.refl w4.heap.size w4
            have hkc : Below w4.heap.size w4 w4.drew ∧ w4.drew.cell? ⟨w.heap.size, 0, none⟩ = some (.int .i64 x.cnt) ∧ w4.drew.cell? ⟨w.heap.size, 1, none⟩ = some (.int .i64 x.who) ∧ w4.drew.cell? ⟨w.heap.size, 2, none⟩ = some (.int .i64 x.seq) ∧ w4.drew.cell? ⟨w.heap.size, 3, none⟩ = some (.int .i64 x.kind) ∧ w4.drew.cell? ⟨w.heap.size, 4, none⟩ = some (.int .i64 x.nc) ∧ w4.drew.cell? ⟨w.heap.size, 5, none⟩ = some (.int .i64 x.nw) ∧ w4.drew.cell? ⟨w.heap.size, 6, none⟩ = some (.bool x.dir) ∧ w4.drew.cell? ⟨w.heap.size, 7, none⟩ = some (.int .i64 x.pc) ∧ w4.drew.cell? ⟨w.heap.size, 8, none⟩ = some (.int .i64 x.pw) ∧ w4.drew.cell? ⟨w.heap.size, 9, none⟩ = some (.string x.name) ∧ w4.drew.cell? ⟨w.heap.size, 10, none⟩ = some (.string x.man) := ⟨hB0.drew, x0, x1, x2, x3, x4, x5, x6, x7, x8, x9, x10⟩
            go_region_held3 (fun w' => Below w4.heap.size w4 w' ∧ w'.cell? ⟨w.heap.size, 0, none⟩ = some (.int .i64 x.cnt) ∧ w'.cell? ⟨w.heap.size, 1, none⟩ = some (.int .i64 x.who) ∧ w'.cell? ⟨w.heap.size, 2, none⟩ = some (.int .i64 x.seq) ∧ w'.cell? ⟨w.heap.size, 3, none⟩ = some (.int .i64 x.kind) ∧ w'.cell? ⟨w.heap.size, 4, none⟩ = some (.int .i64 x.nc) ∧ w'.cell? ⟨w.heap.size, 5, none⟩ = some (.int .i64 x.nw) ∧ w'.cell? ⟨w.heap.size, 6, none⟩ = some (.bool x.dir) ∧ w'.cell? ⟨w.heap.size, 7, none⟩ = some (.int .i64 x.pc) ∧ w'.cell? ⟨w.heap.size, 8, none⟩ = some (.int .i64 x.pw) ∧ w'.cell? ⟨w.heap.size, 9, none⟩ = some (.string x.name) ∧ w'.cell? ⟨w.heap.size, 10, none⟩ = some (.string x.man))
              (first | exact hkc | (go_split_ands; first | exact keepX hX4 (by assumption) hbl2 (Below.size (by assumption)) | exact keepX hX4 (by assumption) hbl (Below.size (by assumption)) | exact keepX hX4 (by assumption) ((Below.refl _ _).alloc (Nat.le_refl _) _) (Below.size (by assumption))) | go_keep)
              (first | (go_at_call 19; go_split_ands; refine (HC.out _ (ha4.keeps (by assumption))).mono ?_; rintro e w' ⟨v, rfl, hown, hbl⟩) | (go_at_call 18; go_split_ands; refine (HIN.out _ _ _ _ (by first | exact hown | exact hown.alloc _) (by first | exact hbl.size | exact Nat.le_trans hbl.size (by simp)) (by first | exact box_VarAt _ x | exact (var_ad w4 x).keeps hbl (lt_ad _ _))).mono ?_; rintro e w' ⟨v2, rfl, hown2, hbl2⟩))
          all_goals
            rename_i hH
            obtain ⟨hbz, -⟩ := hH
            obtain ⟨a', cap', rfl, hra, hlc', hnil', _⟩ := hown2.read_nil
            clear hown2 hown hbl hbl2
            go_wp2_with fail
            go_ret2
            rw [HZ.out]
            exact ⟨a', cap', rfl, hra, hnil', hlc', hc4.trans (hbz.mono hc4.size)⟩
      · have hD4 := hD3.trans (if_pos hfo)
        have e3 : (fo != 0) = true := by rw [bne_iff_ne]; exact hfo
        have HZ := Lib.hid hD4
        clear hD4
        go_wp2_with fail
        go_ret2
        rw [HZ.out]
        exact ⟨none, 0, rfl, RowsAt.nil _ _ _, fun _ => rfl, Nat.le_refl _, hc3⟩
  · have hD2 := HD.out.trans (if_pos hro)
    have e1 : (ro != 0) = true := by rw [bne_iff_ne]; exact hro
    obtain ⟨x0, x1, x2, x3, x4, x5, x6, x7, x8, x9, x10⟩ := HCS.out _ hX
    have HZ := Lib.hid hD2
    clear hD2
    go_enter Tryz.func5, Tryz.ntmps5
    go_wp2_with fail
    rw [← hWX]
    refine (HR.out _).mono ?_
    rintro e w1 ⟨rfl, hb1⟩
    have hc1 := hbx.trans (hb1.mono hbx.size)
    go_wp2_with fail
    go_ret2
    rw [HZ.out]
    exact ⟨none, 0, rfl, RowsAt.nil _ _ _, fun _ => rfl, Nat.le_refl _, hc1⟩
end Go.Proofs.YtlenpifjkbcmdaaGreatDoor

