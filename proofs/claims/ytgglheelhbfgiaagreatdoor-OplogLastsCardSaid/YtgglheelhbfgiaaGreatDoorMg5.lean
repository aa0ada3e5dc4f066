/-
  'out = append(out, x)' at a step of a region that draws its order. Of no program. Slices that have just been built, and 'out = append(out, more...)'. Of no program. 's[k:]' of a slice that is only read. Of no program.
-/
import Derived.Test.YtgglheelhbfgiaaGreatDoorMg4
import Derived.Test.YtgglheelhbfgiaaGreatDoorMg1
import Derived.Deep.AppendLies
import Derived.WalkSmall
import Derived.Deep.RegionHeld3
import Derived.Laws.OwnMore
import Derived.Laws.AppendOwnNone
namespace Go.Proofs.YtgglheelhbfgiaaGreatDoor
open Go Go.RowKit Go.Lib

theorem any_take {α : Type} {l : List α} {k : Nat} {y : α} (h : l[k]? = some y) (p : α → Bool) : (l.take (k + 1)).any p = ((l.take k).any p || p y) := by
  rw [List.take_add_one, h, List.any_append]
  simp
theorem any_all {α : Type} {l : List α} {k : Nat} (hk : ¬ k < l.length) (p : α → Bool) : (l.take k).any p = l.any p := by rw [List.take_of_length_le (by omega)]
theorem any_hit {α : Type} {l : List α} {k : Nat} {y : α} (h : l[k]? = some y) {p : α → Bool} (hp : p y = true) : l.any p = true := List.any_eq_true.2 ⟨y, List.mem_of_getElem? h, hp⟩
theorem any_none {α : Type} {l : List α} {p : α → Bool} (h : ∀ j y, j < l.length → l[j]? = some y → p y = false) : l.any p = false := by
  rw [List.any_eq_false]
  intro y hy
  obtain ⟨j, hj, e⟩ := List.mem_iff_getElem.1 hy
  rw [h j y hj (by rw [List.getElem?_eq_getElem hj, e])]
  simp

/-! ### slices.Index, slices.Contains -/
/-- Where the first of such elements stands; -1: nowhere. -/
def idxO (l : List Opr) (x : Opr) : Int := if l.any (fun y => decide (y = x)) then (l.findIdx (fun y => decide (y = x)) : Nat) else -1

/-! ### Why an operation does not go with others -/
def twiceB (x y : Opr) : Bool := decide ((⟨y.cnt, y.who⟩ : Stp) = ⟨x.cnt, x.who⟩) || (y.who == x.who && y.seq == x.seq)
def aheadB (x y : Opr) : Bool := y.who == x.who && y.seq == x.seq - 1
def lateB (x y : Opr) : Bool := y.who == x.who && ((y.seq == x.seq - 1 && !lessC y.cnt y.who x.cnt x.who) || (decide (x.seq < y.seq) && !lessC x.cnt x.who y.cnt y.who))
def fitsO (l : List Opr) (x : Opr) : Int := if l.any (twiceB x) then 24 else if (x.seq == 1 || l.any (aheadB x)) = false then 26 else if l.any (lateB x) then 20 else 0
def gapO (b : Bool) : Int := if b then 0 else 26
theorem box_VarAt (W : World) (x : Opr) : VarAt (W.alloc (.cells #[.int .i64 x.cnt, .int .i64 x.who, .int .i64 x.seq, .int .i64 x.kind, .int .i64 x.nc, .int .i64 x.nw, .bool x.dir, .int .i64 x.pc, .int .i64 x.pw, .string x.name, .string x.man] 66)) W.heap.size x.cells := VarAt.new W _ _

set_option maxRecDepth 100000 in
set_option maxHeartbeats 6400000 in
theorem fits_any (a : Option Addr) (cap : Nat) (l : List Opr) (x : Opr) (w : World) (hl : l.length ≤ 140737488351232) (hs1 : 1 ≤ x.seq) (hs2 : x.seq ≤ 1099511627776) (ha : RowsAt oprLay w a l) :
    Calls Tryz.prog 82 #[.slice a l.length cap, .agg #[.int .i64 x.cnt, .int .i64 x.who, .int .i64 x.seq, .int .i64 x.kind, .int .i64 x.nc, .int .i64 x.nw, .bool x.dir, .int .i64 x.pc, .int .i64 x.pw, .string x.name, .string x.man]] w fun e w' => e = .returned (.int .i64 (fitsO l x)) ∧ Below w.heap.size w w' := by
  obtain ⟨WX, hWX⟩ : ∃ WX, WX = w.alloc (.cells #[.int .i64 x.cnt, .int .i64 x.who, .int .i64 x.seq, .int .i64 x.kind, .int .i64 x.nc, .int .i64 x.nw, .bool x.dir, .int .i64 x.pc, .int .i64 x.pw, .string x.name, .string x.man] 66) := ⟨_, rfl⟩
  have hbx : Below w.heap.size w WX := by rw [hWX]; exact (Below.refl _ _).alloc (Nat.le_refl _) _
  have hX : VarAt WX w.heap.size x.cells := by rw [hWX]; exact box_VarAt w x
  have HA := Lib.hid (ha.keeps hbx)
  have HL1 := Lib.hid fun (y : Opr) W => cless_any y.cnt y.who x.cnt x.who W
  have HL2 := Lib.hid fun (y : Opr) W => cless_any x.cnt x.who y.cnt y.who W
  have HF := Lib.hid (show fitsO l x = if l.any (twiceB x) then 24 else if (x.seq == 1 || l.any (aheadB x)) = false then 26 else if l.any (lateB x) then 20 else 0 from rfl)
  have HT := Lib.hid (show ∀ y, twiceB x y = (decide ((⟨y.cnt, y.who⟩ : Stp) = ⟨x.cnt, x.who⟩) || (y.who == x.who && y.seq == x.seq)) from fun _ => rfl)
  have HH := Lib.hid (show ∀ y, aheadB x y = (y.who == x.who && y.seq == x.seq - 1) from fun _ => rfl)
  have HLt := Lib.hid (show ∀ y, lateB x y = (y.who == x.who && ((y.seq == x.seq - 1 && !lessC y.cnt y.who x.cnt x.who) || (decide (x.seq < y.seq) && !lessC x.cnt x.who y.cnt y.who))) from fun _ => rfl)
  generalize fitsO l x = fo at *
  generalize hta : twiceB x = tB at *
  generalize haa : aheadB x = aB at *
  generalize hla : lateB x = lB at *
  clear hta haa hla ha
  have hx0 := hX.2.2 0 _ rfl
  have hx1 := hX.2.2 1 _ rfl
  have hx2 := hX.2.2 2 _ rfl
  obtain ⟨s1, hs1e⟩ : ∃ s1, s1 = (x.seq == 1) := ⟨_, rfl⟩
  have Hs1 := Lib.hid hs1e.symm
  rw [← hs1e] at HF
  cases s1
  all_goals
    replace hs1e := hs1e.symm
    go_enter Tryz.func82, Tryz.ntmps82
    go_wp2_with fail
    rw [← hWX]
    go_loopw [5, 6, 15] (fun e lt i wr => ∃ k : Nat, k ≤ l.length ∧ e = .int .i64 (gapO (x.seq == 1 || (l.take k).any aB)) ∧ lt = .bool ((l.take k).any lB) ∧ i = .int .i64 k ∧ Hid (∀ j y, j < k → l[j]? = some y → tB y = false) ∧ Below WX.heap.size WX wr) (fun _ _ i _ => l.length - (RowKit.intOf i).toNat)
    case atStart => exact ⟨0, Nat.zero_le _, by simp [gapO, hs1e], by simp, rfl, Lib.hid (fun j _ hj => absurd hj (Nat.not_lt_zero _)), Below.refl _ _⟩
    case round =>
      obtain ⟨k, hk, rfl, rfl, rfl, Hk, hb⟩ := hrel
      have hbw := hbx.trans (hb.mono hbx.size)
      by_cases hlt : k < l.length
      · obtain ⟨y, hy⟩ := at_some hlt
        have hX1 := hX.keeps hb hX.1
        obtain ⟨b, off, rfl, hbl, c0, c1, c2, c3, c4, c5, c6, c7, c8, c9, c10⟩ := opr_at (HA.out.keeps hb) hy
        have Hy := Lib.hid hy
        have hY := box_VarAt wr y
        have hX2 := hX1.keeps ((Below.refl _ _).alloc (Nat.le_refl _) (.cells #[.int .i64 y.cnt, .int .i64 y.who, .int .i64 y.seq, .int .i64 y.kind, .int .i64 y.nc, .int .i64 y.nw, .bool y.dir, .int .i64 y.pc, .int .i64 y.pw, .string y.name, .string y.man] 66)) hX1.1
        have hbY : Below WX.heap.size WX (wr.alloc (.cells #[.int .i64 y.cnt, .int .i64 y.who, .int .i64 y.seq, .int .i64 y.kind, .int .i64 y.nc, .int .i64 y.nw, .bool y.dir, .int .i64 y.pc, .int .i64 y.pw, .string y.name, .string y.man] 66)) := hb.alloc hb.size _
        have hbW : Below w.heap.size w (wr.alloc (.cells #[.int .i64 y.cnt, .int .i64 y.who, .int .i64 y.seq, .int .i64 y.kind, .int .i64 y.nc, .int .i64 y.nw, .bool y.dir, .int .i64 y.pc, .int .i64 y.pw, .string y.name, .string y.man] 66)) := hbx.trans (hbY.mono hbx.size)
        obtain ⟨WY, hWY⟩ : ∃ WY, WY = wr.alloc (.cells #[.int .i64 y.cnt, .int .i64 y.who, .int .i64 y.seq, .int .i64 y.kind, .int .i64 y.nc, .int .i64 y.nw, .bool y.dir, .int .i64 y.pc, .int .i64 y.pw, .string y.name, .string y.man] 66) := ⟨_, rfl⟩
        have heq := eqlStp ⟨y.cnt, y.who⟩ ⟨x.cnt, x.who⟩
        dsimp only at heq
        obtain ⟨st, hst⟩ : ∃ st, decide ((⟨y.cnt, y.who⟩ : Stp) = ⟨x.cnt, x.who⟩) = st := ⟨_, rfl⟩
        obtain ⟨ow, how⟩ : ∃ ow, (y.who == x.who) = ow := ⟨_, rfl⟩
        obtain ⟨sq, hsq⟩ : ∃ sq, (y.seq == x.seq) = sq := ⟨_, rfl⟩
        obtain ⟨pv, hpv⟩ : ∃ pv, (y.seq == x.seq - 1) = pv := ⟨_, rfl⟩
        obtain ⟨gt, hgt⟩ : ∃ gt, decide (x.seq < y.seq) = gt := ⟨_, rfl⟩
        obtain ⟨l1, hl1⟩ : ∃ l1, lessC y.cnt y.who x.cnt x.who = l1 := ⟨_, rfl⟩
        obtain ⟨l2, hl2⟩ : ∃ l2, lessC x.cnt x.who y.cnt y.who = l2 := ⟨_, rfl⟩
        obtain ⟨late, hlate⟩ : ∃ late, (l.take k).any lB = late := ⟨_, rfl⟩
        rw [hst] at heq
        have Hst := Lib.hid hst
        have Ho := Lib.hid how
        have Ht := Lib.hid hsq
        have Hp := Lib.hid hpv
        have Hg := Lib.hid hgt
        have Hl1 := Lib.hid hl1
        have Hl2 := Lib.hid hl2
        have Hlate := Lib.hid hlate
        rw [hlate]
        have HLtY := Lib.hid (show lB y = (y.who == x.who && ((y.seq == x.seq - 1 && !l1) || (decide (x.seq < y.seq) && !l2))) by rw [HLt.out, hl1, hl2])
        clear hl1 hl2 hlate hst
        have g0 := hX2.2.2 0 _ rfl
        have g1 := hX2.2.2 1 _ rfl
        have g2 := hX2.2.2 2 _ rfl
        have k0 := hX1.2.2 0 _ rfl
        have k1 := hX1.2.2 1 _ rfl
        have k2 := hX1.2.2 2 _ rfl
        have hne : w.heap.size < wr.heap.size := hX1.1
        cases st with
        | true =>
          clear how hsq hpv hgt
          have HtE := Lib.hid (show tB y = true by rw [HT.out, Hst.out, Ho.out, Ht.out]; first | rfl | simp)
          go_wp2_with fail
          go_ret
          exact ⟨ret_int (by rw [HF.out, if_pos (any_hit Hy.out HtE.out)]), hbW⟩
        | false =>
          cases ow with
          | false =>
            clear hsq hpv hgt
            have HtE := Lib.hid (show tB y = false by rw [HT.out, Hst.out, Ho.out, Ht.out]; rfl)
            have HaE := Lib.hid (show aB y = false by rw [HH.out, Ho.out, Hp.out]; rfl)
            have HlE := Lib.hid (show lB y = false by rw [HLtY.out, Ho.out, Hp.out, Hg.out]; first | rfl | simp)
            go_wp2_with fail
            go_roundw
            case rel =>
              refine ⟨k + 1, by omega, ?_, ?_, by go_num, fun j z hj hz => ?_, hbY⟩
              · rw [any_take Hy.out, HaE.out]; first | rfl | (simp [gapO]; done) | (have h1 := hs1e; simp at h1; simp [gapO, h1])
              · rw [any_take Hy.out, HlE.out, Hlate.out]; first | rfl | simp
              · by_cases e : j = k
                · subst e; rw [Hy.out] at hz; cases hz; exact HtE.out
                · exact Hk.out j z (by omega) hz
            case measure => simp [RowKit.intOf]; omega
          | true =>
            cases sq with
            | true =>
              clear hpv hgt
              have HtE := Lib.hid (show tB y = true by rw [HT.out, Hst.out, Ho.out, Ht.out]; first | rfl | simp)
              go_wp2_with fail
              go_ret
              exact ⟨ret_int (by rw [HF.out, if_pos (any_hit Hy.out HtE.out)]), hbW⟩
            | false =>
              cases pv with
              | true =>
                have hgf : decide (x.seq < y.seq) = false := by
                  have := Hp.out
                  rw [beq_iff_eq] at this
                  simp; omega
                rw [hgt] at hgf
                subst hgf
                have HtE := Lib.hid (show tB y = false by rw [HT.out, Hst.out, Ho.out, Ht.out]; rfl)
                have HaE := Lib.hid (show aB y = true by rw [HH.out, Ho.out, Hp.out]; rfl)
                have HlE := Lib.hid (show lB y = !l1 by rw [HLtY.out, Ho.out, Hp.out, Hg.out]; first | rfl | simp)
                cases late with
                | true =>
                  go_wp2_with fail
                  go_roundw
                  case rel =>
                    refine ⟨k + 1, by omega, ?_, ?_, by go_num, fun j z hj hz => ?_, hbY⟩
                    · rw [any_take Hy.out, HaE.out]; first | rfl | (simp [gapO]; done) | (have h1 := hs1e; simp at h1; simp [gapO, h1])
                    · rw [any_take Hy.out, HlE.out, Hlate.out]; first | rfl | simp
                    · by_cases e : j = k
                      · subst e; rw [Hy.out] at hz; cases hz; exact HtE.out
                      · exact Hk.out j z (by omega) hz
                  case measure => simp [RowKit.intOf]; omega
                | false =>
                  go_wp2_with fail
                  refine (HL1.out y _).mono ?_
                  rintro e w2 ⟨rfl, hb2⟩
                  rw [Hl1.out]
                  have hb3 := hbY.trans (hb2.mono hbY.size)
                  go_wp2_with fail
                  go_roundw
                  case rel =>
                    refine ⟨k + 1, by omega, ?_, ?_, by go_num, fun j z hj hz => ?_, hb3⟩
                    · rw [any_take Hy.out, HaE.out]; first | rfl | (simp [gapO]; done) | (have h1 := hs1e; simp at h1; simp [gapO, h1])
                    · rw [any_take Hy.out, HlE.out, Hlate.out]; first | rfl | simp
                    · by_cases e : j = k
                      · subst e; rw [Hy.out] at hz; cases hz; exact HtE.out
                      · exact Hk.out j z (by omega) hz
                  case measure => simp [RowKit.intOf]; omega
              | false =>
                cases gt with
                | false =>
                  have HtE := Lib.hid (show tB y = false by rw [HT.out, Hst.out, Ho.out, Ht.out]; rfl)
                  have HaE := Lib.hid (show aB y = false by rw [HH.out, Ho.out, Hp.out]; rfl)
                  have HlE := Lib.hid (show lB y = false by rw [HLtY.out, Ho.out, Hp.out, Hg.out]; first | rfl | simp)
                  go_wp2_with fail
                  go_roundw
                  case rel =>
                    refine ⟨k + 1, by omega, ?_, ?_, by go_num, fun j z hj hz => ?_, hbY⟩
                    · rw [any_take Hy.out, HaE.out]; first | rfl | (simp [gapO]; done) | (have h1 := hs1e; simp at h1; simp [gapO, h1])
                    · rw [any_take Hy.out, HlE.out, Hlate.out]; first | rfl | simp
                    · by_cases e : j = k
                      · subst e; rw [Hy.out] at hz; cases hz; exact HtE.out
                      · exact Hk.out j z (by omega) hz
                  case measure => simp [RowKit.intOf]; omega
                | true =>
                  have HtE := Lib.hid (show tB y = false by rw [HT.out, Hst.out, Ho.out, Ht.out]; rfl)
                  have HaE := Lib.hid (show aB y = false by rw [HH.out, Ho.out, Hp.out]; rfl)
                  have HlE := Lib.hid (show lB y = !l2 by rw [HLtY.out, Ho.out, Hp.out, Hg.out]; first | rfl | simp)
                  cases late with
                  | true =>
                    go_wp2_with fail
                    go_roundw
                    case rel =>
                      refine ⟨k + 1, by omega, ?_, ?_, by go_num, fun j z hj hz => ?_, hbY⟩
                      · rw [any_take Hy.out, HaE.out]; first | rfl | (simp [gapO]; done) | (have h1 := hs1e; simp at h1; simp [gapO, h1])
                      · rw [any_take Hy.out, HlE.out, Hlate.out]; first | rfl | simp
                      · by_cases e : j = k
                        · subst e; rw [Hy.out] at hz; cases hz; exact HtE.out
                        · exact Hk.out j z (by omega) hz
                    case measure => simp [RowKit.intOf]; omega
                  | false =>
                    go_wp2_with fail
                    refine (HL2.out y _).mono ?_
                    rintro e w2 ⟨rfl, hb2⟩
                    rw [Hl2.out]
                    have hb3 := hbY.trans (hb2.mono hbY.size)
                    go_wp2_with fail
                    go_roundw
                    case rel =>
                      refine ⟨k + 1, by omega, ?_, ?_, by go_num, fun j z hj hz => ?_, hb3⟩
                      · rw [any_take Hy.out, HaE.out]; first | rfl | (simp [gapO]; done) | (have h1 := hs1e; simp at h1; simp [gapO, h1])
                      · rw [any_take Hy.out, HlE.out, Hlate.out]; first | rfl | simp
                      · by_cases e : j = k
                        · subst e; rw [Hy.out] at hz; cases hz; exact HtE.out
                        · exact Hk.out j z (by omega) hz
                    case measure => simp [RowKit.intOf]; omega
      · have e1 := HF.out
        rw [any_none (p := tB) (fun j y hj hy => Hk.out j y (by omega) hy)] at e1
        rw [any_all hlt, any_all hlt]
        have HFF := Lib.hid e1
        clear e1
        generalize l.any aB = aa at *
        generalize l.any lB = ll at *
        rw [hs1e]
        cases aa <;> cases ll
        all_goals
          dsimp only [gapO, Bool.or_false, Bool.or_true, Bool.false_or, Bool.true_or, if_true, if_false]
          go_wp2_with fail
          go_ret
          exact ⟨ret_int (by rw [HFF.out]; first | rfl | simp), hbw⟩
end Go.Proofs.YtgglheelhbfgiaaGreatDoor

namespace Go.Proofs.YtgglheelhbfgiaaGreatDoor
open Go Go.RowKit Go.Lib

def memB (l : List Opr) (x : Opr) : Bool := l.any fun y => decide (x = y)
def foreB (x y : Opr) : Bool := lessC x.cnt x.who y.cnt y.who
def atO (l : List Opr) (x : Opr) : Nat := l.findIdx (foreB x)
def foundO (l : List Opr) (x : Opr) : Int := if atO l x < l.length then (atO l x : Int) else -1

set_option maxRecDepth 100000 in
set_option maxHeartbeats 6400000 in
theorem opAt_any (a : Option Addr) (cap : Nat) (l : List Opr) (x : Opr) (w : World) (hl : l.length ≤ 140737488351232) (ha : RowsAt oprLay w a l) :
    Calls Tryz.prog 114 #[.slice a l.length cap, .agg #[.int .i64 x.cnt, .int .i64 x.who, .int .i64 x.seq, .int .i64 x.kind, .int .i64 x.nc, .int .i64 x.nw, .bool x.dir, .int .i64 x.pc, .int .i64 x.pw, .string x.name, .string x.man]] w fun e w' => ∃ n : Int, e = .returned (.int .i64 n) ∧ decide (0 ≤ n) = memB l x ∧ Below w.heap.size w w' := by
  obtain ⟨WX, hWX⟩ : ∃ WX, WX = w.alloc (.cells #[.int .i64 x.cnt, .int .i64 x.who, .int .i64 x.seq, .int .i64 x.kind, .int .i64 x.nc, .int .i64 x.nw, .bool x.dir, .int .i64 x.pc, .int .i64 x.pw, .string x.name, .string x.man] 66) := ⟨_, rfl⟩
  have hbx : Below w.heap.size w WX := by rw [hWX]; exact (Below.refl _ _).alloc (Nat.le_refl _) _
  have hX : VarAt WX w.heap.size x.cells := by rw [hWX]; exact box_VarAt w x
  have HA := Lib.hid (ha.keeps hbx)
  have HM := Lib.hid (show memB l x = l.any fun y => decide (x = y) from rfl)
  generalize memB l x = mb at *
  clear ha
  have x0 := hX.2.2 0 _ rfl
  have x1 := hX.2.2 1 _ rfl
  have x2 := hX.2.2 2 _ rfl
  have x3 := hX.2.2 3 _ rfl
  have x4 := hX.2.2 4 _ rfl
  have x5 := hX.2.2 5 _ rfl
  have x6 := hX.2.2 6 _ rfl
  have x7 := hX.2.2 7 _ rfl
  have x8 := hX.2.2 8 _ rfl
  have x9 := hX.2.2 9 _ rfl
  have x10 := hX.2.2 10 _ rfl
  go_enter Tryz.func114, Tryz.ntmps114
  go_wp2_with fail
  rw [← hWX]
  clear hWX
  go_loopw [5, 8] (fun _ i wr => ∃ k : Nat, k ≤ l.length ∧ i = .int .i64 k ∧ Hid (∀ j y, j < k → l[j]? = some y → x ≠ y) ∧ ∃ n, wr = WX.drewN n) (fun _ i _ => l.length - (RowKit.intOf i).toNat)
  case atStart => exact ⟨0, Nat.zero_le _, rfl, fun j _ hj => absurd hj (Nat.not_lt_zero _), Drawn.refl _⟩
  case round =>
    obtain ⟨k, hk, rfl, Hk, n, rfl⟩ := hrel
    by_cases hlt : k < l.length
    · obtain ⟨y, hy⟩ := at_some hlt
      obtain ⟨b, off, rfl, hbl, c0, c1, c2, c3, c4, c5, c6, c7, c8, c9, c10⟩ := opr_at HA.out hy
      have Hy := Lib.hid hy
      clear hy
      have hk1 : (0 : Int) ≤ k := by omega
      have hk2 : (k : Int) < l.length := by omega
      have heq := eqlOpr x y
      by_cases h1 : x = y
      · have e1 : decide (x = y) = true := by rw [h1]; simp
        rw [e1] at heq
        have Hr := Lib.hid (any_hit (p := fun y => decide (x = y)) Hy.out e1)
        clear h1 e1
        go_wp2_with fail
        go_quiet (fail)
        go_wp2_with fail
        go_ret
        exact ⟨_, rfl, by rw [HM.out, Hr.out]; simp, hbx.trans ⟨rfl, rfl, rfl, Nat.le_refl _, fun _ _ => rfl⟩⟩
      · have e1 : decide (x = y) = false := by simp [h1]
        rw [e1] at heq
        have Hn := Lib.hid h1
        clear h1 e1
        go_wp2_with fail
        go_quiet (fail)
        go_wp2_with fail
        go_roundw
        case rel =>
          refine ⟨k + 1, by omega, by go_num, fun j z hj hz => ?_, n + nq, by simp⟩
          by_cases e : j = k
          · subst e
            rw [Hy.out] at hz
            cases hz
            exact Hn.out
          · exact Hk.out j z (by omega) hz
        case measure => simp [RowKit.intOf]; omega
    · have Hr := Lib.hid (any_none (l := l) (p := fun y => decide (x = y)) (fun j y hj hy => by have := Hk.out j y (by omega) hy; simp [this]))
      go_wp2_with fail
      go_ret
      exact ⟨_, rfl, by rw [HM.out, Hr.out]; simp, hbx.trans ⟨rfl, rfl, rfl, Nat.le_refl _, fun _ _ => rfl⟩⟩

set_option maxRecDepth 100000 in
theorem has_any (a : Option Addr) (cap : Nat) (l : List Opr) (x : Opr) (w : World) (hl : l.length ≤ 140737488351232) (ha : RowsAt oprLay w a l) :
    Calls Tryz.prog 81 #[.slice a l.length cap, .agg #[.int .i64 x.cnt, .int .i64 x.who, .int .i64 x.seq, .int .i64 x.kind, .int .i64 x.nc, .int .i64 x.nw, .bool x.dir, .int .i64 x.pc, .int .i64 x.pw, .string x.name, .string x.man]] w fun e w' => e = .returned (.bool (memB l x)) ∧ Below w.heap.size w w' := by
  have hbx : Below w.heap.size w (w.alloc (.cells #[.int .i64 x.cnt, .int .i64 x.who, .int .i64 x.seq, .int .i64 x.kind, .int .i64 x.nc, .int .i64 x.nw, .bool x.dir, .int .i64 x.pc, .int .i64 x.pw, .string x.name, .string x.man] 66)) := (Below.refl _ _).alloc (Nat.le_refl _) _
  have HI := Lib.hid (opAt_any a cap l x _ hl (ha.keeps hbx))
  go_enter Tryz.func81, Tryz.ntmps81
  go_wp2_with fail
  refine HI.out.mono ?_
  rintro e w1 ⟨n, rfl, hn, hb⟩
  go_wp2_with fail
  go_ret
  exact ⟨ret_bool (by rw [← hn]), hbx.trans (hb.mono hbx.size)⟩

set_option maxRecDepth 100000 in
theorem fore_any (b : Nat) (x y : Opr) (w : World) (hX : VarAt w b x.cells) :
    Calls Tryz.prog 84 #[.agg #[.int .i64 y.cnt, .int .i64 y.who, .int .i64 y.seq, .int .i64 y.kind, .int .i64 y.nc, .int .i64 y.nw, .bool y.dir, .int .i64 y.pc, .int .i64 y.pw, .string y.name, .string y.man], .pointer (some ⟨b, 0, none⟩)] w fun e w' => e = .returned (.bool (foreB x y)) ∧ Below w.heap.size w w' := by
  have hby : Below w.heap.size w (w.alloc (.cells #[.int .i64 y.cnt, .int .i64 y.who, .int .i64 y.seq, .int .i64 y.kind, .int .i64 y.nc, .int .i64 y.nw, .bool y.dir, .int .i64 y.pc, .int .i64 y.pw, .string y.name, .string y.man] 66)) := (Below.refl _ _).alloc (Nat.le_refl _) _
  have hX2 := hX.keeps ((Below.refl _ _).alloc (Nat.le_refl _) (.cells #[.int .i64 y.cnt, .int .i64 y.who, .int .i64 y.seq, .int .i64 y.kind, .int .i64 y.nc, .int .i64 y.nw, .bool y.dir, .int .i64 y.pc, .int .i64 y.pw, .string y.name, .string y.man] 66)) hX.1
  have x0 := hX.2.2 0 _ rfl
  have x1 := hX.2.2 1 _ rfl
  have z0 := hX2.2.2 0 _ rfl
  have z1 := hX2.2.2 1 _ rfl
  have hlt := hX.1
  have HL := Lib.hid fun W => cless_any x.cnt x.who y.cnt y.who W
  have HF := Lib.hid (show foreB x y = lessC x.cnt x.who y.cnt y.who from rfl)
  go_enter Tryz.func84, Tryz.ntmps84
  go_wp2_with fail
  refine (HL.out _).mono ?_
  rintro e w1 ⟨rfl, hb⟩
  go_wp2_with fail
  go_ret
  exact ⟨ret_bool HF.out.symm, hby.trans (hb.mono hby.size)⟩

set_option maxRecDepth 100000 in
set_option maxHeartbeats 1600000 in
theorem foreAt_any (a : Option Addr) (cap b : Nat) (l : List Opr) (x : Opr) (w : World) (hl : l.length ≤ 140737488351232) (ha : RowsAt oprLay w a l) (hX : VarAt w b x.cells) :
    Calls Tryz.prog 83 #[.slice a l.length cap, .func (.func 84) #[] #[.pointer (some ⟨b, 0, none⟩)]] w fun e w' => e = .returned (.int .i64 (foundO l x)) ∧ Below w.heap.size w w' := by
  have HA := Lib.hid ha
  have HF := Lib.hid fun y W (hX : VarAt W b x.cells) => fore_any b x y W hX
  have HO := Lib.hid (show foundO l x = if l.findIdx (foreB x) < l.length then (l.findIdx (foreB x) : Int) else -1 from rfl)
  generalize foreB x = fB at *
  generalize foundO l x = at' at *
  clear ha
  go_enter Tryz.func83, Tryz.ntmps83
  go_wp2_with fail
  go_loopw [5, 8] (fun _ i wr => ∃ k : Nat, k ≤ l.length ∧ i = .int .i64 k ∧ Hid (∀ j y, j < k → l[j]? = some y → fB y = false) ∧ Below w.heap.size w wr) (fun _ i _ => l.length - (RowKit.intOf i).toNat)
  case atStart => exact ⟨0, Nat.zero_le _, rfl, fun j _ hj => absurd hj (Nat.not_lt_zero _), Below.refl _ _⟩
  case round =>
    obtain ⟨k, hk, rfl, Hk, hb⟩ := hrel
    by_cases hlt : k < l.length
    · obtain ⟨y, hy⟩ := at_some hlt
      obtain ⟨b1, off, rfl, hbl, c0, c1, c2, c3, c4, c5, c6, c7, c8, c9, c10⟩ := opr_at (HA.out.keeps hb) hy
      have Hy := Lib.hid hy
      clear hy
      have hX1 := hX.keeps hb hX.1
      have HFy := Lib.hid (HF.out y wr hX1)
      have Hv := Lib.hid (rfl : fB y = fB y)
      obtain ⟨v, hv⟩ : ∃ v, fB y = v := ⟨_, rfl⟩
      rw [hv] at HFy
      cases v with
      | true =>
        have Hr := Lib.hid (show l.findIdx fB = k from (List.findIdx_eq hlt).2 ⟨by have h1 := Hy.out; rw [List.getElem?_eq_getElem hlt] at h1; cases h1; exact hv, fun j hj => Hk.out j _ hj (List.getElem?_eq_getElem (by omega))⟩)
        clear hv Hv
        go_wp2_with fail
        refine HFy.out.mono ?_
        rintro e w1 ⟨rfl, hb1⟩
        have hb2 := hb.trans (hb1.mono hb.size)
        go_wp2_with fail
        go_ret
        exact ⟨ret_int (by rw [HO.out, Hr.out, if_pos hlt]), hb2⟩
      | false =>
        have Hn := Lib.hid hv
        clear hv Hv
        go_wp2_with fail
        refine HFy.out.mono ?_
        rintro e w1 ⟨rfl, hb1⟩
        have hb2 := hb.trans (hb1.mono hb.size)
        go_wp2_with fail
        go_roundw
        case rel =>
          refine ⟨k + 1, by omega, by go_num, fun j z hj hz => ?_, hb2⟩
          by_cases e : j = k
          · subst e
            rw [Hy.out] at hz
            cases hz
            exact Hn.out
          · exact Hk.out j z (by omega) hz
        case measure => simp [RowKit.intOf]; omega
    · have Hr := Lib.hid (show l.findIdx fB = l.length from List.findIdx_eq_length.2 (fun z hz => by
        obtain ⟨j, hj, e⟩ := List.mem_iff_getElem.1 hz
        exact Hk.out j z (by omega) (by rw [List.getElem?_eq_getElem hj, e])))
      go_wp2_with fail
      go_ret
      exact ⟨ret_int (by rw [HO.out, Hr.out, if_neg (Nat.lt_irrefl _)]), hb⟩
end Go.Proofs.YtgglheelhbfgiaaGreatDoor

namespace Go.Proofs.YtgglheelhbfgiaaGreatDoor
open Go Go.RowKit
theorem OwnRows.drewN {α : Type} {L : Lay α} {w : World} {base : Nat} {e : TypeId} {v : Value} {xs : List α} (h : OwnRows L w base e v xs) (n : Nat) : OwnRows L (w.drewN n) base e v xs := h.below (Go.below_drewN (Below.refl _ _) n)
section
variable {α : Type} {P : Program} (w : World)
theorem step_append_rows {ops : Array Oper} {o : Oper} {a : Act} {K : Act → World → Prop} {Q : Exit → Act → World → Prop} {E : Prop} (hgd : o.guard = none) (s x : Operand) (t : TypeId)
    (ho : o.op = .call { callee := .builtin .append, args := #[s, x], argTypes := #[t, t] })
    (L : Lay α) (base : Nat) (e : TypeId) (i : TypeInfo) (z : Value) (bytes : Nat) (ht : P.underlying t = some (.slice e)) (hi : P.info? e = some i) (hz : i.zero = some z)
    (hsize : i.size = L.sz) (hby : i.bytes = bytes) (hzs : z.cells.size = L.sz) (hsz : 0 < L.sz)
    (v : Value) (xs : List α) (hs : a.eval s = v) (hown : OwnRows L w base e v xs)
    (ad : Addr) (c : Nat) (y : α) (hx : a.eval x = .slice (some ad) 1 c) (hnews : ∀ j u, (L.cells y)[j]? = some u → w.cell? (ad.add j) = some u)
    (h63 : xs.length + 1 ≤ maxLen) (hbytes : (xs.length + 1) * bytes ≤ 140737488355328) (hbase : base ≤ w.heap.size)
    (h : ∀ v' w', OwnRows L w' base e v' (xs ++ [y]) → w.grownBy w' v.ownBlock → K (a.put o.dst v') w') :
    if Region.wanted o (yielded ops a.tmps) = true then Oper.wp P o a w K Q else E := by
  refine step_append_lies w hgd s x t ho base e i z L.sz bytes ht hi hz hsize hby hzs hsz v xs.length (flat L xs) hs hown ad 1 c (L.cells y) hx (by rw [L.len]; omega) hnews (L.one y) (by omega) h63 hbytes hbase _ rfl ?_
  intro g cap w' h1 h2 _ _
  refine h _ w' ?_ h2
  unfold OwnRows
  rw [flat_snoc, List.length_append]
  exact h1
end
end Go.Proofs.YtgglheelhbfgiaaGreatDoor

namespace Go.Proofs.YtgglheelhbfgiaaGreatDoor
open Go Go.RowKit
section
variable {α : Type} {P : Program} (w : World)
theorem OwnRows.lit (L : Lay α) (b base : Nat) (e : TypeId) (cs : Array Value) (n : Nat) (xs : List α) (hbb : b = w.heap.size) (hb : base ≤ w.heap.size) (hm : n ≤ maxLen) (hn : xs.length = n) (hcs : cs.toList = flat L xs) :
    OwnRows L (w.alloc (.cells cs e)) base e (.slice (some ⟨b, 0, none⟩) n n) xs := by
  subst hbb; subst hn
  unfold OwnRows
  rw [← hcs]
  exact World.ownsRow_lit w cs xs.length hb hm (by rw [← Array.length_toList, hcs, flat_length])
/-- 'out = append(out, more...)', at the operation. -/
theorem wpList_append_all {ops : Array Oper} {rest : List Oper} {o : Oper} {a : Act} {Q : Exit → Act → World → Prop} (hgd : o.guard = none) (s x : Operand) (t : TypeId)
    (ho : o.op = .call { callee := .builtin .append, args := #[s, x], argTypes := #[t, t] })
    (L : Lay α) (base : Nat) (e : TypeId) (i : TypeInfo) (z : Value) (bytes : Nat) (ht : P.underlying t = some (.slice e)) (hi : P.info? e = some i) (hz : i.zero = some z)
    (hsize : i.size = L.sz) (hby : i.bytes = bytes) (hzs : z.cells.size = L.sz) (hsz : 0 < L.sz)
    (v : Value) (xs : List α) (hs : a.eval s = v) (hown : OwnRows L w base e v xs)
    (u : Value) (ys : List α) (base' : Nat) (hx : a.eval x = u) (hu : OwnRows L w base' e u ys)
    (h63 : xs.length + ys.length ≤ maxLen) (hbytes : (xs.length + ys.length) * bytes ≤ 140737488355328) (hbase : base ≤ w.heap.size)
    (h : ∀ v' w', OwnRows L w' base e v' (xs ++ ys) → w.grownBy w' v.ownBlock → (v'.ownBlock = v.ownBlock ∨ v'.ownBlock = some w.heap.size) → wpList P ops Q rest (a.put o.dst v') w') :
    wpList P ops Q (o :: rest) a w := by
  rcases hu.2 with ⟨hu0, hy⟩ | ⟨g, cap, cur, rfl, hg, hgg, hcap, _⟩
  · have : ys = [] := List.length_eq_zero_iff.1 (by simpa using hy)
    subst this
    subst hu0
    refine wpList_append_own_none hgd s x t ho base e i L.sz ht hi v xs.length (flat L xs) hs hown hx ?_
    have := h v w (by simpa using hown) ⟨rfl, rfl, rfl, Nat.le_refl _, fun _ _ _ => rfl⟩ (.inl rfl)
    exact this
  · refine wpList_append_own_at (w := w) hgd s x t ho base e i z L.sz bytes ht hi hz hsize hby hzs hsz v xs.length (flat L xs) hs hown ⟨g, 0, none⟩ ys.length cap (flat L ys) hx (flat_length L ys) (World.ownsRow.cells hu (g := g) rfl) (flat_one L ys) h63 hbytes hbase ?_
    intro v' w' h1 h2 _ h4
    refine h v' w' ?_ h2 h4
    unfold OwnRows
    rw [flat_append, List.length_append]
    exact h1
/-- 'out = append(out, xs...)', xs a slice that is only read. -/
theorem wpList_append_from {ops : Array Oper} {rest : List Oper} {o : Oper} {a : Act} {Q : Exit → Act → World → Prop} (hgd : o.guard = none) (s x : Operand) (t : TypeId)
    (ho : o.op = .call { callee := .builtin .append, args := #[s, x], argTypes := #[t, t] })
    (L : Lay α) (base : Nat) (e : TypeId) (i : TypeInfo) (z : Value) (bytes : Nat) (ht : P.underlying t = some (.slice e)) (hi : P.info? e = some i) (hz : i.zero = some z)
    (hsize : i.size = L.sz) (hby : i.bytes = bytes) (hzs : z.cells.size = L.sz) (hsz : 0 < L.sz)
    (v : Value) (xs : List α) (hs : a.eval s = v) (hown : OwnRows L w base e v xs)
    (ad : Option Addr) (c m : Nat) (ys : List α) (hx : a.eval x = .slice ad m c) (hm : ys.length = m) (hu : RowsAt L w ad ys) (hnil : ad = none → c = 0)
    (h63 : xs.length + ys.length ≤ maxLen) (hbytes : (xs.length + ys.length) * bytes ≤ 140737488355328) (hbase : base ≤ w.heap.size)
    (h : ∀ v' w', OwnRows L w' base e v' (xs ++ ys) → w.grownBy w' v.ownBlock → (v'.ownBlock = v.ownBlock ∨ v'.ownBlock = some w.heap.size) → wpList P ops Q rest (a.put o.dst v') w') :
    wpList P ops Q (o :: rest) a w := by
  subst hm
  cases ad with
  | none =>
    obtain rfl := hnil rfl
    have : ys = [] := by
      cases ys with
      | nil => rfl
      | cons y ys =>
        obtain ⟨b, off, e, _⟩ := hu 0 y rfl
        cases e
    subst this
    refine wpList_append_own_none hgd s x t ho base e i L.sz ht hi v xs.length (flat L xs) hs hown hx ?_
    exact h v w (by simpa using hown) ⟨rfl, rfl, rfl, Nat.le_refl _, fun _ _ _ => rfl⟩ (.inl rfl)
  | some ad =>
    refine wpList_append_own_at (w := w) hgd s x t ho base e i z L.sz bytes ht hi hz hsize hby hzs hsz v xs.length (flat L xs) hs hown ad ys.length c (flat L ys) hx (flat_length L ys) (rows_flat hsz hu) (flat_one L ys) h63 hbytes hbase ?_
    intro v' w' h1 h2 _ h4
    refine h v' w' ?_ h2 h4
    unfold OwnRows
    rw [flat_append, List.length_append]
    exact h1
end
end Go.Proofs.YtgglheelhbfgiaaGreatDoor

namespace Go.Proofs.YtgglheelhbfgiaaGreatDoor
open Go Go.RowKit
def lowA (a : Option Addr) (k c sz : Nat) : Option Addr := if c = k then a else a.map (·.add (k * sz))
theorem lowA_nil {a : Option Addr} {k c sz : Nat} (h : a = none → c = 0) : lowA a k c sz = none → c - k = 0 := by
  unfold lowA
  split
  · omega
  · intro h2
    cases a with
    | none => rw [h rfl]; simp
    | some a => cases h2
theorem rows_low {α : Type} {L : Lay α} {w : World} {a : Option Addr} {xs : List α} {c : Nat} (h : RowsAt L w a xs) (hc : xs.length ≤ c) (k : Nat) : RowsAt L w (lowA a k c L.sz) (xs.drop k) := by
  unfold lowA
  split
  · have : xs.drop k = [] := List.drop_eq_nil_of_le (by omega)
    rw [this]
    exact RowsAt.nil _ _ _
  · intro j x hj
    rw [List.getElem?_drop] at hj
    obtain ⟨b, off, e, _⟩ := h _ _ hj
    subst e
    have := h.drop k j x (by rw [List.getElem?_drop]; exact hj)
    have e2 : (⟨b, off, none⟩ : Addr).add (k * L.sz) = ⟨b, off + k * L.sz, none⟩ := by
      unfold Addr.add
      split
      · simp only [Addr.mk.injEq, true_and, and_true]; omega
      · rfl
    rw [Option.map_some, e2]
    exact this
section
variable {P : Program} {t e : TypeId} {sz : Nat} (ht : P.underlying t = some (.slice e)) (hs : ∀ w, (sizeOf e).run P w = .ok sz w)
include ht hs
theorem slice_low (a : Option Addr) (n c k : Nat) (h : k ≤ n) (W : World) : (Instr.slice t (.slice a n c) (some (.int .i64 k)) none none).run P W = .ok (.slice (lowA a k c sz) (n - k) (c - k)) W := by
  have he : P.elem t = e := by unfold Program.elem; rw [ht]
  have ht' : P.underlying t = some (.slice (P.elem t)) := by rw [he]; exact ht
  rw [run_slice_l W t a n c ht' .i64 k (by omega) (by omega), he, hs]
  simp [sliced, lowA, Result.andThen]
theorem slice_high (a : Option Addr) (n c k : Nat) (h : k ≤ c) (W : World) : (Instr.slice t (.slice a n c) none (some (.int .i64 k)) none).run P W = .ok (.slice a k c) W := by
  have he : P.elem t = e := by unfold Program.elem; rw [ht]
  have ht' : P.underlying t = some (.slice (P.elem t)) := by rw [he]; exact ht
  rw [run_slice_h W t a n c ht' .i64 k (by omega) (by omega), he, hs]
  simp only [sliced, Result.andThen, Int.toNat_natCast, Nat.zero_mul, Nat.sub_zero]
  split
  · rfl
  · cases a with
    | none => rfl
    | some a => simp [Addr.add]
end
end Go.Proofs.YtgglheelhbfgiaaGreatDoor

