import Derived.Test.YtifpdejgkofnaaaDoorOpsW26
import Derived.IntWalk
namespace Go.Proofs.YtifpdejgkofnaaaDoor
open Go Go.RowKit Go.Lib

theorem keep4 {W w1 w2 : World} {p1 p2 p3 p4 : Addr} {v1 v2 v3 v4 : Value} (hb : Below W.heap.size W w1) (h : Below w1.heap.size w1 w2)
    (c1 : W.cell? p1 = some v1) (c2 : W.cell? p2 = some v2) (c3 : W.cell? p3 = some v3) (c4 : W.cell? p4 = some v4) (l1 : p1.block < W.heap.size) (l2 : p2.block < W.heap.size) (l3 : p3.block < W.heap.size) (l4 : p4.block < W.heap.size) :
    Below W.heap.size W w2 ∧ w2.cell? p1 = some v1 ∧ w2.cell? p2 = some v2 ∧ w2.cell? p3 = some v3 ∧ w2.cell? p4 = some v4 := by
  have hb2 := hb.trans (h.mono hb.size)
  exact ⟨hb2, (hb2.cell l1).trans c1, (hb2.cell l2).trans c2, (hb2.cell l3).trans c3, (hb2.cell l4).trans c4⟩

set_option maxRecDepth 100000 in
set_option maxHeartbeats 12800000 in
theorem radd_any (a : Option Addr) (cap : Nat) (l : List Opr) (x : Opr) (w : World) (hl : l.length ≤ 10000) (hn : x.name.size ≤ 100000) (hm : x.man.size ≤ 100000) (hnil : a = none → cap = 0) (hlc : l.length ≤ cap) (ha : RowsAt oprLay w a l) :
    Calls Tryd.prog 19 #[.slice a l.length cap, .agg #[.int .i64 x.cnt, .int .i64 x.who, .int .i64 x.seq, .int .i64 x.kind, .int .i64 x.nc, .int .i64 x.nw, .bool x.dir, .int .i64 x.pc, .int .i64 x.pw, .string x.name, .string x.man]] w fun e w' => ∃ a' cap', e = .returned (.tuple #[.slice a' (addO l x).1.length cap', .int .i64 (addO l x).2]) ∧ RowsAt oprLay w' a' (addO l x).1 ∧ (a' = none → cap' = 0) ∧ (addO l x).1.length ≤ cap' ∧ Below w.heap.size w w' := by
  obtain ⟨i0, hi, hz0, hz1, hz2⟩ := info_parts oprInfo
  have Hi := Lib.hid hi
  have Hz0 := Lib.hid hz0
  have Hz1 := Lib.hid hz1
  have Hz2 := Lib.hid hz2
  clear hi hz0 hz1 hz2
  obtain ⟨WX, hWX⟩ : ∃ WX, WX = w.alloc (.cells #[.int .i64 x.cnt, .int .i64 x.who, .int .i64 x.seq, .int .i64 x.kind, .int .i64 x.nc, .int .i64 x.nw, .bool x.dir, .int .i64 x.pc, .int .i64 x.pw, .string x.name, .string x.man] 25) := ⟨_, rfl⟩
  have hbx : Below w.heap.size w WX := by rw [hWX]; exact (Below.refl _ _).alloc (Nat.le_refl _) _
  have hX : VarAt WX w.heap.size x.cells := by rw [hWX]; exact box_VarAt w x
  have HA := Lib.hid fun W (h : Below w.heap.size w W) => ha.keeps h
  have HR := Lib.hid fun W => roright_any x W hn hm
  have HL := Lib.hid fun (y : Opr) W => rcless_any x.cnt x.who y.cnt y.who W
  have HL2 := Lib.hid fun (y : Opr) W => rcless_any y.cnt y.who x.cnt x.who W
  have HFB := Lib.hid (show ∀ y, foreB x y = lessC x.cnt x.who y.cnt y.who from fun _ => rfl)
  have HAT := Lib.hid (show atO l x = l.findIdx (foreB x) from rfl)
  have HT := Lib.hid (show ∀ y, twiceB x y = (decide ((⟨y.cnt, y.who⟩ : Stp) = ⟨x.cnt, x.who⟩) || (y.who == x.who && y.seq == x.seq)) from fun _ => rfl)
  have HH := Lib.hid (show ∀ y, aheadB x y = (y.who == x.who && y.seq == x.seq - 1) from fun _ => rfl)
  have HLt := Lib.hid (show ∀ y, lateB x y = (y.who == x.who && ((y.seq == x.seq - 1 && !lessC y.cnt y.who x.cnt x.who) || (decide (x.seq < y.seq) && !lessC x.cnt x.who y.cnt y.who))) from fun _ => rfl)
  have HS := Lib.hid (right_seq (x := x))
  have HD := Lib.hid (show addO l x = if rightO x ≠ 0 then ([], rightO x) else if memB l x then (l, 0) else if fitsO l x ≠ 0 then ([], fitsO l x) else if 400 ≤ l.length then ([], 40) else (insO l x, 0) from rfl)
  have HF := Lib.hid (show fitsO l x = if l.any (twiceB x) then 24 else if (x.seq == 1 || l.any (aheadB x)) = false then 26 else if l.any (lateB x) then 20 else 0 from rfl)
  have HM := Lib.hid (show memB l x = l.any fun y => decide (x = y) from rfl)
  generalize rightO x = ro at *
  generalize addO l x = ao at *
  generalize hta : twiceB x = tB at *
  generalize haa : aheadB x = aB at *
  generalize hla : lateB x = lB at *
  generalize hfb : foreB x = fB at *
  clear hta haa hla hfb ha
  have x0 := hX.2.2 0 _ rfl
  have x1 := hX.2.2 1 _ rfl
  have x2 := hX.2.2 2 _ rfl
  have x3 := hX.2.2 3 _ rfl
  have x4 := hX.2.2 4 _ rfl
  have x5 := hX.2.2 5 _ rfl
  have x6 := hX.2.2 6 _ rfl
  have x7 := hX.2.2 7 _ rfl
  have x8 := hX.2.2 8 _ rfl
  have x9 := hX.2.2 9 _ rfl
  have x10 := hX.2.2 10 _ rfl
  by_cases hro : ro = 0
  · subst hro
    have hs := HS.out rfl
    have hD2 := HD.out.trans (if_neg (fun h => h rfl))
    have HD2 := Lib.hid hD2
    have e1 : ((0 : Int) != 0) = false := rfl
    clear hD2
    go_enter Tryd.func19, Tryd.ntmps19
    go_wp2_with fail
    rw [← hWX]
    clear hWX
    refine (HR.out _).mono ?_
    rintro e w1 ⟨rfl, hb1⟩
    have hX1 := hX.keeps hb1 hX.1
    have hB1 := hbx.trans (hb1.mono hbx.size)
    clear hX hbx x0 x1 x2 x3 x4 x5 x6 x7 x8 x9 x10
    have x0 := hX1.2.2 0 _ rfl
    have x1 := hX1.2.2 1 _ rfl
    have x2 := hX1.2.2 2 _ rfl
    have x3 := hX1.2.2 3 _ rfl
    have x4 := hX1.2.2 4 _ rfl
    have x5 := hX1.2.2 5 _ rfl
    have x6 := hX1.2.2 6 _ rfl
    have x7 := hX1.2.2 7 _ rfl
    have x8 := hX1.2.2 8 _ rfl
    have x9 := hX1.2.2 9 _ rfl
    have x10 := hX1.2.2 10 _ rfl
    go_wp2_with fail
    go_loopw [7] (fun i wr => ∃ k : Nat, k ≤ l.length ∧ i = .int .i64 k ∧ Hid (∀ j y, j < k → l[j]? = some y → x ≠ y) ∧ ∃ n, wr = w1.drewN n) (fun i _ => l.length - (RowKit.intOf i).toNat)
    case atStart => exact ⟨0, Nat.zero_le _, rfl, Lib.hid (fun j _ hj => absurd hj (Nat.not_lt_zero _)), Drawn.refl _⟩
    case round =>
      obtain ⟨k, hk, rfl, Hk, n, rfl⟩ := hrel
      have haw := HA.out w1 hB1
      by_cases hlt : k < l.length
      · obtain ⟨y, hy⟩ := at_some hlt
        obtain ⟨b, off, rfl, hbl, c0, c1, c2, c3, c4, c5, c6, c7, c8, c9, c10⟩ := opr_at haw hy
        have Hy := Lib.hid hy
        clear hy
        have hk1 : (0 : Int) ≤ k := by omega
        have hk2 : (k : Int) < l.length := by omega
        have heq := eqlOpr y x
        by_cases h1 : x = y
        · have e2 : decide (y = x) = true := by rw [h1]; simp
          rw [e2] at heq
          have hmt : memB l x = true := by rw [HM.out]; exact any_hit Hy.out (by simp [h1])
          have HZ := Lib.hid (HD2.out.trans (if_pos hmt))
          clear h1 e2 hmt
          go_wp2_with fail
          go_quiet (fail)
          go_wp2_with fail
          go_ret2
          rw [HZ.out]
          exact ⟨_, cap, rfl, HA.out _ (belowDrew (belowDrew hB1 n) nq), hnil, hlc, belowDrew (belowDrew hB1 n) nq⟩
        · have e2 : decide (y = x) = false := by simp; exact fun h => h1 h.symm
          rw [e2] at heq
          have Hn := Lib.hid h1
          clear h1 e2
          go_wp2_with fail
          go_quiet (fail)
          go_wp2_with fail
          go_roundw
          case rel =>
            refine ⟨k + 1, by omega, by go_num, fun j z hj hz => ?_, n + nq, by simp⟩
            by_cases e : j = k
            · subst e; rw [Hy.out] at hz; cases hz; exact Hn.out
            · exact Hk.out j z (by omega) hz
          case measure => simp [RowKit.intOf]; omega
      · have hmf : memB l x = false := by
          rw [HM.out]
          exact any_none (fun j y hj hy => by have := Hk.out j y (by omega) hy; simp [this])
        have HD3 := Lib.hid (HD2.out.trans (if_neg (by rw [hmf]; simp)))
        clear hmf Hk
        have hB2 := belowDrew hB1 n
        have hX2 := hX1.drew n
        obtain ⟨WB, hWB⟩ : ∃ WB, WB = w1.drewN n := ⟨_, rfl⟩
        rw [← hWB] at hB2 hX2
        go_wp2_with fail
        rw [← hWB]
        clear hWB
        go_loopw [8, 9, 10] (fun ah lt i wr => ∃ k : Nat, k ≤ l.length ∧ ah = .bool (x.seq == 1 || (l.take k).any aB) ∧ lt = .bool ((l.take k).any lB) ∧ i = .int .i64 k ∧ Hid (∀ j y, j < k → l[j]? = some y → tB y = false) ∧ Below w.heap.size w wr ∧ VarAt wr w.heap.size x.cells) (fun _ _ i _ => l.length - (RowKit.intOf i).toNat)
        case atStart => exact ⟨0, Nat.zero_le _, by simp, by simp, rfl, Lib.hid (fun j _ hj => absurd hj (Nat.not_lt_zero _)), hB2, hX2⟩
        case round =>
          clear hB2 hX2
          obtain ⟨k, hk, rfl, rfl, rfl, Hk, hbw, hX1⟩ := hrel
          have hx1 := hX1.2.2 1 _ rfl
          by_cases hlt : k < l.length
          · obtain ⟨y, hy⟩ := at_some hlt
            obtain ⟨b, off, rfl, hbl, c0, c1, c2, c3, c4, c5, c6, c7, c8, c9, c10⟩ := opr_at (HA.out _ hbw) hy
            have Hy := Lib.hid hy
            have hX2 := hX1.keeps ((Below.refl _ _).alloc (Nat.le_refl _) (.cells #[.int .i64 y.cnt, .int .i64 y.who, .int .i64 y.seq, .int .i64 y.kind, .int .i64 y.nc, .int .i64 y.nw, .bool y.dir, .int .i64 y.pc, .int .i64 y.pw, .string y.name, .string y.man] 25)) hX1.1
            have hbY : Below w.heap.size w (wr.alloc (.cells #[.int .i64 y.cnt, .int .i64 y.who, .int .i64 y.seq, .int .i64 y.kind, .int .i64 y.nc, .int .i64 y.nw, .bool y.dir, .int .i64 y.pc, .int .i64 y.pw, .string y.name, .string y.man] 25)) := hbw.alloc hbw.size _
            have heq := eqlStp ⟨y.cnt, y.who⟩ ⟨x.cnt, x.who⟩
            dsimp only at heq
            have hYb := box_VarAt wr y
            obtain ⟨st, hst⟩ : ∃ st, decide ((⟨y.cnt, y.who⟩ : Stp) = ⟨x.cnt, x.who⟩) = st := ⟨_, rfl⟩
            obtain ⟨ow, how⟩ : ∃ ow, (y.who == x.who) = ow := ⟨_, rfl⟩
            obtain ⟨sq, hsq⟩ : ∃ sq, (y.seq == x.seq) = sq := ⟨_, rfl⟩
            obtain ⟨pv, hpv⟩ : ∃ pv, (y.seq == x.seq - 1) = pv := ⟨_, rfl⟩
            obtain ⟨gt, hgt⟩ : ∃ gt, decide (x.seq < y.seq) = gt := ⟨_, rfl⟩
            obtain ⟨l1, hl1⟩ : ∃ l1, lessC y.cnt y.who x.cnt x.who = l1 := ⟨_, rfl⟩
            obtain ⟨l2, hl2⟩ : ∃ l2, lessC x.cnt x.who y.cnt y.who = l2 := ⟨_, rfl⟩
            obtain ⟨late, hlate⟩ : ∃ late, (l.take k).any lB = late := ⟨_, rfl⟩
            rw [hst] at heq
            have Hst := Lib.hid hst
            have Ho := Lib.hid how
            have Ht := Lib.hid hsq
            have Hp := Lib.hid hpv
            have Hg := Lib.hid hgt
            have Hl1 := Lib.hid hl1
            have Hl2 := Lib.hid hl2
            have Hlate := Lib.hid hlate
            rw [hlate]
            have HLtY := Lib.hid (show lB y = (y.who == x.who && ((y.seq == x.seq - 1 && !l1) || (decide (x.seq < y.seq) && !l2))) by rw [HLt.out, hl1, hl2])
            clear hl1 hl2 hlate hst
            have g0 := hX2.2.2 0 _ rfl
            have g1 := hX2.2.2 1 _ rfl
            have g2 := hX2.2.2 2 _ rfl
            have k0 := hX1.2.2 0 _ rfl
            have k1 := hX1.2.2 1 _ rfl
            have k2 := hX1.2.2 2 _ rfl
            have hne : w.heap.size < wr.heap.size := hX1.1
            generalize hsa : (x.seq == 1 || (l.take k).any aB) = sa at *
            have Hsa := Lib.hid hsa
            clear hsa
            cases st with
            | true =>
              clear how hsq hpv hgt
              have HtE := Lib.hid (show tB y = true by rw [HT.out, Hst.out, Ho.out, Ht.out]; first | rfl | simp)
              have HZ := Lib.hid (show ao = ([], 24) by
                rw [HD3.out, HF.out, any_hit Hy.out HtE.out]
                rfl)
              go_wp2_with fail
              go_ret2
              rw [HZ.out]
              exact ⟨none, 0, rfl, RowsAt.nil _ _ _, fun _ => rfl, Nat.le_refl _, hbY⟩
            | false =>
              cases ow with
              | false =>
                clear hsq hpv hgt
                have HtE := Lib.hid (show tB y = false by rw [HT.out, Hst.out, Ho.out, Ht.out]; rfl)
                have HaE := Lib.hid (show aB y = false by rw [HH.out, Ho.out, Hp.out]; rfl)
                have HlE := Lib.hid (show lB y = false by rw [HLtY.out, Ho.out, Hp.out, Hg.out]; first | rfl | simp)
                go_wp2_with fail
                go_roundw
                case rel =>
                  refine ⟨k + 1, by omega, ?_, ?_, by go_num, fun j z hj hz => ?_, hbY, hX2⟩
                  · rw [any_take Hy.out, HaE.out, ← Bool.or_assoc, Hsa.out]; first | rfl | simp
                  · rw [any_take Hy.out, HlE.out, Hlate.out]; first | rfl | simp
                  · by_cases e : j = k
                    · subst e; rw [Hy.out] at hz; cases hz; exact HtE.out
                    · exact Hk.out j z (by omega) hz
                case measure => simp [RowKit.intOf]; omega
              | true =>
                cases sq with
                | true =>
                  clear hpv hgt
                  have HtE := Lib.hid (show tB y = true by rw [HT.out, Hst.out, Ho.out, Ht.out]; first | rfl | simp)
                  have HZ := Lib.hid (show ao = ([], 24) by
                    rw [HD3.out, HF.out, any_hit Hy.out HtE.out]
                    rfl)
                  go_wp2_with fail
                  go_ret2
                  rw [HZ.out]
                  exact ⟨none, 0, rfl, RowsAt.nil _ _ _, fun _ => rfl, Nat.le_refl _, hbY⟩
                | false =>
                  cases pv with
                  | true =>
                    have hgf : decide (x.seq < y.seq) = false := by
                      have := Hp.out
                      rw [beq_iff_eq] at this
                      simp; omega
                    rw [hgt] at hgf
                    subst hgf
                    have HtE := Lib.hid (show tB y = false by rw [HT.out, Hst.out, Ho.out, Ht.out]; rfl)
                    have HaE := Lib.hid (show aB y = true by rw [HH.out, Ho.out, Hp.out]; rfl)
                    have HlE := Lib.hid (show lB y = !l1 by rw [HLtY.out, Ho.out, Hp.out, Hg.out]; first | rfl | simp)
                    cases late with
                    | true =>
                      go_wp2_with fail
                      go_roundw
                      case rel =>
                        refine ⟨k + 1, by omega, ?_, ?_, by go_num, fun j z hj hz => ?_, hbY, hX2⟩
                        · rw [any_take Hy.out, HaE.out, ← Bool.or_assoc, Hsa.out]; first | rfl | simp
                        · rw [any_take Hy.out, HlE.out, Hlate.out]; first | rfl | simp
                        · by_cases e : j = k
                          · subst e; rw [Hy.out] at hz; cases hz; exact HtE.out
                          · exact Hk.out j z (by omega) hz
                      case measure => simp [RowKit.intOf]; omega
                    | false =>
                      go_wp2_with fail
                      refine (HL2.out y _).mono ?_
                      rintro e w2 ⟨rfl, hb2⟩
                      rw [Hl1.out]
                      have hb3 := hbY.trans (hb2.mono hbY.size)
                      have hX3 := hX2.keeps hb2 hX2.1
                      have hY3 := hYb.keeps hb2 hYb.1
                      have q1 := hX3.2.2 1 _ rfl
                      have q2 := hX3.2.2 2 _ rfl
                      have r1 := hY3.2.2 1 _ rfl
                      have r2 := hY3.2.2 2 _ rfl
                      go_wp2_with fail
                      go_roundw
                      case rel =>
                        refine ⟨k + 1, by omega, ?_, ?_, by go_num, fun j z hj hz => ?_, hb3, hX3⟩
                        · rw [any_take Hy.out, HaE.out, ← Bool.or_assoc, Hsa.out]; first | rfl | simp
                        · rw [any_take Hy.out, HlE.out, Hlate.out]; first | rfl | simp
                        · by_cases e : j = k
                          · subst e; rw [Hy.out] at hz; cases hz; exact HtE.out
                          · exact Hk.out j z (by omega) hz
                      case measure => simp [RowKit.intOf]; omega
                  | false =>
                    cases gt with
                    | false =>
                      have HtE := Lib.hid (show tB y = false by rw [HT.out, Hst.out, Ho.out, Ht.out]; rfl)
                      have HaE := Lib.hid (show aB y = false by rw [HH.out, Ho.out, Hp.out]; rfl)
                      have HlE := Lib.hid (show lB y = false by rw [HLtY.out, Ho.out, Hp.out, Hg.out]; first | rfl | simp)
                      go_wp2_with fail
                      go_roundw
                      case rel =>
                        refine ⟨k + 1, by omega, ?_, ?_, by go_num, fun j z hj hz => ?_, hbY, hX2⟩
                        · rw [any_take Hy.out, HaE.out, ← Bool.or_assoc, Hsa.out]; first | rfl | simp
                        · rw [any_take Hy.out, HlE.out, Hlate.out]; first | rfl | simp
                        · by_cases e : j = k
                          · subst e; rw [Hy.out] at hz; cases hz; exact HtE.out
                          · exact Hk.out j z (by omega) hz
                      case measure => simp [RowKit.intOf]; omega
                    | true =>
                      have HtE := Lib.hid (show tB y = false by rw [HT.out, Hst.out, Ho.out, Ht.out]; rfl)
                      have HaE := Lib.hid (show aB y = false by rw [HH.out, Ho.out, Hp.out]; rfl)
                      have HlE := Lib.hid (show lB y = !l2 by rw [HLtY.out, Ho.out, Hp.out, Hg.out]; first | rfl | simp)
                      cases late with
                      | true =>
                        go_wp2_with fail
                        go_roundw
                        case rel =>
                          refine ⟨k + 1, by omega, ?_, ?_, by go_num, fun j z hj hz => ?_, hbY, hX2⟩
                          · rw [any_take Hy.out, HaE.out, ← Bool.or_assoc, Hsa.out]; first | rfl | simp
                          · rw [any_take Hy.out, HlE.out, Hlate.out]; first | rfl | simp
                          · by_cases e : j = k
                            · subst e; rw [Hy.out] at hz; cases hz; exact HtE.out
                            · exact Hk.out j z (by omega) hz
                        case measure => simp [RowKit.intOf]; omega
                      | false =>
                        go_wp2_with fail
                        refine (HL.out y _).mono ?_
                        rintro e w2 ⟨rfl, hb2⟩
                        rw [Hl2.out]
                        have hb3 := hbY.trans (hb2.mono hbY.size)
                        have hX3 := hX2.keeps hb2 hX2.1
                        have hY3 := hYb.keeps hb2 hYb.1
                        have q1 := hX3.2.2 1 _ rfl
                        have q2 := hX3.2.2 2 _ rfl
                        have r1 := hY3.2.2 1 _ rfl
                        have r2 := hY3.2.2 2 _ rfl
                        go_wp2_with fail
                        go_roundw
                        case rel =>
                          refine ⟨k + 1, by omega, ?_, ?_, by go_num, fun j z hj hz => ?_, hb3, hX3⟩
                          · rw [any_take Hy.out, HaE.out, ← Bool.or_assoc, Hsa.out]; first | rfl | simp
                          · rw [any_take Hy.out, HlE.out, Hlate.out]; first | rfl | simp
                          · by_cases e : j = k
                            · subst e; rw [Hy.out] at hz; cases hz; exact HtE.out
                            · exact Hk.out j z (by omega) hz
                        case measure => simp [RowKit.intOf]; omega
          · have hfe := HF.out
            rw [any_none (p := tB) (fun j y hj hy => Hk.out j y (by omega) hy)] at hfe
            rw [any_all hlt, any_all hlt]
            have hfe2 : fitsO l x = if (x.seq == 1 || l.any aB) = false then 26 else if l.any lB then 20 else 0 := hfe
            have HFF := Lib.hid hfe2
            clear hfe hfe2
            generalize hAA : (x.seq == 1 || l.any aB) = aa at *
            generalize hLL : l.any lB = ll at *
            cases aa with
            | false =>
              have HZ := Lib.hid (show ao = ([], 26) by rw [HD3.out, HFF.out]; rfl)
              go_wp2_with fail
              go_ret2
              rw [HZ.out]
              exact ⟨none, 0, rfl, RowsAt.nil _ _ _, fun _ => rfl, Nat.le_refl _, hbw⟩
            | true =>
              cases ll with
              | true =>
                have HZ := Lib.hid (show ao = ([], 20) by rw [HD3.out, HFF.out]; rfl)
                go_wp2_with fail
                go_ret2
                rw [HZ.out]
                exact ⟨none, 0, rfl, RowsAt.nil _ _ _, fun _ => rfl, Nat.le_refl _, hbw⟩
              | false =>
                by_cases hbig : 400 ≤ l.length
                · have HZ := Lib.hid (show ao = ([], 40) by rw [HD3.out, HFF.out]; exact (if_neg (fun h => h rfl)).trans (if_pos hbig))
                  go_wp2_with fail
                  go_ret2
                  rw [HZ.out]
                  exact ⟨none, 0, rfl, RowsAt.nil _ _ _, fun _ => rfl, Nat.le_refl _, hbw⟩
                · have HZ := Lib.hid (show ao = (insO l x, 0) by rw [HD3.out, HFF.out]; exact (if_neg (fun h => h rfl)).trans (if_neg hbig))
                  have hB2 := hbw
                  have hX2 := hX1
                  clear hbw hX1 hx1 Hk HFF
                  go_wp2_with fail
                  go_loopw [12] (fun i wr => ∃ k : Nat, k ≤ l.length ∧ i = .int .i64 k ∧ Hid (∀ j y, j < k → l[j]? = some y → fB y = false) ∧ Below w.heap.size w wr ∧ VarAt wr w.heap.size x.cells) (fun i _ => l.length - (RowKit.intOf i).toNat)
                  case atStart => exact ⟨0, Nat.zero_le _, rfl, Lib.hid (fun j _ hj => absurd hj (Nat.not_lt_zero _)), hB2, hX2⟩
                  case round =>
                    clear hB2 hX2
                    obtain ⟨k, hk, rfl, Hk, hb, hX⟩ := hrel
                    have haw := HA.out wr hb
                    have x0 := hX.2.2 0 _ rfl
                    have x1 := hX.2.2 1 _ rfl
                    have hk1 : (0 : Int) ≤ k := by omega
                    have fin : k ≤ l.length → l.findIdx fB = k → True := fun _ _ => trivial
                    clear fin
                    by_cases hlt : k < l.length
                    · obtain ⟨y, hy⟩ := at_some hlt
                      obtain ⟨b, off, hae, hbl, c0, c1, c2, c3, c4, c5, c6, c7, c8, c9, c10⟩ := opr_at haw hy
                      have Hy := Lib.hid hy
                      have hk2 : (k : Int) < l.length := by omega
                      have e0 : decide ((k : Int) < (l.length : Int)) = true := by simpa using hk2
                      have HLy := Lib.hid (HL.out y)
                      have Hf := Lib.hid (HFB.out y)
                      obtain ⟨lv, hlv⟩ : ∃ lv, lessC x.cnt x.who y.cnt y.who = lv := ⟨_, rfl⟩
                      rw [hlv] at HLy Hf
                      clear hy hlv
                      have hlx := hX.1
                      have hkc := keep4 (Below.refl wr.heap.size wr) (Below.refl wr.heap.size wr).drew x0 x1 c0 c1 hlx hlx hbl hbl
                      cases lv with
                      | false =>
                        have hae2 := hae
                        subst hae2
                        go_wp2_with fail
                        go_region_held3 (fun w' => Below wr.heap.size wr w' ∧ w'.cell? ⟨w.heap.size, 0, none⟩ = some (.int .i64 x.cnt) ∧ w'.cell? ⟨w.heap.size, 1, none⟩ = some (.int .i64 x.who) ∧ w'.cell? ⟨b, off + k * 11, none⟩ = some (.int .i64 y.cnt) ∧ w'.cell? ⟨b, off + k * 11 + 1, none⟩ = some (.int .i64 y.who))
                          (first | exact hkc | (go_split_ands; exact keep4 (by assumption) hbl2 x0 x1 c0 c1 hlx hlx hbl hbl) | go_keep)
                          (first | (go_at_call 50; refine (HLy.out _).mono ?_; rintro e w' ⟨rfl, hbl2⟩))
                        rename_i hH
                        obtain ⟨hbz, -, -, -, -⟩ := hH
                        have hB := hb.trans (hbz.mono hb.size)
                        have hXz := hX.keeps hbz hlx
                        go_wp2_with fail
                        go_roundw
                        case rel =>
                          refine ⟨k + 1, by omega, by go_num, fun j z hj hz => ?_, hB, hXz⟩
                          by_cases e : j = k
                          · subst e; rw [Hy.out] at hz; cases hz; exact Hf.out
                          · exact Hk.out j z (by omega) hz
                        case measure => simp [RowKit.intOf]; omega
                      | true =>
                        have Hat := Lib.hid (show atO l x = k from by
                          rw [HAT.out]
                          exact (List.findIdx_eq hlt).2 ⟨by have h1 := Hy.out; rw [List.getElem?_eq_getElem hlt] at h1; cases h1; exact Hf.out, fun j hj => Hk.out j _ hj (List.getElem?_eq_getElem (by omega))⟩)
                        have hae2 := hae
                        subst hae2
                        go_wp2_with fail
                        go_region_held3 (fun w' => Below wr.heap.size wr w' ∧ w'.cell? ⟨w.heap.size, 0, none⟩ = some (.int .i64 x.cnt) ∧ w'.cell? ⟨w.heap.size, 1, none⟩ = some (.int .i64 x.who) ∧ w'.cell? ⟨b, off + k * 11, none⟩ = some (.int .i64 y.cnt) ∧ w'.cell? ⟨b, off + k * 11 + 1, none⟩ = some (.int .i64 y.who))
                          (first | exact hkc | (go_split_ands; exact keep4 (by assumption) hbl2 x0 x1 c0 c1 hlx hlx hbl hbl) | go_keep)
                          (first | (go_at_call 50; refine (HLy.out _).mono ?_; rintro e w' ⟨rfl, hbl2⟩))
                        rename_i hH
                        obtain ⟨hbz, -, -, -, -⟩ := hH
                        have hB := hb.trans (hbz.mono hb.size)
                        have hXz := hX.keeps hbz hlx
                        clear x0 x1 c0 c1 c2 c3 c4 c5 c6 c7 c8 c9 c10 hkc hae
                        have haz := HA.out _ hB
                        have z0 := hXz.2.2 0 _ rfl
                        have z1 := hXz.2.2 1 _ rfl
                        have z2 := hXz.2.2 2 _ rfl
                        have z3 := hXz.2.2 3 _ rfl
                        have z4 := hXz.2.2 4 _ rfl
                        have z5 := hXz.2.2 5 _ rfl
                        have z6 := hXz.2.2 6 _ rfl
                        have z7 := hXz.2.2 7 _ rfl
                        have z8 := hXz.2.2 8 _ rfl
                        have z9 := hXz.2.2 9 _ rfl
                        have z10 := hXz.2.2 10 _ rfl
                        have hkle : k ≤ l.length := by omega
                        have hsh := fun W => slice_high (P := Tryd.prog) Tryd.underlying27 Tryd.sizeOf25 (some ⟨b, off, none⟩) l.length cap k (by omega) W
                        have hslw := fun W => slice_low (P := Tryd.prog) Tryd.underlying27 Tryd.sizeOf25 (some ⟨b, off, none⟩) l.length cap k hkle W
                        have hr1 := haz.take k
                        have Hres := Lib.hid (show insO l x = l.take k ++ x :: l.drop k by unfold insO; rw [Hat.out])
                        have hsz := hB.size
                        go_wp2_with (at_builtin; refine wpList_append_from _ rfl _ _ 27 rfl oprLay w.heap.size 25 i0 (.agg #[.int .i64 0, .int .i64 0, .int .i64 0, .int .i64 0, .int .i64 0, .int .i64 0, .bool false, .int .i64 0, .int .i64 0, .string ⟨#[]⟩, .string ⟨#[]⟩]) 104 Tryd.underlying27 Hi.out Hz0.out Hz1.out Hz2.out rfl (by decide) _ [] rfl (OwnRows.nil _ _ _ _) (some ⟨b, off, none⟩) cap k (l.take k) rfl (by rw [List.length_take]; omega) hr1 hnil (by unfold maxLen; simp; omega) (by simp; omega) (by first | exact hB.size | simpa using hB.size) ?_)
                        intro v1 wa ho1 hg1 _
                        have hBa := hB.grown hg1 (by first | exact hB.size | simpa using hB.size) (fun j ej => by cases ej)
                        have hXa := hXz.grown hg1 (by simp [Value.ownBlock])
                        have haa := HA.out _ hBa
                        replace ho1 : OwnRows oprLay wa w.heap.size 25 v1 (l.take k) := by simpa using ho1
                        clear hg1 z0 z1 z2 z3 z4 z5 z6 z7 z8 z9 z10 hsh
                        have z0 := hXa.2.2 0 _ rfl
                        have z1 := hXa.2.2 1 _ rfl
                        have z2 := hXa.2.2 2 _ rfl
                        have z3 := hXa.2.2 3 _ rfl
                        have z4 := hXa.2.2 4 _ rfl
                        have z5 := hXa.2.2 5 _ rfl
                        have z6 := hXa.2.2 6 _ rfl
                        have z7 := hXa.2.2 7 _ rfl
                        have z8 := hXa.2.2 8 _ rfl
                        have z9 := hXa.2.2 9 _ rfl
                        have z10 := hXa.2.2 10 _ rfl
                        go_wp2_with (at_builtin; refine wpList_append_rows _ rfl _ _ 27 rfl oprLay w.heap.size 25 i0 (.agg #[.int .i64 0, .int .i64 0, .int .i64 0, .int .i64 0, .int .i64 0, .int .i64 0, .bool false, .int .i64 0, .int .i64 0, .string ⟨#[]⟩, .string ⟨#[]⟩]) 104 Tryd.underlying27 Hi.out Hz0.out Hz1.out Hz2.out rfl (by decide) _ _ rfl (ho1.alloc _) ⟨wa.heap.size, 0, none⟩ 1 x rfl (cells_new_at _ wa.heap.size #[.int .i64 x.cnt, .int .i64 x.who, .int .i64 x.seq, .int .i64 x.kind, .int .i64 x.nc, .int .i64 x.nw, .bool x.dir, .int .i64 x.pc, .int .i64 x.pw, .string x.name, .string x.man] 25 rfl) (by unfold maxLen; rw [List.length_take]; omega) (by rw [List.length_take]; omega) (by have := hBa.size; simp; omega) ?_)
                        intro v2 wb ho2 hg2 _
                        have hBb := (hBa.alloc hBa.size (.cells #[.int .i64 x.cnt, .int .i64 x.who, .int .i64 x.seq, .int .i64 x.kind, .int .i64 x.nc, .int .i64 x.nw, .bool x.dir, .int .i64 x.pc, .int .i64 x.pw, .string x.name, .string x.man] 25)).grown hg2 (by have := hBa.size; simp; omega) (fun j ej => (ho1.lt ej).1)
                        have hab := rows_low (HA.out _ hBb) hlc k
                        clear hg2 z0 z1 z2 z3 z4 z5 z6 z7 z8 z9 z10 ho1 haa
                        rw [show oprLay.sz = 11 from rfl] at hab
                        go_wp2_with (at_builtin; refine wpList_append_from _ rfl _ _ 27 rfl oprLay w.heap.size 25 i0 (.agg #[.int .i64 0, .int .i64 0, .int .i64 0, .int .i64 0, .int .i64 0, .int .i64 0, .bool false, .int .i64 0, .int .i64 0, .string ⟨#[]⟩, .string ⟨#[]⟩]) 104 Tryd.underlying27 Hi.out Hz0.out Hz1.out Hz2.out rfl (by decide) _ _ rfl ho2 (lowA (some ⟨b, off, none⟩) k cap 11) (cap - k) (l.length - k) (l.drop k) rfl (by rw [List.length_drop]) hab (lowA_nil hnil) (by unfold maxLen; simp; omega) (by simp; omega) hBb.size ?_)
                        intro v3 wc ho3 hg3 _
                        have hBc := hBb.grown hg3 hBb.size (fun j ej => (ho2.lt ej).1)
                        have ho4 : OwnRows oprLay wc w.heap.size 25 v3 (insO l x) := by rw [Hres.out]; simpa using ho3
                        obtain ⟨a', cap', rfl, hra, hlc', hnil', _⟩ := ho4.read_nil
                        clear hg3 ho2 ho3 ho4
                        go_wp2_with fail
                        go_ret2
                        rw [HZ.out]
                        exact ⟨a', cap', rfl, hra, hnil', hlc', hBc⟩
                    · obtain rfl : k = l.length := by omega
                      have Hat := Lib.hid (show atO l x = l.length from by
                        rw [HAT.out]
                        exact List.findIdx_eq_length.2 (fun z hz => by
                          obtain ⟨j, hj, e⟩ := List.mem_iff_getElem.1 hz
                          exact Hk.out j z hj (by rw [List.getElem?_eq_getElem hj, e])))
                      have e0 : decide ((l.length : Int) < (l.length : Int)) = false := by simp
                      go_wp2_with fail
                      go_quiet (fail)
                      have hB := belowDrew hb nq
                      have hXz := hX.drew nq
                      clear x0 x1
                      have haz := HA.out _ hB
                      have z0 := hXz.2.2 0 _ rfl
                      have z1 := hXz.2.2 1 _ rfl
                      have z2 := hXz.2.2 2 _ rfl
                      have z3 := hXz.2.2 3 _ rfl
                      have z4 := hXz.2.2 4 _ rfl
                      have z5 := hXz.2.2 5 _ rfl
                      have z6 := hXz.2.2 6 _ rfl
                      have z7 := hXz.2.2 7 _ rfl
                      have z8 := hXz.2.2 8 _ rfl
                      have z9 := hXz.2.2 9 _ rfl
                      have z10 := hXz.2.2 10 _ rfl
                      have hkle : l.length ≤ l.length := by omega
                      have hsh := fun W => slice_high (P := Tryd.prog) Tryd.underlying27 Tryd.sizeOf25 a l.length cap l.length (by omega) W
                      have hslw := fun W => slice_low (P := Tryd.prog) Tryd.underlying27 Tryd.sizeOf25 a l.length cap l.length hkle W
                      have hr1 := haz.take l.length
                      have Hres := Lib.hid (show insO l x = l.take l.length ++ x :: l.drop l.length by unfold insO; rw [Hat.out])
                      have hsz := hB.size
                      go_wp2_with (at_builtin; refine wpList_append_from _ rfl _ _ 27 rfl oprLay w.heap.size 25 i0 (.agg #[.int .i64 0, .int .i64 0, .int .i64 0, .int .i64 0, .int .i64 0, .int .i64 0, .bool false, .int .i64 0, .int .i64 0, .string ⟨#[]⟩, .string ⟨#[]⟩]) 104 Tryd.underlying27 Hi.out Hz0.out Hz1.out Hz2.out rfl (by decide) _ [] rfl (OwnRows.nil _ _ _ _) a cap l.length (l.take l.length) rfl (by rw [List.length_take]; omega) hr1 hnil (by unfold maxLen; simp; omega) (by simp; omega) (by first | exact hB.size | simpa using hB.size) ?_)
                      intro v1 wa ho1 hg1 _
                      have hBa := hB.grown hg1 (by first | exact hB.size | simpa using hB.size) (fun j ej => by cases ej)
                      have hXa := hXz.grown hg1 (by simp [Value.ownBlock])
                      have haa := HA.out _ hBa
                      replace ho1 : OwnRows oprLay wa w.heap.size 25 v1 (l.take l.length) := by simpa using ho1
                      clear hg1 z0 z1 z2 z3 z4 z5 z6 z7 z8 z9 z10 hsh
                      have z0 := hXa.2.2 0 _ rfl
                      have z1 := hXa.2.2 1 _ rfl
                      have z2 := hXa.2.2 2 _ rfl
                      have z3 := hXa.2.2 3 _ rfl
                      have z4 := hXa.2.2 4 _ rfl
                      have z5 := hXa.2.2 5 _ rfl
                      have z6 := hXa.2.2 6 _ rfl
                      have z7 := hXa.2.2 7 _ rfl
                      have z8 := hXa.2.2 8 _ rfl
                      have z9 := hXa.2.2 9 _ rfl
                      have z10 := hXa.2.2 10 _ rfl
                      go_wp2_with (at_builtin; refine wpList_append_rows _ rfl _ _ 27 rfl oprLay w.heap.size 25 i0 (.agg #[.int .i64 0, .int .i64 0, .int .i64 0, .int .i64 0, .int .i64 0, .int .i64 0, .bool false, .int .i64 0, .int .i64 0, .string ⟨#[]⟩, .string ⟨#[]⟩]) 104 Tryd.underlying27 Hi.out Hz0.out Hz1.out Hz2.out rfl (by decide) _ _ rfl (ho1.alloc _) ⟨wa.heap.size, 0, none⟩ 1 x rfl (cells_new_at _ wa.heap.size #[.int .i64 x.cnt, .int .i64 x.who, .int .i64 x.seq, .int .i64 x.kind, .int .i64 x.nc, .int .i64 x.nw, .bool x.dir, .int .i64 x.pc, .int .i64 x.pw, .string x.name, .string x.man] 25 rfl) (by unfold maxLen; rw [List.length_take]; omega) (by rw [List.length_take]; omega) (by have := hBa.size; simp; omega) ?_)
                      intro v2 wb ho2 hg2 _
                      have hBb := (hBa.alloc hBa.size (.cells #[.int .i64 x.cnt, .int .i64 x.who, .int .i64 x.seq, .int .i64 x.kind, .int .i64 x.nc, .int .i64 x.nw, .bool x.dir, .int .i64 x.pc, .int .i64 x.pw, .string x.name, .string x.man] 25)).grown hg2 (by have := hBa.size; simp; omega) (fun j ej => (ho1.lt ej).1)
                      have hab := rows_low (HA.out _ hBb) hlc l.length
                      clear hg2 z0 z1 z2 z3 z4 z5 z6 z7 z8 z9 z10 ho1 haa
                      rw [show oprLay.sz = 11 from rfl] at hab
                      go_wp2_with (at_builtin; refine wpList_append_from _ rfl _ _ 27 rfl oprLay w.heap.size 25 i0 (.agg #[.int .i64 0, .int .i64 0, .int .i64 0, .int .i64 0, .int .i64 0, .int .i64 0, .bool false, .int .i64 0, .int .i64 0, .string ⟨#[]⟩, .string ⟨#[]⟩]) 104 Tryd.underlying27 Hi.out Hz0.out Hz1.out Hz2.out rfl (by decide) _ _ rfl ho2 (lowA a l.length cap 11) (cap - l.length) 0 (l.drop l.length) rfl (by simp) hab (lowA_nil hnil) (by unfold maxLen; simp; omega) (by simp; omega) hBb.size ?_)
                      intro v3 wc ho3 hg3 _
                      have hBc := hBb.grown hg3 hBb.size (fun j ej => (ho2.lt ej).1)
                      have ho4 : OwnRows oprLay wc w.heap.size 25 v3 (insO l x) := by rw [Hres.out]; simpa using ho3
                      obtain ⟨a', cap', rfl, hra, hlc', hnil', _⟩ := ho4.read_nil
                      clear hg3 ho2 ho3 ho4
                      go_wp2_with fail
                      go_ret2
                      rw [HZ.out]
                      exact ⟨a', cap', rfl, hra, hnil', hlc', hBc⟩
  · have hD2 := HD.out.trans (if_pos hro)
    have HZ := Lib.hid hD2
    have e1 : (ro != 0) = true := by rw [bne_iff_ne]; exact hro
    clear hD2
    go_enter Tryd.func19, Tryd.ntmps19
    go_wp2_with fail
    rw [← hWX]
    refine (HR.out _).mono ?_
    rintro e w1 ⟨rfl, hb1⟩
    have hc1 := hbx.trans (hb1.mono hbx.size)
    go_wp2_with fail
    go_ret2
    rw [HZ.out]
    exact ⟨none, 0, rfl, RowsAt.nil _ _ _, fun _ => rfl, Nat.le_refl _, hc1⟩
end Go.Proofs.YtifpdejgkofnaaaDoor
