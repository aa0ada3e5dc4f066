import Derived.Test.YtifpdejgkofnaaaDoorOpsW23
import Derived.Test.YtifpdejgkofnaaaDoorOpsW22
import Derived.Deep.RegionHeld3
namespace Go.Proofs.YtifpdejgkofnaaaDoor
open Go Go.RowKit Go.Lib

set_option maxRecDepth 100000 in
set_option maxHeartbeats 6400000 in
theorem rsince_any (a a' : Option Addr) (cap cap' : Nat) (l : List Opr) (v : List Int) (w : World) (hl : l.length ≤ 100000) (hvl : v.length ≤ 100000) (ha : RowsAt oprLay w a l) (hv : RowsAt numLay w a' v) :
    Calls Tryd.prog 25 #[.slice a l.length cap, .slice a' v.length cap'] w fun e w' => ∃ u, e = .returned u ∧ OwnRows oprLay w' w.heap.size 25 u (sinO l v) ∧ Below w.heap.size w w' := by
  obtain ⟨i0, hi, hz0, hz1, hz2⟩ := info_parts oprInfo
  have Hi := Lib.hid hi
  have Hz0 := Lib.hid hz0
  have Hz1 := Lib.hid hz1
  have Hz2 := Lib.hid hz2
  clear hi hz0 hz1 hz2
  have HA := Lib.hid ha
  have HT := Lib.hid fun W (h : Below w.heap.size w W) n => at04_any a' cap' v n W (by omega) (hv.keeps h)
  clear ha hv hvl
  go_enter Tryd.func25, Tryd.ntmps25
  go_wp2_with fail
  go_loopw [5, 6] (fun u i wr => ∃ k : Nat, k ≤ l.length ∧ i = .int .i64 k ∧ OwnRows oprLay wr w.heap.size 25 u (sinO (l.take k) v) ∧ Below w.heap.size w wr) (fun _ i _ => l.length - (RowKit.intOf i).toNat)
  case atStart => exact ⟨0, Nat.zero_le _, rfl, OwnRows.nil _ _ _ _, Below.refl _ _⟩
  case round =>
    obtain ⟨k, hk, rfl, ho, hb⟩ := hrel
    by_cases hlt : k < l.length
    · obtain ⟨y, hy⟩ := at_some hlt
      obtain ⟨b, off, rfl, hbl, c0, c1, c2, c3, c4, c5, c6, c7, c8, c9, c10⟩ := opr_at (HA.out.keeps hb) hy
      have Hst := Lib.hid (sin_step (v := v) hy)
      have hlen := sin_len l v k
      have Hnb := Lib.hid (show newB v y = decide (atV v y.who < y.seq) from rfl)
      have hk1 : (0 : Int) ≤ k := by omega
      have hk2 : (k : Int) < l.length := by omega
      clear hy
      generalize newB v y = nb at *
      generalize sinO (l.take k) v = out at *
      have HTw := Lib.hid fun n => HT.out (wr.drewN n) (belowDrew hb n) y.who
      generalize atV v y.who = tv at *
      by_cases hs : tv < y.seq
      · have hnt : nb = true := by rw [Hnb.out]; simpa using hs
        subst hnt
        have e1 : decide (tv < y.seq) = true := by simpa using hs
        go_wp2_with fail
        go_quiet ((go_at_call 51; exact Calls.quiet_of_same (HTw.out _)))
        have ho1 : OwnRows oprLay (wr.drewN nq) w.heap.size 25 _ out := ho.drewN nq
        have hb1 := belowDrew hb nq
        go_wp2_with (at_builtin; refine wpList_append_rows _ rfl _ _ 27 rfl oprLay w.heap.size 25 i0 (.agg #[.int .i64 0, .int .i64 0, .int .i64 0, .int .i64 0, .int .i64 0, .int .i64 0, .bool false, .int .i64 0, .int .i64 0, .string ⟨#[]⟩, .string ⟨#[]⟩]) 104 Tryd.underlying27 Hi.out Hz0.out Hz1.out Hz2.out rfl (by decide) _ _ rfl (ho1.alloc _) ⟨wr.heap.size, 0, none⟩ 1 y rfl (cells_new_at _ wr.heap.size #[.int .i64 y.cnt, .int .i64 y.who, .int .i64 y.seq, .int .i64 y.kind, .int .i64 y.nc, .int .i64 y.nw, .bool y.dir, .int .i64 y.pc, .int .i64 y.pw, .string y.name, .string y.man] 25 rfl) (by unfold maxLen; omega) (by omega) (by have := hb.size; simp; omega) ?_)
        intro v2 w4 ho4 hg4 _
        have hb4 := (hb1.alloc hb1.size (.cells #[.int .i64 y.cnt, .int .i64 y.who, .int .i64 y.seq, .int .i64 y.kind, .int .i64 y.nc, .int .i64 y.nw, .bool y.dir, .int .i64 y.pc, .int .i64 y.pw, .string y.name, .string y.man] 25)).grown hg4 (by have := hb.size; simp; omega) (fun j ej => (ho1.lt ej).1)
        clear hg4 ho ho1
        go_wp2_with fail
        go_roundw
        case rel => exact ⟨k + 1, by omega, by go_num, by rw [Hst.out]; exact ho4, hb4⟩
        case measure => simp [RowKit.intOf]; omega
      · have hnt : nb = false := by rw [Hnb.out]; simpa using hs
        subst hnt
        have e1 : decide (tv < y.seq) = false := by simpa using hs
        go_wp2_with fail
        go_quiet ((go_at_call 51; exact Calls.quiet_of_same (HTw.out _)))
        go_wp2_with fail
        go_roundw
        case rel => exact ⟨k + 1, by omega, by go_num, by rw [Hst.out]; simpa using ho.drewN nq, belowDrew hb nq⟩
        case measure => simp [RowKit.intOf]; omega
    · rw [List.take_of_length_le (by omega)] at ho
      go_wp2_with fail
      go_ret
      exact ⟨_, rfl, ho, hb⟩

set_option maxRecDepth 100000 in
set_option maxHeartbeats 3200000 in
theorem law_opsSince (a : Option Addr) (cap : Nat) (l : List Opr) (a' : Option Addr) (cap' : Nat) (v : List Int) (w : World) (ha : RowsAt oprLay w a l) (_ : l.length ≤ cap) (hl : l.length ≤ 140737488351232) (_ : a = none → cap = 0) (hlo : ∀ x ∈ l, -9223372036854775808 ≤ x.who)
    (hv : RowsAt numLay w a' v) (_ : v.length ≤ cap') (hvl : v.length * Tryd.prog.bytesOf 3 ≤ 140737488351232) (_ : a' = none → cap' = 0) :
    Calls Tryd.prog 8 #[.slice a l.length cap, .slice a' v.length cap'] w fun e w' => e = .returned (.bool true) ∧ Below w.heap.size w w' := by
  have HA := Lib.hid awake06_any
  have HF := Lib.hid (few06_any a cap l w (by omega) ha)
  rw [show Tryd.prog.bytesOf 3 = 8 by kernel_rfl] at hvl
  by_cases hg : fewO l = true ∧ v.length ≤ 1000
  · obtain ⟨hf, hv1⟩ := hg
    have hfl := few_len hf
    have HV := Lib.hid fun W (h : RowsAt oprLay W a l) => vector_any a cap l W (by omega) h
    have HR := Lib.hid fun W (h : RowsAt oprLay W a l) => rvector_any a cap l W (by omega) hlo h
    have HSi := Lib.hid fun W (h : RowsAt oprLay W a l) (h' : RowsAt numLay W a' v) => since_any a a' cap cap' l v W (by omega) (by omega) h h'
    have HSr := Lib.hid fun W (h : RowsAt oprLay W a l) (h' : RowsAt numLay W a' v) => rsince_any a a' cap cap' l v W (by omega) (by omega) h h'
    have hvl : (vecO l).length ≤ 15 := by unfold vecO; rw [padO_len]; exact lenO_le l
    have hsl : (sinO l v).length ≤ 450 := Nat.le_trans (List.length_filter_le _ _) hfl
    rw [hf] at HF
    clear hf hlo
    generalize vecO l = vl at *
    generalize sinO l v = sl at *
    have hv2 : ¬ ((1000 : Int) < v.length) := by omega
    have e0 : decide ((1000 : Int) < v.length) = false := by simpa using hv2
    go_enter Tryd.func8, Tryd.ntmps8
    go_wp2_with fail
    refine HF.out.mono ?_
    rintro e w1 ⟨rfl, rfl⟩
    go_wp2_with fail
    refine (HV.out _ ha).mono ?_
    rintro e w2 ⟨v2, rfl, ho2, hb2⟩
    go_wp2_with fail
    refine (HR.out _ (ha.keeps hb2)).mono ?_
    rintro e w3 ⟨v3, rfl, ho3, hb3⟩
    obtain ⟨a3, c3, rfl, hr3, _⟩ := ho3.read
    obtain ⟨a2, c2, rfl, hr2, _⟩ := (ho2.below hb3).read
    have hB := hb2.trans (hb3.mono hb2.size)
    have HS := Lib.hid (nums_any a2 a3 c2 c3 vl vl w3 (by omega) hr2 hr3)
    rw [decide_eq_true rfl] at HS
    clear ho2 ho3
    go_wp2_with fail
    refine HS.out.mono ?_
    rintro e w4 ⟨rfl, n4, rfl⟩
    have hB4 := belowDrew hB n4
    go_wp2_with fail
    refine (HSi.out _ (ha.keeps hB4) (hv.keeps hB4)).mono ?_
    rintro e w5 ⟨v5, rfl, ho5, hb5⟩
    have hB5 := hB4.trans (hb5.mono hB4.size)
    go_wp2_with fail
    refine (HSr.out _ (ha.keeps hB5) (hv.keeps hB5)).mono ?_
    rintro e w6 ⟨v6, rfl, ho6, hb6⟩
    have hB6 := hB5.trans (hb6.mono hB5.size)
    obtain ⟨a6, c6, rfl, hr6, _⟩ := ho6.read
    obtain ⟨a5, c5, rfl, hr5, _⟩ := (ho5.below hb6).read
    have HO := Lib.hid (oprs_any a5 a6 c5 c6 sl sl w6 (by omega) hr5 hr6)
    rw [decide_eq_true rfl] at HO
    clear ho5 ho6
    go_wp2_with fail
    refine HO.out.mono ?_
    rintro e w7 ⟨rfl, n7, rfl⟩
    have hB7 := belowDrew hB6 n7
    go_wp2_with fail
    refine (HA.out _).mono ?_
    rintro e w8 ⟨rfl, hb8⟩
    go_wp2_with fail
    go_ret
    exact ⟨rfl, hB7.trans (hb8.mono hB7.size)⟩
  · cases hf : fewO l with
    | true =>
      have hv1 : ¬ (v.length ≤ 1000) := fun h => hg ⟨hf, h⟩
      have e0 : decide ((1000 : Int) < v.length) = true := by simp; omega
      rw [hf] at HF
      clear hf hg
      go_enter Tryd.func8, Tryd.ntmps8
      go_wp2_with fail
      refine HF.out.mono ?_
      rintro e w1 ⟨rfl, rfl⟩
      go_wp2_with fail
      refine (HA.out _).mono ?_
      rintro e w8 ⟨rfl, hb8⟩
      go_wp2_with fail
      go_ret
      exact ⟨rfl, hb8⟩
    | false =>
      rw [hf] at HF
      clear hf hg
      go_enter Tryd.func8, Tryd.ntmps8
      go_wp2_with fail
      refine HF.out.mono ?_
      rintro e w1 ⟨rfl, rfl⟩
      go_wp2_with fail
      refine (HA.out _).mono ?_
      rintro e w8 ⟨rfl, hb8⟩
      go_wp2_with fail
      go_ret
      exact ⟨rfl, hb8⟩
end Go.Proofs.YtifpdejgkofnaaaDoor
