/-
  arbourref23: texts as bytes; how many there are; a list of texts that is read. arbourref23.many: how many there are. arbourref23.list: a list of texts that is read. arbourlaw23.texts: are two lists the same?
-/
import Derived.Test.YtaimbhphepopmaaDoorSessGB
import Derived.Test.YtaimbhphepopmaaDoorSessGA
import Derived.Test.YtaimbhphepopmaaDoorCodecW3
import Derived.Test.YtaimbhphepopmaaDoorSame
namespace Go.Proofs.YtaimbhphepopmaaDoor
open Go Go.RowKit Go.Lib

set_option maxRecDepth 100000 in
set_option maxHeartbeats 3200000 in
theorem rtexts_any (a : Option Addr) (cap : Nat) (l : List ByteArray) (w : World) (hl : l.length ≤ 1000) (hsz : ∀ x ∈ l, x.size ≤ 100000) (ha : RowsAt strLay w a l) :
    Calls Tryd.prog 24 #[.slice a l.length cap] w fun e w' => e = .returned (.string ⟨(flatB strL l).toArray⟩) ∧ Below w.heap.size w w' := by
  have HA := Lib.hid ha
  have HN := Lib.hid (rencNum_any (l.length : Int))
  have HFB := Lib.hid (show flatB strL l = numL (l.length : Int) ++ l.flatMap strL from rfl)
  have HB := Lib.hid (fun k => flatMap_take_len (g := strL) (n := 200000) k hl (fun x hx => by
    unfold strL
    have := textL_le (s := x.data.toList) (by have := hsz x hx; rw [← size_eq]; omega)
    rw [← size_eq] at this
    have := hsz x hx
    omega))
  have hnl := numL_len (l.length : Int)
  clear ha
  generalize numL (l.length : Int) = n0 at *
  generalize flatB strL l = fb at *
  go_enter Tryd.func24, Tryd.ntmps24
  go_wp2_with fail
  refine (HN.out _).mono ?_
  rintro e w1 ⟨rfl, hb1⟩
  go_wp2_with fail
  go_loopw [3, 4] (fun v i wr => ∃ k : Nat, k ≤ l.length ∧ i = .int .i64 k ∧ v = .string ⟨(n0 ++ (l.take k).flatMap strL).toArray⟩ ∧ Below w.heap.size w wr) (fun _ i _ => l.length - (RowKit.intOf i).toNat)
  case atStart => exact ⟨0, Nat.zero_le _, rfl, by simp, hb1⟩
  case round =>
    obtain ⟨k, hk, rfl, rfl, hb⟩ := hrel
    by_cases hlt : k < l.length
    · obtain ⟨y, hy⟩ := at_some hlt
      obtain ⟨b1, off, rfl, hbl, c0⟩ := str_at (HA.out.keeps hb) hy
      have Hst := Lib.hid (flatMap_step (g := strL) hy)
      have hys := hsz y (List.mem_of_getElem? hy)
      have HT := Lib.hid (rencText_any y wr (by omega))
      have hbl2 := HB.out k
      have hz1 : (⟨(n0 ++ (l.take k).flatMap strL).toArray⟩ : ByteArray).size ≤ 1000000000 := by rw [ba_size, List.length_append]; omega
      have hz2 : (⟨(textL y.data.toList).toArray⟩ : ByteArray).size ≤ 1000000 := by
        rw [ba_size]
        have := textL_le (s := y.data.toList) (by rw [← size_eq]; omega)
        rw [← size_eq] at this
        omega
      have Hap := Lib.hid (ba_app (n0 ++ (l.take k).flatMap strL) (textL y.data.toList))
      clear hy hbl2
      generalize (⟨(n0 ++ (l.take k).flatMap strL).toArray⟩ : ByteArray) = q1 at *
      generalize (⟨(textL y.data.toList).toArray⟩ : ByteArray) = q2 at *
      have hA1 : ¬ (q1.size + q2.size > 9223372036854775807) := by omega
      have hA2 : q1.size + q2.size ≤ 9223372036854775807 := by omega
      go_wp2_with fail
      refine HT.out.mono ?_
      rintro e w2 ⟨rfl, hb2⟩
      go_wp2_with fail
      go_roundw
      case rel => exact ⟨k + 1, by omega, by go_num, by rw [Hap.out, Hst.out, List.append_assoc]; rfl, hb.trans (hb2.mono hb.size)⟩
      case measure => simp [RowKit.intOf]; omega
    · obtain rfl : k = l.length := by omega
      rw [List.take_length]
      go_wp2_with fail
      go_ret
      exact ⟨ret_str (by rw [HFB.out]), hb⟩
end Go.Proofs.YtaimbhphepopmaaDoor

namespace Go.Proofs.YtaimbhphepopmaaDoor
open Go Go.RowKit Go.Lib

theorem RrAt.setOdd {W : World} {b : Nat} {r : Rd} (h : RrAt W b r) : RrAt (W.setCell ⟨b, 1, none⟩ (.int .i64 11)) b ⟨11, []⟩ := by
  obtain ⟨d, hc, hd, _⟩ := h
  exact ⟨d, hc.setErr 11, hd, fun e => by cases e⟩
theorem RrAt.free {W : World} {b : Nat} {r : Rd} (h : RrAt W b r) : ∀ i, W.frozen? ⟨b, i, none⟩ = false := by
  obtain ⟨d, ⟨_, _, hf, _⟩, _⟩ := h
  exact hf
set_option maxRecDepth 100000 in
set_option maxHeartbeats 3200000 in
theorem rmany_any (b : Nat) (r : Rd) (most : Nat) (w : World) (h : RrAt w b r) :
    Calls Tryd.prog 37 #[.pointer (some ⟨b, 0, none⟩), .int .i64 most] w fun e w' => e = .returned (.int .i64 (manyR r most).1) ∧ RrAt w' b (manyR r most).2 ∧ w.grownBy w' (some b) := by
  have HN := Lib.hid (rNum_any b r w h)
  by_cases h1 : ¬ r.num.2.err = 0
  · have Hm := Lib.hid (many_no (most := (most : Int)) h1)
    have hn0 := num_zero_err h1
    rw [hn0] at HN
    obtain ⟨er, her⟩ : ∃ er, r.num.2.err = er := ⟨_, rfl⟩
    have d1 : (er == 0) = false := by rw [beq_eq_false_iff_ne, ← her]; exact h1
    have d2 : (er != 0) = true := by rw [bne_iff_ne, ← her]; exact h1
    have Her := Lib.hid her
    clear h1 hn0 her
    generalize manyR r most = mr at *
    go_enter Tryd.func37, Tryd.ntmps37
    go_wp2_with fail
    refine HN.out.mono ?_
    rintro e w1 ⟨rfl, hr, hg⟩
    have c1 := rrCell hr
    rw [Her.out] at c1
    go_wp2_with fail
    go_ret
    exact ⟨by rw [Hm.out]; rfl, by rw [Hm.out]; exact hr, hg⟩
  · replace h1 := Decidable.not_not.1 h1
    by_cases h2 : r.num.1 < 0 ∨ (most : Int) < r.num.1
    · have Hm := Lib.hid (many_odd h1 h2)
      have H1 := Lib.hid h1
      clear h1
      generalize manyR r most = mr at *
      generalize r.num.1 = n at *
      rcases (show n < 0 ∨ (0 ≤ n ∧ (most : Int) < n) by omega) with h2 | ⟨h2, h3⟩
      · have d2 : decide (n < 0) = true := by simpa using h2
        go_enter Tryd.func37, Tryd.ntmps37
        go_wp2_with fail
        refine HN.out.mono ?_
        rintro e w1 ⟨rfl, hr, hg⟩
        have c1 := rrCell hr
        rw [H1.out] at c1
        have hfz := hr.free 1
        go_wp2_with fail
        go_ret
        exact ⟨by rw [Hm.out]; rfl, by rw [Hm.out]; exact hr.setOdd, hg.trans (grown_cell _ _ _ _)⟩
      · have d2 : decide (n < 0) = false := by simpa using h2
        have d3 : decide ((most : Int) < n) = true := by simpa using h3
        go_enter Tryd.func37, Tryd.ntmps37
        go_wp2_with fail
        refine HN.out.mono ?_
        rintro e w1 ⟨rfl, hr, hg⟩
        have c1 := rrCell hr
        rw [H1.out] at c1
        have hfz := hr.free 1
        go_wp2_with fail
        go_ret
        exact ⟨by rw [Hm.out]; rfl, by rw [Hm.out]; exact hr.setOdd, hg.trans (grown_cell _ _ _ _)⟩
    · have Hm := Lib.hid (many_yes h1 h2)
      have H1 := Lib.hid h1
      have d2 : decide (r.num.1 < 0) = false := decide_eq_false (by omega)
      have d3 : decide ((most : Int) < r.num.1) = false := decide_eq_false (by omega)
      have hnn : ((r.num.1.toNat : Nat) : Int) = r.num.1 := Int.toNat_of_nonneg (by omega)
      have Hnn := Lib.hid hnn
      clear h1 h2 hnn
      generalize manyR r most = mr at *
      generalize r.num.1 = n at *
      go_enter Tryd.func37, Tryd.ntmps37
      go_wp2_with fail
      refine HN.out.mono ?_
      rintro e w1 ⟨rfl, hr, hg⟩
      have c1 := rrCell hr
      rw [H1.out] at c1
      go_wp2_with fail
      go_ret
      exact ⟨by rw [Hm.out]; exact ret_int Hnn.out.symm, by rw [Hm.out]; exact hr, hg⟩
end Go.Proofs.YtaimbhphepopmaaDoor

namespace Go.Proofs.YtaimbhphepopmaaDoor
open Go Go.RowKit Go.Lib

theorem rr_keeps {W W' : World} {b : Nat} {r : Rd} {B : Nat} (h : RrAt W b r) (hb : Below B W W') (hlt : b < B) : RrAt W' b r := h.keeps hb hlt
set_option maxRecDepth 100000 in
set_option maxHeartbeats 3200000 in
theorem rlist_any (b : Nat) (r : Rd) (most : Nat) (w : World) (hm : most ≤ 1000) (h : RrAt w b r) :
    Calls Tryd.prog 38 #[.pointer (some ⟨b, 0, none⟩), .int .i64 most] w fun e w' => ∃ v, e = .returned v ∧ OwnRows strLay w' w.heap.size 9 v (listR Rd.str r most).1 ∧ RrAt w' b (listR Rd.str r most).2 ∧ Turned (fun k => k = b) w.heap.size w w' := by
  obtain ⟨i0, hi, hz0, hz1, hz2⟩ := info_parts strInfo0
  have Hi := Lib.hid hi
  have Hz0 := Lib.hid hz0
  have Hz1 := Lib.hid hz1
  have Hz2 := Lib.hid hz2
  clear hi hz0 hz1 hz2
  have HM := Lib.hid (rmany_any b r most w h)
  have Hl := Lib.hid (show listR Rd.str r most = takeN Rd.str (manyR r most).1 (manyR r most).2 from rfl)
  have hN : (manyR r most).1 ≤ 1000 := by
    unfold manyR
    split
    · simp
    · split
      · simp
      · simp only; omega
  have hbl := h.lt
  generalize listR Rd.str r most = lr at *
  generalize manyR r most = mr at *
  obtain ⟨N, r1⟩ := mr
  dsimp only at HM Hl hN
  clear h
  go_enter Tryd.func38, Tryd.ntmps38
  go_wp2_with fail
  refine HM.out.mono ?_
  rintro e w1 ⟨rfl, hr1, hg1⟩
  have hT1 : Turned (fun k => k = b) w.heap.size w w1 := Turned.of_grown hg1 (Nat.le_refl _) (fun k e _ => by cases e; rfl)
  go_wp2_with fail
  go_loopw [5, 7] (fun v i wr => ∃ k : Nat, k ≤ N ∧ i = .int .i64 k ∧ RrAt wr b (takeN Rd.str k r1).2 ∧ Turned (fun k => k = b) w.heap.size w wr ∧ OwnRows strLay wr w.heap.size 9 v (takeN Rd.str k r1).1) (fun _ i _ => N - (RowKit.intOf i).toNat)
  case atStart => exact ⟨0, Nat.zero_le _, rfl, hr1, hT1, OwnRows.nil _ _ _ _⟩
  case round =>
    obtain ⟨k, hk, rfl, hr, hT, ho⟩ := hrel
    by_cases hlt : k < N
    · have HT := Lib.hid (rText_any b (takeN Rd.str k r1).2 wr hr)
      have Hsucc := Lib.hid (takeN_succ Rd.str k r1)
      have hlen := takeN_len Rd.str k r1
      go_wp2_with fail
      refine HT.out.mono ?_
      rintro e w5 ⟨rfl, hr5, hg5⟩
      have hT45 : Turned (fun k => k = b) wr.heap.size wr w5 := Turned.of_grown hg5 (Nat.le_refl _) (fun k e _ => by cases e; rfl)
      have hT5 := hT.trans (hT45.mono hT.size (fun _ _ h => h))
      have ho5 := ho.turned hT45 (fun k hk => by omega)
      generalize hyy : (⟨(takeN Rd.str k r1).2.text.1.toArray⟩ : ByteArray) = y at *
      have Hyy := Lib.hid hyy
      clear hyy
      go_wp2_with (at_builtin; refine wpList_append_rows _ rfl _ _ 23 rfl strLay w.heap.size 9 i0 (.string ⟨#[]⟩) 16 Tryd.underlying23 Hi.out Hz0.out Hz1.out Hz2.out rfl (by decide) _ _ rfl (ho5.alloc _) ⟨w5.heap.size, 0, none⟩ 1 y rfl (cells_new_at _ w5.heap.size #[.string y] 9 rfl) (by unfold maxLen; omega) (by omega) (by have := hT5.size; simp; omega) ?_)
      intro v6 w6 ho6 hg6 _
      have hb56 : Below w.heap.size w5 w6 := ((Below.refl w.heap.size w5).alloc hT5.size _).grown hg6 (by have := hT5.size; simp; omega) (fun j ej => (ho5.lt ej).1)
      have hT6 : Turned (fun k => k = b) w.heap.size w w6 := hT5.trans (Turned.of_below hb56 (Nat.le_refl _))
      have hr6 := hr5.keeps hb56 hbl
      clear hg6 ho5 ho hr5 hr hT hT5 hT45 hb56
      go_wp2_with fail
      go_roundw
      case rel =>
        refine ⟨k + 1, by omega, by go_num, ?_, hT6, ?_⟩
        · rw [Hsucc.out]
          exact hr6
        · rw [Hsucc.out]
          show OwnRows strLay w6 w.heap.size 9 v6 ((takeN Rd.str k r1).1 ++ [(takeN Rd.str k r1).2.str.1])
          rw [show (takeN Rd.str k r1).2.str.1 = y from Hyy.out]
          exact ho6
      case measure => simp [RowKit.intOf]; omega
    · obtain rfl : k = N := by omega
      go_wp2_with fail
      go_ret
      exact ⟨_, rfl, by rw [Hl.out]; exact ho, by rw [Hl.out]; exact hr, hT⟩
end Go.Proofs.YtaimbhphepopmaaDoor

namespace Go.Proofs.YtaimbhphepopmaaDoor
open Go Go.RowKit Go.Lib

set_option maxRecDepth 100000 in
set_option maxHeartbeats 1600000 in
theorem texts_any (a b : Option Addr) (cap cap' : Nat) (xs ys : List ByteArray) (w : World) (hl : xs.length ≤ 140737488351232) (ha : RowsAt strLay w a xs) (hb : RowsAt strLay w b ys) :
    Calls Tryd.prog 42 #[.slice a xs.length cap, .slice b ys.length cap'] w fun e w' => e = .returned (.bool (decide (xs = ys))) ∧ ∃ n, w' = w.drewN n := by
  have HA := Lib.hid ha
  have HB := Lib.hid hb
  clear ha hb
  by_cases hlen : xs.length = ys.length
  · have hq : ((xs.length : Int) != (ys.length : Int)) = false := by rw [hlen]; simp
    have Hlen := Lib.hid hlen
    clear hlen
    go_enter Tryd.func42, Tryd.ntmps42
    go_wp2
    clear hq
    go_loopw [5] (fun i wr => ∃ k : Nat, k ≤ xs.length ∧ i = .int .i64 k ∧ Hid (∀ j, j < k → xs[j]? = ys[j]?) ∧ ∃ n, wr = w.drewN n) (fun i _ => xs.length - (RowKit.intOf i).toNat)
    case atStart => exact ⟨0, Nat.zero_le _, rfl, fun j hj => absurd hj (Nat.not_lt_zero _), Drawn.refl _⟩
    case round =>
      obtain ⟨k, hk, rfl, Hk, n, rfl⟩ := hrel
      by_cases hlt : k < xs.length
      · have hlt2 : k < ys.length := by have := Hlen.out; omega
        obtain ⟨x, hx⟩ := at_some hlt
        obtain ⟨y, hy⟩ := at_some hlt2
        obtain ⟨b1, o1, rfl, hb1, c0⟩ := str_at HA.out hx
        obtain ⟨b2, o2, rfl, hb2, d0⟩ := str_at HB.out hy
        have Hx := Lib.hid hx
        have Hy := Lib.hid hy
        clear hx hy
        by_cases h1 : x = y
        · have e2 := str_eq h1
          have e3 : (x.toList != y.toList) = false := by rw [h1]; simp
          have Hn := Lib.hid h1
          clear h1
          go_wp2
          go_quiet (fail)
          go_wp2
          go_roundw
          case rel =>
            refine ⟨k + 1, by omega, by go_num, fun j hj => ?_, n + nq, by simp⟩
            by_cases e : j = k
            · subst e; rw [Hx.out, Hy.out, Hn.out]
            · exact Hk.out j (by omega)
          case measure => simp [RowKit.intOf]; omega
        · have e2 := str_ne h1
          have e3 : (x.toList != y.toList) = true := by rw [bne, e2]; rfl
          have Hr := Lib.hid (same_at Hx.out Hy.out h1)
          clear h1
          go_wp2
          go_quiet (fail)
          go_wp2
          go_ret
          exact ⟨ret_bool Hr.out.symm, n + nq, by simp⟩
      · have Hr := Lib.hid (same_ok Hlen.out (fun j hj => Hk.out j (by omega)))
        go_wp2
        go_ret
        exact ⟨ret_bool Hr.out.symm, _, rfl⟩
  · have Hr := Lib.hid (same_len hlen)
    have hq : ((xs.length : Int) != (ys.length : Int)) = true := by rw [bne_iff_ne]; omega
    clear hlen
    go_enter Tryd.func42, Tryd.ntmps42
    go_wp2
    go_ret
    exact ⟨ret_bool Hr.out.symm, Drawn.refl _⟩
end Go.Proofs.YtaimbhphepopmaaDoor

