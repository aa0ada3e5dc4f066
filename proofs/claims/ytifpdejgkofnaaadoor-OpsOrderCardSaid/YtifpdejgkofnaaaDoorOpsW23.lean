import Derived.Test.YtifpdejgkofnaaaDoorOpsW20
namespace Go.Proofs.YtifpdejgkofnaaaDoor
open Go Go.RowKit Go.Lib

theorem atV_in {v : List Int} {m : Nat} {n : Int} (h : v[m]? = some n) : atV v (m : Int) = max n 0 := by
  have hm := (List.getElem?_eq_some_iff.1 h).1
  unfold atV
  rw [if_neg (by omega), Int.toNat_natCast, List.getD_eq_getElem?_getD, h]
  rfl
theorem atV_out {v : List Int} {n : Int} (h : n < 0 ∨ (v.length : Int) ≤ n) : atV v n = 0 := by
  unfold atV
  rw [if_pos h]

set_option maxRecDepth 100000 in
theorem at04_any (a : Option Addr) (cap : Nat) (v : List Int) (n : Int) (w : World) (_ : v.length ≤ 140737488351232) (ha : RowsAt numLay w a v) :
    Calls Tryd.prog 51 #[.slice a v.length cap, .int .i64 n] w fun e w' => e = .returned (.int .i64 (atV v n)) ∧ w' = w := by
  by_cases h : n < 0 ∨ (v.length : Int) ≤ n
  · have Hr := Lib.hid (atV_out h)
    generalize atV v n = r at *
    rcases Int.lt_or_le n 0 with h0 | h0
    · have e1 : decide (n < 0) = true := by simpa using h0
      go_enter Tryd.func51, Tryd.ntmps51
      go_wp2_with fail
      go_ret
      exact ⟨ret_int Hr.out.symm, rfl⟩
    · have e1 : decide (n < 0) = false := by simp; omega
      have e2 : decide ((v.length : Int) ≤ n) = true := by simp; omega
      go_enter Tryd.func51, Tryd.ntmps51
      go_wp2_with fail
      go_ret
      exact ⟨ret_int Hr.out.symm, rfl⟩
  · obtain ⟨m, rfl⟩ : ∃ m : Nat, n = (m : Int) := ⟨n.toNat, by omega⟩
    have hm : m < v.length := by omega
    obtain ⟨u, hu⟩ := at_some hm
    obtain ⟨b, off, rfl, hbl, c0⟩ := num_at ha hu
    have Hr := Lib.hid (atV_in hu)
    generalize atV v (m : Int) = r at *
    clear hu h
    have e1 : decide ((m : Int) < 0) = false := by simp
    have e2 : decide ((v.length : Int) ≤ (m : Int)) = false := by simp; omega
    by_cases h0 : 0 < u
    · have e3 : ¬ (0 > u) := by omega
      go_enter Tryd.func51, Tryd.ntmps51
      go_wp2_with fail
      all_goals go_ret
      all_goals exact ⟨ret_int (by rw [Hr.out]; first | done | omega), rfl⟩
    · go_enter Tryd.func51, Tryd.ntmps51
      go_wp2_with fail
      all_goals go_ret
      all_goals exact ⟨ret_int (by rw [Hr.out]; first | done | omega), rfl⟩

def sinO (l : List Opr) (v : List Int) : List Opr := l.filter (newB v)
theorem sin_step {l : List Opr} {v : List Int} {k : Nat} {y : Opr} (h : l[k]? = some y) : sinO (l.take (k + 1)) v = sinO (l.take k) v ++ (if newB v y then [y] else []) := filter_snoc h _
theorem sin_len (l : List Opr) (v : List Int) (k : Nat) : (sinO (l.take k) v).length ≤ k := by
  unfold sinO
  exact Nat.le_trans (List.length_filter_le _ _) (by rw [List.length_take]; omega)

set_option maxRecDepth 100000 in
set_option maxHeartbeats 6400000 in
theorem since_any (a a' : Option Addr) (cap cap' : Nat) (l : List Opr) (v : List Int) (w : World) (hl : l.length ≤ 100000) (_ : v.length ≤ 100000) (ha : RowsAt oprLay w a l) (hv : RowsAt numLay w a' v) :
    Calls Tryd.prog 24 #[.slice a l.length cap, .slice a' v.length cap'] w fun e w' => ∃ u, e = .returned u ∧ OwnRows oprLay w' w.heap.size 25 u (sinO l v) ∧ Below w.heap.size w w' := by
  obtain ⟨i0, hi, hz0, hz1, hz2⟩ := info_parts oprInfo
  have Hi := Lib.hid hi
  have Hz0 := Lib.hid hz0
  have Hz1 := Lib.hid hz1
  have Hz2 := Lib.hid hz2
  clear hi hz0 hz1 hz2
  have HA := Lib.hid ha
  have HV := Lib.hid hv
  clear ha hv
  go_enter Tryd.func24, Tryd.ntmps24
  go_wp2_with fail
  go_loopw [5, 12] (fun u i wr => ∃ k : Nat, k ≤ l.length ∧ i = .int .i64 k ∧ OwnRows oprLay wr w.heap.size 25 u (sinO (l.take k) v) ∧ Below w.heap.size w wr) (fun _ i _ => l.length - (RowKit.intOf i).toNat)
  case atStart => exact ⟨0, Nat.zero_le _, rfl, OwnRows.nil _ _ _ _, Below.refl _ _⟩
  case round =>
    obtain ⟨k, hk, rfl, ho, hb⟩ := hrel
    by_cases hlt : k < l.length
    · obtain ⟨y, hy⟩ := at_some hlt
      obtain ⟨b, off, rfl, hbl, c0, c1, c2, c3, c4, c5, c6, c7, c8, c9, c10⟩ := opr_at (HA.out.keeps hb) hy
      have Hst := Lib.hid (sin_step (v := v) hy)
      have hlen := sin_len l v k
      have ho1 := ho.alloc (.cells #[.int .i64 y.cnt, .int .i64 y.who, .int .i64 y.seq, .int .i64 y.kind, .int .i64 y.nc, .int .i64 y.nw, .bool y.dir, .int .i64 y.pc, .int .i64 y.pw, .string y.name, .string y.man] 25)
      have hb1 := hb.alloc hb.size (.cells #[.int .i64 y.cnt, .int .i64 y.who, .int .i64 y.seq, .int .i64 y.kind, .int .i64 y.nc, .int .i64 y.nw, .bool y.dir, .int .i64 y.pc, .int .i64 y.pw, .string y.name, .string y.man] 25)
      have Hnb := Lib.hid (show newB v y = decide (atV v y.who < y.seq) from rfl)
      clear hy
      generalize hnb : newB v y = nb at *
      clear hnb
      generalize sinO (l.take k) v = out at *
      rcases Int.lt_or_le y.who 0 with h0 | h0
      · have Hat := Lib.hid (atV_out (v := v) (.inl h0))
        have e1 : decide (0 ≤ y.who) = false := by simp; omega
        have Hn := Lib.hid (show nb = decide (0 < y.seq) by rw [Hnb.out, Hat.out])
        by_cases hs : 0 < y.seq
        · have hnt : nb = true := by rw [Hn.out]; simpa using hs
          subst hnt
          go_wp2_with (at_builtin; refine wpList_append_rows _ rfl _ _ 27 rfl oprLay w.heap.size 25 i0 (.agg #[.int .i64 0, .int .i64 0, .int .i64 0, .int .i64 0, .int .i64 0, .int .i64 0, .bool false, .int .i64 0, .int .i64 0, .string ⟨#[]⟩, .string ⟨#[]⟩]) 104 Tryd.underlying27 Hi.out Hz0.out Hz1.out Hz2.out rfl (by decide) _ _ rfl (ho1.alloc _) ⟨wr.heap.size + 1, 0, none⟩ 1 y rfl (cells_new_at _ (wr.heap.size + 1) #[.int .i64 y.cnt, .int .i64 y.who, .int .i64 y.seq, .int .i64 y.kind, .int .i64 y.nc, .int .i64 y.nw, .bool y.dir, .int .i64 y.pc, .int .i64 y.pw, .string y.name, .string y.man] 25 (by simp)) (by unfold maxLen; omega) (by omega) (by have := hb.size; simp; omega) ?_)
          intro v2 w4 ho4 hg4 _
          have hb4 := (hb1.alloc hb1.size (.cells #[.int .i64 y.cnt, .int .i64 y.who, .int .i64 y.seq, .int .i64 y.kind, .int .i64 y.nc, .int .i64 y.nw, .bool y.dir, .int .i64 y.pc, .int .i64 y.pw, .string y.name, .string y.man] 25)).grown hg4 (by have := hb.size; simp; omega) (fun j ej => (ho1.lt ej).1)
          clear hg4 ho ho1
          go_wp2_with fail
          go_roundw
          case rel => exact ⟨k + 1, by omega, by go_num, by rw [Hst.out]; exact ho4, hb4⟩
          case measure => simp [RowKit.intOf]; omega
        · have hnt : nb = false := by rw [Hn.out]; simpa using hs
          subst hnt
          go_wp2_with fail
          go_roundw
          case rel => exact ⟨k + 1, by omega, by go_num, by rw [Hst.out]; simpa using ho1, hb1⟩
          case measure => simp [RowKit.intOf]; omega
      · obtain ⟨m, hm⟩ : ∃ m : Nat, y.who = (m : Int) := ⟨y.who.toNat, by omega⟩
        by_cases hmv : m < v.length
        · obtain ⟨u, hu⟩ := at_some hmv
          have ha2 := (HV.out.keeps hb).keeps ((Below.refl _ _).alloc (Nat.le_refl _) (.cells #[.int .i64 y.cnt, .int .i64 y.who, .int .i64 y.seq, .int .i64 y.kind, .int .i64 y.nc, .int .i64 y.nw, .bool y.dir, .int .i64 y.pc, .int .i64 y.pw, .string y.name, .string y.man] 25))
          obtain ⟨b2, off2, hae, hbl2, d0⟩ := num_at (HV.out.keeps hb) hu
          subst hae
          obtain ⟨b3, off3, hae, hbl3, d1⟩ := num_at ha2 hu
          cases hae
          have Hat := Lib.hid (atV_in hu)
          have Hn := Lib.hid (show nb = decide (max u 0 < y.seq) by rw [Hnb.out, hm, Hat.out])
          rw [hm] at c1
          have e1 : decide ((0 : Int) ≤ (m : Int)) = true := by simp
          have e2 : decide ((m : Int) < (v.length : Int)) = true := by simp; omega
          clear hu h0
          have hym : y = ⟨y.cnt, m, y.seq, y.kind, y.nc, y.nw, y.dir, y.pc, y.pw, y.name, y.man⟩ := by
            cases y; dsimp only at hm; subst hm; rfl
          have hso : ∀ (u : List Opr) W V B, OwnRows oprLay W B 25 V (u ++ [⟨y.cnt, m, y.seq, y.kind, y.nc, y.nw, y.dir, y.pc, y.pw, y.name, y.man⟩]) → OwnRows oprLay W B 25 V (u ++ [y]) := fun u W V B h => by rw [hym]; exact h
          rw [hm] at ho1 hb1
          have Hso := Lib.hid hso
          clear hym hso hm ha2
          rcases Int.lt_or_le 0 u with hu0 | hu0
          · have e3 : max u 0 = u := by omega
            rw [e3] at Hn
            clear e3
            by_cases hs : u < y.seq
            · have hnt : nb = true := by rw [Hn.out]; simpa using hs
              subst hnt
              go_wp2_with (at_builtin; refine wpList_append_rows _ rfl _ _ 27 rfl oprLay w.heap.size 25 i0 (.agg #[.int .i64 0, .int .i64 0, .int .i64 0, .int .i64 0, .int .i64 0, .int .i64 0, .bool false, .int .i64 0, .int .i64 0, .string ⟨#[]⟩, .string ⟨#[]⟩]) 104 Tryd.underlying27 Hi.out Hz0.out Hz1.out Hz2.out rfl (by decide) _ _ rfl (ho1.alloc _) ⟨wr.heap.size + 1, 0, none⟩ 1 (⟨y.cnt, m, y.seq, y.kind, y.nc, y.nw, y.dir, y.pc, y.pw, y.name, y.man⟩ : Opr) rfl (cells_new_at _ (wr.heap.size + 1) #[.int .i64 y.cnt, .int .i64 m, .int .i64 y.seq, .int .i64 y.kind, .int .i64 y.nc, .int .i64 y.nw, .bool y.dir, .int .i64 y.pc, .int .i64 y.pw, .string y.name, .string y.man] 25 (by simp)) (by unfold maxLen; omega) (by omega) (by have := hb.size; simp; omega) ?_)
              intro v2 w4 ho4 hg4 _
              have hb4 := (hb1.alloc hb1.size (.cells #[.int .i64 y.cnt, .int .i64 m, .int .i64 y.seq, .int .i64 y.kind, .int .i64 y.nc, .int .i64 y.nw, .bool y.dir, .int .i64 y.pc, .int .i64 y.pw, .string y.name, .string y.man] 25)).grown hg4 (by have := hb.size; simp; omega) (fun j ej => (ho1.lt ej).1)
              clear hg4 ho ho1
              go_wp2_with fail
              go_roundw
              case rel => exact ⟨k + 1, by omega, by go_num, by rw [Hst.out]; exact Hso.out _ _ _ _ ho4, hb4⟩
              case measure => simp [RowKit.intOf]; omega
            · have hnt : nb = false := by rw [Hn.out]; simpa using hs
              subst hnt
              go_wp2_with fail
              go_roundw
              case rel => exact ⟨k + 1, by omega, by go_num, by rw [Hst.out]; simpa using ho1, hb1⟩
              case measure => simp [RowKit.intOf]; omega
          · have e3 : max u 0 = 0 := by omega
            rw [e3] at Hn
            clear e3
            by_cases hs : 0 < y.seq
            · have hnt : nb = true := by rw [Hn.out]; simpa using hs
              subst hnt
              go_wp2_with (at_builtin; refine wpList_append_rows _ rfl _ _ 27 rfl oprLay w.heap.size 25 i0 (.agg #[.int .i64 0, .int .i64 0, .int .i64 0, .int .i64 0, .int .i64 0, .int .i64 0, .bool false, .int .i64 0, .int .i64 0, .string ⟨#[]⟩, .string ⟨#[]⟩]) 104 Tryd.underlying27 Hi.out Hz0.out Hz1.out Hz2.out rfl (by decide) _ _ rfl (ho1.alloc _) ⟨wr.heap.size + 1, 0, none⟩ 1 (⟨y.cnt, m, y.seq, y.kind, y.nc, y.nw, y.dir, y.pc, y.pw, y.name, y.man⟩ : Opr) rfl (cells_new_at _ (wr.heap.size + 1) #[.int .i64 y.cnt, .int .i64 m, .int .i64 y.seq, .int .i64 y.kind, .int .i64 y.nc, .int .i64 y.nw, .bool y.dir, .int .i64 y.pc, .int .i64 y.pw, .string y.name, .string y.man] 25 (by simp)) (by unfold maxLen; omega) (by omega) (by have := hb.size; simp; omega) ?_)
              intro v2 w4 ho4 hg4 _
              have hb4 := (hb1.alloc hb1.size (.cells #[.int .i64 y.cnt, .int .i64 m, .int .i64 y.seq, .int .i64 y.kind, .int .i64 y.nc, .int .i64 y.nw, .bool y.dir, .int .i64 y.pc, .int .i64 y.pw, .string y.name, .string y.man] 25)).grown hg4 (by have := hb.size; simp; omega) (fun j ej => (ho1.lt ej).1)
              clear hg4 ho ho1
              go_wp2_with fail
              go_roundw
              case rel => exact ⟨k + 1, by omega, by go_num, by rw [Hst.out]; exact Hso.out _ _ _ _ ho4, hb4⟩
              case measure => simp [RowKit.intOf]; omega
            · have hnt : nb = false := by rw [Hn.out]; simpa using hs
              subst hnt
              go_wp2_with fail
              go_roundw
              case rel => exact ⟨k + 1, by omega, by go_num, by rw [Hst.out]; simpa using ho1, hb1⟩
              case measure => simp [RowKit.intOf]; omega
        · have Hat := Lib.hid (atV_out (v := v) (n := y.who) (.inr (by omega)))
          have Hn := Lib.hid (show nb = decide (0 < y.seq) by rw [Hnb.out, Hat.out])
          have e1 : decide (0 ≤ y.who) = true := by simp; omega
          have e2 : decide (y.who < (v.length : Int)) = false := by simp; omega
          clear hm
          by_cases hs : 0 < y.seq
          · have hnt : nb = true := by rw [Hn.out]; simpa using hs
            subst hnt
            go_wp2_with (at_builtin; refine wpList_append_rows _ rfl _ _ 27 rfl oprLay w.heap.size 25 i0 (.agg #[.int .i64 0, .int .i64 0, .int .i64 0, .int .i64 0, .int .i64 0, .int .i64 0, .bool false, .int .i64 0, .int .i64 0, .string ⟨#[]⟩, .string ⟨#[]⟩]) 104 Tryd.underlying27 Hi.out Hz0.out Hz1.out Hz2.out rfl (by decide) _ _ rfl (ho1.alloc _) ⟨wr.heap.size + 1, 0, none⟩ 1 y rfl (cells_new_at _ (wr.heap.size + 1) #[.int .i64 y.cnt, .int .i64 y.who, .int .i64 y.seq, .int .i64 y.kind, .int .i64 y.nc, .int .i64 y.nw, .bool y.dir, .int .i64 y.pc, .int .i64 y.pw, .string y.name, .string y.man] 25 (by simp)) (by unfold maxLen; omega) (by omega) (by have := hb.size; simp; omega) ?_)
            intro v2 w4 ho4 hg4 _
            have hb4 := (hb1.alloc hb1.size (.cells #[.int .i64 y.cnt, .int .i64 y.who, .int .i64 y.seq, .int .i64 y.kind, .int .i64 y.nc, .int .i64 y.nw, .bool y.dir, .int .i64 y.pc, .int .i64 y.pw, .string y.name, .string y.man] 25)).grown hg4 (by have := hb.size; simp; omega) (fun j ej => (ho1.lt ej).1)
            clear hg4 ho ho1
            go_wp2_with fail
            go_roundw
            case rel => exact ⟨k + 1, by omega, by go_num, by rw [Hst.out]; exact ho4, hb4⟩
            case measure => simp [RowKit.intOf]; omega
          · have hnt : nb = false := by rw [Hn.out]; simpa using hs
            subst hnt
            go_wp2_with fail
            go_roundw
            case rel => exact ⟨k + 1, by omega, by go_num, by rw [Hst.out]; simpa using ho1, hb1⟩
            case measure => simp [RowKit.intOf]; omega
    · rw [List.take_of_length_le (by omega)] at ho
      go_wp2_with fail
      go_ret
      exact ⟨_, rfl, ho, hb⟩
end Go.Proofs.YtifpdejgkofnaaaDoor
