/-
  
-/
import Derived.Test.YtlenpifjkbcmdaaGreatDoorOpsGA
import Derived.Test.YtlenpifjkbcmdaaGreatDoorVecPure
import Derived.Test.YtlenpifjkbcmdaaGreatDoorNums
namespace Go.Proofs.YtlenpifjkbcmdaaGreatDoor
open Go Go.RowKit Go.Lib

theorem numInfo : (Tryz.prog.info? 3).map (fun i => (i.zero, i.size, i.bytes)) = some (some (.int .i64 0), 1, 8) := by kernel_rfl

set_option maxRecDepth 100000 in
set_option maxHeartbeats 6400000 in
theorem vector_any (a : Option Addr) (cap : Nat) (l : List Opr) (w : World) (hl : l.length ≤ 100000) (ha : RowsAt oprLay w a l) :
    Calls Tryz.prog 7 #[.slice a l.length cap] w fun e w' => ∃ v, e = .returned v ∧ OwnRows numLay w' w.heap.size 3 v (vecO l) ∧ Below w.heap.size w w' := by
  obtain ⟨i0, hi, hz0, hz1, hz2⟩ := info_parts numInfo
  have Hi := Lib.hid hi
  have Hz0 := Lib.hid hz0
  have Hz1 := Lib.hid hz1
  have Hz2 := Lib.hid hz2
  clear hi hz0 hz1 hz2
  have HA := Lib.hid ha
  clear ha
  go_enter Tryz.func7, Tryz.ntmps7
  go_wp2_with fail
  go_loopw [3, 9] (fun v i wr => ∃ k : Nat, k ≤ l.length ∧ i = .int .i64 k ∧ OwnRows numLay wr w.heap.size 3 v (vecO (l.take k)) ∧ Below w.heap.size w wr) (fun _ i _ => l.length - (RowKit.intOf i).toNat)
  case atStart => exact ⟨0, Nat.zero_le _, rfl, OwnRows.nil _ _ _ _, Below.refl _ _⟩
  case round =>
    obtain ⟨k, hk, rfl, ho, hb⟩ := hrel
    by_cases hlt : k < l.length
    · obtain ⟨y, hy⟩ := at_some hlt
      obtain ⟨b, off, rfl, hbl, c0, c1, c2, c3, c4, c5, c6, c7, c8, c9, c10⟩ := opr_at (HA.out.keeps hb) hy
      have Hts := Lib.hid (take_snoc hy)
      have ho1 := ho.alloc (.cells #[.int .i64 y.cnt, .int .i64 y.who, .int .i64 y.seq, .int .i64 y.kind, .int .i64 y.nc, .int .i64 y.nw, .bool y.dir, .int .i64 y.pc, .int .i64 y.pw, .string y.name, .string y.man] 28)
      have hb1 := hb.alloc hb.size (.cells #[.int .i64 y.cnt, .int .i64 y.who, .int .i64 y.seq, .int .i64 y.kind, .int .i64 y.nc, .int .i64 y.nw, .bool y.dir, .int .i64 y.pc, .int .i64 y.pw, .string y.name, .string y.man] 28)
      have hle := lenO_le (l.take k)
      clear hy ho
      by_cases hv : validB y = true
      · have hv1 := validB_iff.1 hv
        obtain ⟨m, hm⟩ : ∃ m : Nat, y.who = (m : Int) := ⟨y.who.toNat, by omega⟩
        have hm15 : m < 15 := by omega
        have Hv := Lib.hid hv
        have Hm := Lib.hid hm
        rw [hm] at c1
        have e1 : decide ((m : Int) < 0) = false := by simp
        have e2 : decide ((15 : Int) ≤ (m : Int)) = false := by simp; omega
        clear hv hv1
        obtain ⟨wo, hwo⟩ : ∃ wo, wo = wr.alloc (.cells #[.int .i64 y.cnt, .int .i64 m, .int .i64 y.seq, .int .i64 y.kind, .int .i64 y.nc, .int .i64 y.nw, .bool y.dir, .int .i64 y.pc, .int .i64 y.pw, .string y.name, .string y.man] 28) := ⟨_, rfl⟩
        rw [hm, ← hwo] at ho1 hb1
        clear hm
        go_wp2_with fail
        rw [← hwo]
        clear hwo
        go_loopw [3] (fun v wq => ∃ n : Nat, n ≤ 15 ∧ lenO (l.take k) ≤ n ∧ (n ≤ lenO (l.take k) ∨ n ≤ m + 1) ∧ OwnRows numLay wq w.heap.size 3 v (padO (l.take k) n) ∧ Below w.heap.size w wq) (fun v _ => m + 1 - (RowKit.intOf (match v with | .slice _ n _ => .int .i64 n | _ => .int .i64 0)).toNat)
        case atStart => exact ⟨_, hle, Nat.le_refl _, .inl (Nat.le_refl _), ho1, hb1⟩
        case round =>
          obtain ⟨n, hn15, hn1, hn2, ho, hb⟩ := hrel
          have hpl := padO_len (l.take k) n
          by_cases hnm : n ≤ m
          · obtain ⟨av, cv, rfl, _⟩ := ho.read
            rw [hpl] at ho ⊢
            have Hn := Lib.hid (padO_next hn1 (by omega))
            go_wp2_with (at_builtin; refine wpList_append_rows _ rfl _ _ 34 rfl numLay w.heap.size 3 i0 (.int .i64 0) 8 Tryz.underlying34 Hi.out Hz0.out Hz1.out Hz2.out rfl (by decide) _ _ rfl (ho.alloc _) ⟨_, 0, none⟩ 1 (0 : Int) rfl (cells_new_at _ _ #[.int .i64 0] 3 rfl) (by unfold maxLen; omega) (by omega) (by have := hb.size; simp; omega) ?_)
            intro v2 w4 ho4 hg4 _
            have hb4 := (hb.alloc hb.size (.cells #[.int .i64 0] 3)).grown hg4 (by have := hb.size; simp; omega) (fun j ej => (ho.lt ej).1)
            obtain ⟨a2, c2, rfl, _⟩ := ho4.read
            clear hg4 ho
            go_wp2_with fail
            go_roundw
            case rel => exact ⟨n + 1, by omega, by omega, .inr (by omega), by rw [Hn.out]; exact ho4, hb4⟩
            case measure => simp [RowKit.intOf, hpl]; omega
          · have hmn : m < n := by omega
            have hne : n = lenO (l.take (k + 1)) := by
              rw [Hts.out, lenO_snoc, if_pos Hv.out, Hm.out]
              simp only [Int.toNat_natCast]
              omega
            obtain ⟨g, cv, rfl, hgB, hlc, hcell, hfz, hset⟩ := ho.at_num (padO_get (l := l.take k) hmn)
            have hcl := cntO_le (l.take k) m
            rw [List.length_take] at hcl
            have Hst := Lib.hid (padO_set (l := l.take k) (y := y) (n := n) (k := m) Hm.out hmn)
            have hs1 := hset (cntO (l.take k) m + 1)
            rw [Hst.out] at hs1
            have hB := hb.setCell (p := ⟨g, m, none⟩) hgB (.int .i64 (cntO (l.take k) m + 1))
            have Hne := Lib.hid hne
            rw [hpl] at hlc hs1 ⊢
            clear hset ho hne
            generalize hcc : cntO (l.take k) m = c at *
            have hc1 : 0 ≤ c := hcl.1
            have hc2 : c ≤ 100000 := by omega
            clear hcl hcc
            go_wp2_with fail
            go_roundw
            case rel =>
              refine ⟨k + 1, by omega, by go_num, ?_, hB⟩
              show OwnRows numLay _ _ _ _ (padO _ _)
              rw [← Hne.out, Hts.out]
              exact hs1
            case measure => simp [RowKit.intOf]; omega
      · have hvf : validB y = false := by simpa using hv
        have Hsk := Lib.hid (show vecO (l.take (k + 1)) = vecO (l.take k) by
          rw [Hts.out]
          unfold vecO
          rw [lenO_snoc, hvf]
          simp only [Bool.false_eq_true, if_false]
          exact padO_skip hle hvf)
        have hv2 : y.who < 0 ∨ (0 ≤ y.who ∧ 15 ≤ y.who) := by
          have : ¬ (0 ≤ y.who ∧ y.who < 15) := fun h => hv (validB_iff.2 h)
          omega
        clear hv hvf
        rcases hv2 with hv2 | ⟨hv2, hv3⟩
        · have e1 : decide (y.who < 0) = true := by simpa using hv2
          go_wp2_with fail
          go_roundw
          case rel => exact ⟨k + 1, by omega, by go_num, by rw [Hsk.out]; exact ho1, hb1⟩
          case measure => simp [RowKit.intOf]; omega
        · have e1 : decide (y.who < 0) = false := by simpa using hv2
          have e2 : decide ((15 : Int) ≤ y.who) = true := by simpa using hv3
          go_wp2_with fail
          go_roundw
          case rel => exact ⟨k + 1, by omega, by go_num, by rw [Hsk.out]; exact ho1, hb1⟩
          case measure => simp [RowKit.intOf]; omega
    · rw [List.take_of_length_le (by omega)] at ho
      go_wp2_with fail
      go_ret
      exact ⟨_, rfl, ho, hb⟩
end Go.Proofs.YtlenpifjkbcmdaaGreatDoor

namespace Go.Proofs.YtlenpifjkbcmdaaGreatDoor
open Go Go.RowKit Go.Lib

theorem atV_in {v : List Int} {m : Nat} {n : Int} (h : v[m]? = some n) : atV v (m : Int) = max n 0 := by
  have hm := (List.getElem?_eq_some_iff.1 h).1
  unfold atV
  rw [if_neg (by omega), Int.toNat_natCast, List.getD_eq_getElem?_getD, h]
  rfl
theorem atV_out {v : List Int} {n : Int} (h : n < 0 ∨ (v.length : Int) ≤ n) : atV v n = 0 := by
  unfold atV
  rw [if_pos h]

def sinO (l : List Opr) (v : List Int) : List Opr := l.filter (newB v)
theorem sin_step {l : List Opr} {v : List Int} {k : Nat} {y : Opr} (h : l[k]? = some y) : sinO (l.take (k + 1)) v = sinO (l.take k) v ++ (if newB v y then [y] else []) := filter_snoc h _
theorem sin_len (l : List Opr) (v : List Int) (k : Nat) : (sinO (l.take k) v).length ≤ k := by
  unfold sinO
  exact Nat.le_trans (List.length_filter_le _ _) (by rw [List.length_take]; omega)

set_option maxRecDepth 100000 in
set_option maxHeartbeats 6400000 in
theorem since_any (a a' : Option Addr) (cap cap' : Nat) (l : List Opr) (v : List Int) (w : World) (hl : l.length ≤ 100000) (_ : v.length ≤ 100000) (ha : RowsAt oprLay w a l) (hv : RowsAt numLay w a' v) :
    Calls Tryz.prog 20 #[.slice a l.length cap, .slice a' v.length cap'] w fun e w' => ∃ u, e = .returned u ∧ OwnRows oprLay w' w.heap.size 28 u (sinO l v) ∧ Below w.heap.size w w' := by
  obtain ⟨i0, hi, hz0, hz1, hz2⟩ := info_parts oprInfo
  have Hi := Lib.hid hi
  have Hz0 := Lib.hid hz0
  have Hz1 := Lib.hid hz1
  have Hz2 := Lib.hid hz2
  clear hi hz0 hz1 hz2
  have HA := Lib.hid ha
  have HV := Lib.hid hv
  clear ha hv
  go_enter Tryz.func20, Tryz.ntmps20
  go_wp2_with fail
  go_loopw [5, 12] (fun u i wr => ∃ k : Nat, k ≤ l.length ∧ i = .int .i64 k ∧ OwnRows oprLay wr w.heap.size 28 u (sinO (l.take k) v) ∧ Below w.heap.size w wr) (fun _ i _ => l.length - (RowKit.intOf i).toNat)
  case atStart => exact ⟨0, Nat.zero_le _, rfl, OwnRows.nil _ _ _ _, Below.refl _ _⟩
  case round =>
    obtain ⟨k, hk, rfl, ho, hb⟩ := hrel
    by_cases hlt : k < l.length
    · obtain ⟨y, hy⟩ := at_some hlt
      obtain ⟨b, off, rfl, hbl, c0, c1, c2, c3, c4, c5, c6, c7, c8, c9, c10⟩ := opr_at (HA.out.keeps hb) hy
      have Hst := Lib.hid (sin_step (v := v) hy)
      have hlen := sin_len l v k
      have ho1 := ho.alloc (.cells #[.int .i64 y.cnt, .int .i64 y.who, .int .i64 y.seq, .int .i64 y.kind, .int .i64 y.nc, .int .i64 y.nw, .bool y.dir, .int .i64 y.pc, .int .i64 y.pw, .string y.name, .string y.man] 28)
      have hb1 := hb.alloc hb.size (.cells #[.int .i64 y.cnt, .int .i64 y.who, .int .i64 y.seq, .int .i64 y.kind, .int .i64 y.nc, .int .i64 y.nw, .bool y.dir, .int .i64 y.pc, .int .i64 y.pw, .string y.name, .string y.man] 28)
      have Hnb := Lib.hid (show newB v y = decide (atV v y.who < y.seq) from rfl)
      clear hy
      generalize hnb : newB v y = nb at *
      clear hnb
      generalize sinO (l.take k) v = out at *
      rcases Int.lt_or_le y.who 0 with h0 | h0
      · have Hat := Lib.hid (atV_out (v := v) (.inl h0))
        have e1 : decide (0 ≤ y.who) = false := by simp; omega
        have Hn := Lib.hid (show nb = decide (0 < y.seq) by rw [Hnb.out, Hat.out])
        by_cases hs : 0 < y.seq
        · have hnt : nb = true := by rw [Hn.out]; simpa using hs
          subst hnt
          go_wp2_with (at_builtin; refine wpList_append_rows _ rfl _ _ 22 rfl oprLay w.heap.size 28 i0 (.agg #[.int .i64 0, .int .i64 0, .int .i64 0, .int .i64 0, .int .i64 0, .int .i64 0, .bool false, .int .i64 0, .int .i64 0, .string ⟨#[]⟩, .string ⟨#[]⟩]) 104 Tryz.underlying22 Hi.out Hz0.out Hz1.out Hz2.out rfl (by decide) _ _ rfl (ho1.alloc _) ⟨wr.heap.size + 1, 0, none⟩ 1 y rfl (cells_new_at _ (wr.heap.size + 1) #[.int .i64 y.cnt, .int .i64 y.who, .int .i64 y.seq, .int .i64 y.kind, .int .i64 y.nc, .int .i64 y.nw, .bool y.dir, .int .i64 y.pc, .int .i64 y.pw, .string y.name, .string y.man] 28 (by simp)) (by unfold maxLen; omega) (by omega) (by have := hb.size; simp; omega) ?_)
          intro v2 w4 ho4 hg4 _
          have hb4 := (hb1.alloc hb1.size (.cells #[.int .i64 y.cnt, .int .i64 y.who, .int .i64 y.seq, .int .i64 y.kind, .int .i64 y.nc, .int .i64 y.nw, .bool y.dir, .int .i64 y.pc, .int .i64 y.pw, .string y.name, .string y.man] 28)).grown hg4 (by have := hb.size; simp; omega) (fun j ej => (ho1.lt ej).1)
          clear hg4 ho ho1
          go_wp2_with fail
          go_roundw
          case rel => exact ⟨k + 1, by omega, by go_num, by rw [Hst.out]; exact ho4, hb4⟩
          case measure => simp [RowKit.intOf]; omega
        · have hnt : nb = false := by rw [Hn.out]; simpa using hs
          subst hnt
          go_wp2_with fail
          go_roundw
          case rel => exact ⟨k + 1, by omega, by go_num, by rw [Hst.out]; simpa using ho1, hb1⟩
          case measure => simp [RowKit.intOf]; omega
      · obtain ⟨m, hm⟩ : ∃ m : Nat, y.who = (m : Int) := ⟨y.who.toNat, by omega⟩
        by_cases hmv : m < v.length
        · obtain ⟨u, hu⟩ := at_some hmv
          have ha2 := (HV.out.keeps hb).keeps ((Below.refl _ _).alloc (Nat.le_refl _) (.cells #[.int .i64 y.cnt, .int .i64 y.who, .int .i64 y.seq, .int .i64 y.kind, .int .i64 y.nc, .int .i64 y.nw, .bool y.dir, .int .i64 y.pc, .int .i64 y.pw, .string y.name, .string y.man] 28))
          obtain ⟨b2, off2, hae, hbl2, d0⟩ := num_at (HV.out.keeps hb) hu
          subst hae
          obtain ⟨b3, off3, hae, hbl3, d1⟩ := num_at ha2 hu
          cases hae
          have Hat := Lib.hid (atV_in hu)
          have Hn := Lib.hid (show nb = decide (max u 0 < y.seq) by rw [Hnb.out, hm, Hat.out])
          rw [hm] at c1
          have e1 : decide ((0 : Int) ≤ (m : Int)) = true := by simp
          have e2 : decide ((m : Int) < (v.length : Int)) = true := by simp; omega
          clear hu h0
          have hym : y = ⟨y.cnt, m, y.seq, y.kind, y.nc, y.nw, y.dir, y.pc, y.pw, y.name, y.man⟩ := by
            cases y; dsimp only at hm; subst hm; rfl
          have hso : ∀ (u : List Opr) W V B, OwnRows oprLay W B 28 V (u ++ [⟨y.cnt, m, y.seq, y.kind, y.nc, y.nw, y.dir, y.pc, y.pw, y.name, y.man⟩]) → OwnRows oprLay W B 28 V (u ++ [y]) := fun u W V B h => by rw [hym]; exact h
          rw [hm] at ho1 hb1
          have Hso := Lib.hid hso
          clear hym hso hm ha2
          rcases Int.lt_or_le 0 u with hu0 | hu0
          · have e3 : max u 0 = u := by omega
            rw [e3] at Hn
            clear e3
            by_cases hs : u < y.seq
            · have hnt : nb = true := by rw [Hn.out]; simpa using hs
              subst hnt
              go_wp2_with (at_builtin; refine wpList_append_rows _ rfl _ _ 22 rfl oprLay w.heap.size 28 i0 (.agg #[.int .i64 0, .int .i64 0, .int .i64 0, .int .i64 0, .int .i64 0, .int .i64 0, .bool false, .int .i64 0, .int .i64 0, .string ⟨#[]⟩, .string ⟨#[]⟩]) 104 Tryz.underlying22 Hi.out Hz0.out Hz1.out Hz2.out rfl (by decide) _ _ rfl (ho1.alloc _) ⟨wr.heap.size + 1, 0, none⟩ 1 (⟨y.cnt, m, y.seq, y.kind, y.nc, y.nw, y.dir, y.pc, y.pw, y.name, y.man⟩ : Opr) rfl (cells_new_at _ (wr.heap.size + 1) #[.int .i64 y.cnt, .int .i64 m, .int .i64 y.seq, .int .i64 y.kind, .int .i64 y.nc, .int .i64 y.nw, .bool y.dir, .int .i64 y.pc, .int .i64 y.pw, .string y.name, .string y.man] 28 (by simp)) (by unfold maxLen; omega) (by omega) (by have := hb.size; simp; omega) ?_)
              intro v2 w4 ho4 hg4 _
              have hb4 := (hb1.alloc hb1.size (.cells #[.int .i64 y.cnt, .int .i64 m, .int .i64 y.seq, .int .i64 y.kind, .int .i64 y.nc, .int .i64 y.nw, .bool y.dir, .int .i64 y.pc, .int .i64 y.pw, .string y.name, .string y.man] 28)).grown hg4 (by have := hb.size; simp; omega) (fun j ej => (ho1.lt ej).1)
              clear hg4 ho ho1
              go_wp2_with fail
              go_roundw
              case rel => exact ⟨k + 1, by omega, by go_num, by rw [Hst.out]; exact Hso.out _ _ _ _ ho4, hb4⟩
              case measure => simp [RowKit.intOf]; omega
            · have hnt : nb = false := by rw [Hn.out]; simpa using hs
              subst hnt
              go_wp2_with fail
              go_roundw
              case rel => exact ⟨k + 1, by omega, by go_num, by rw [Hst.out]; simpa using ho1, hb1⟩
              case measure => simp [RowKit.intOf]; omega
          · have e3 : max u 0 = 0 := by omega
            rw [e3] at Hn
            clear e3
            by_cases hs : 0 < y.seq
            · have hnt : nb = true := by rw [Hn.out]; simpa using hs
              subst hnt
              go_wp2_with (at_builtin; refine wpList_append_rows _ rfl _ _ 22 rfl oprLay w.heap.size 28 i0 (.agg #[.int .i64 0, .int .i64 0, .int .i64 0, .int .i64 0, .int .i64 0, .int .i64 0, .bool false, .int .i64 0, .int .i64 0, .string ⟨#[]⟩, .string ⟨#[]⟩]) 104 Tryz.underlying22 Hi.out Hz0.out Hz1.out Hz2.out rfl (by decide) _ _ rfl (ho1.alloc _) ⟨wr.heap.size + 1, 0, none⟩ 1 (⟨y.cnt, m, y.seq, y.kind, y.nc, y.nw, y.dir, y.pc, y.pw, y.name, y.man⟩ : Opr) rfl (cells_new_at _ (wr.heap.size + 1) #[.int .i64 y.cnt, .int .i64 m, .int .i64 y.seq, .int .i64 y.kind, .int .i64 y.nc, .int .i64 y.nw, .bool y.dir, .int .i64 y.pc, .int .i64 y.pw, .string y.name, .string y.man] 28 (by simp)) (by unfold maxLen; omega) (by omega) (by have := hb.size; simp; omega) ?_)
              intro v2 w4 ho4 hg4 _
              have hb4 := (hb1.alloc hb1.size (.cells #[.int .i64 y.cnt, .int .i64 m, .int .i64 y.seq, .int .i64 y.kind, .int .i64 y.nc, .int .i64 y.nw, .bool y.dir, .int .i64 y.pc, .int .i64 y.pw, .string y.name, .string y.man] 28)).grown hg4 (by have := hb.size; simp; omega) (fun j ej => (ho1.lt ej).1)
              clear hg4 ho ho1
              go_wp2_with fail
              go_roundw
              case rel => exact ⟨k + 1, by omega, by go_num, by rw [Hst.out]; exact Hso.out _ _ _ _ ho4, hb4⟩
              case measure => simp [RowKit.intOf]; omega
            · have hnt : nb = false := by rw [Hn.out]; simpa using hs
              subst hnt
              go_wp2_with fail
              go_roundw
              case rel => exact ⟨k + 1, by omega, by go_num, by rw [Hst.out]; simpa using ho1, hb1⟩
              case measure => simp [RowKit.intOf]; omega
        · have Hat := Lib.hid (atV_out (v := v) (n := y.who) (.inr (by omega)))
          have Hn := Lib.hid (show nb = decide (0 < y.seq) by rw [Hnb.out, Hat.out])
          have e1 : decide (0 ≤ y.who) = true := by simp; omega
          have e2 : decide (y.who < (v.length : Int)) = false := by simp; omega
          clear hm
          by_cases hs : 0 < y.seq
          · have hnt : nb = true := by rw [Hn.out]; simpa using hs
            subst hnt
            go_wp2_with (at_builtin; refine wpList_append_rows _ rfl _ _ 22 rfl oprLay w.heap.size 28 i0 (.agg #[.int .i64 0, .int .i64 0, .int .i64 0, .int .i64 0, .int .i64 0, .int .i64 0, .bool false, .int .i64 0, .int .i64 0, .string ⟨#[]⟩, .string ⟨#[]⟩]) 104 Tryz.underlying22 Hi.out Hz0.out Hz1.out Hz2.out rfl (by decide) _ _ rfl (ho1.alloc _) ⟨wr.heap.size + 1, 0, none⟩ 1 y rfl (cells_new_at _ (wr.heap.size + 1) #[.int .i64 y.cnt, .int .i64 y.who, .int .i64 y.seq, .int .i64 y.kind, .int .i64 y.nc, .int .i64 y.nw, .bool y.dir, .int .i64 y.pc, .int .i64 y.pw, .string y.name, .string y.man] 28 (by simp)) (by unfold maxLen; omega) (by omega) (by have := hb.size; simp; omega) ?_)
            intro v2 w4 ho4 hg4 _
            have hb4 := (hb1.alloc hb1.size (.cells #[.int .i64 y.cnt, .int .i64 y.who, .int .i64 y.seq, .int .i64 y.kind, .int .i64 y.nc, .int .i64 y.nw, .bool y.dir, .int .i64 y.pc, .int .i64 y.pw, .string y.name, .string y.man] 28)).grown hg4 (by have := hb.size; simp; omega) (fun j ej => (ho1.lt ej).1)
            clear hg4 ho ho1
            go_wp2_with fail
            go_roundw
            case rel => exact ⟨k + 1, by omega, by go_num, by rw [Hst.out]; exact ho4, hb4⟩
            case measure => simp [RowKit.intOf]; omega
          · have hnt : nb = false := by rw [Hn.out]; simpa using hs
            subst hnt
            go_wp2_with fail
            go_roundw
            case rel => exact ⟨k + 1, by omega, by go_num, by rw [Hst.out]; simpa using ho1, hb1⟩
            case measure => simp [RowKit.intOf]; omega
    · rw [List.take_of_length_le (by omega)] at ho
      go_wp2_with fail
      go_ret
      exact ⟨_, rfl, ho, hb⟩
end Go.Proofs.YtlenpifjkbcmdaaGreatDoor

