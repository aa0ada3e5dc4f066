import Derived.Test.YtifpdejgkofnaaaDoorOpsW14
import Derived.Test.YtifpdejgkofnaaaDoorVecPure
import Derived.Test.YtifpdejgkofnaaaDoorNums
namespace Go.Proofs.YtifpdejgkofnaaaDoor
open Go Go.RowKit Go.Lib

theorem numInfo : (Tryd.prog.info? 3).map (fun i => (i.zero, i.size, i.bytes)) = some (some (.int .i64 0), 1, 8) := by kernel_rfl

set_option maxRecDepth 100000 in
set_option maxHeartbeats 1600000 in
theorem nums_any (a b : Option Addr) (cap cap' : Nat) (xs ys : List Int) (w : World) (hl : xs.length ≤ 140737488351232) (ha : RowsAt numLay w a xs) (hb : RowsAt numLay w b ys) :
    Calls Tryd.prog 21 #[.slice a xs.length cap, .slice b ys.length cap'] w fun e w' => e = .returned (.bool (decide (xs = ys))) ∧ ∃ n, w' = w.drewN n := by
  have HA := Lib.hid ha
  have HB := Lib.hid hb
  clear ha hb
  by_cases hlen : xs.length = ys.length
  · have hq : ((xs.length : Int) != (ys.length : Int)) = false := by rw [hlen]; simp
    have Hlen := Lib.hid hlen
    clear hlen
    go_enter Tryd.func21, Tryd.ntmps21
    go_wp2
    clear hq
    go_loopw [5] (fun i wr => ∃ k : Nat, k ≤ xs.length ∧ i = .int .i64 k ∧ Hid (∀ j, j < k → xs[j]? = ys[j]?) ∧ ∃ n, wr = w.drewN n) (fun i _ => xs.length - (RowKit.intOf i).toNat)
    case atStart => exact ⟨0, Nat.zero_le _, rfl, fun j hj => absurd hj (Nat.not_lt_zero _), Drawn.refl _⟩
    case round =>
      obtain ⟨k, hk, rfl, Hk, n, rfl⟩ := hrel
      by_cases hlt : k < xs.length
      · have hlt2 : k < ys.length := by have := Hlen.out; omega
        obtain ⟨x, hx⟩ := at_some hlt
        obtain ⟨y, hy⟩ := at_some hlt2
        obtain ⟨b1, o1, rfl, hb1, c0⟩ := num_at HA.out hx
        obtain ⟨b2, o2, rfl, hb2, d0⟩ := num_at HB.out hy
        have Hx := Lib.hid hx
        have Hy := Lib.hid hy
        clear hx hy
        by_cases h1 : x = y
        · have e2 : (x != y) = false := by rw [h1]; simp
          have Hn := Lib.hid h1
          clear h1
          go_wp2
          go_quiet (fail)
          go_wp2
          go_roundw
          case rel =>
            refine ⟨k + 1, by omega, by go_num, fun j hj => ?_, n + nq, by simp⟩
            by_cases e : j = k
            · subst e; rw [Hx.out, Hy.out, Hn.out]
            · exact Hk.out j (by omega)
          case measure => simp [RowKit.intOf]; omega
        · have e2 : (x != y) = true := by rw [bne_iff_ne]; exact h1
          have Hr := Lib.hid (same_at Hx.out Hy.out h1)
          clear h1
          go_wp2
          go_quiet (fail)
          go_wp2
          go_ret
          exact ⟨ret_bool Hr.out.symm, n + nq, by simp⟩
      · have Hr := Lib.hid (same_ok Hlen.out (fun j hj => Hk.out j (by omega)))
        go_wp2
        go_ret
        exact ⟨ret_bool Hr.out.symm, _, rfl⟩
  · have Hr := Lib.hid (same_len hlen)
    have hq : ((xs.length : Int) != (ys.length : Int)) = true := by rw [bne_iff_ne]; omega
    clear hlen
    go_enter Tryd.func21, Tryd.ntmps21
    go_wp2
    go_ret
    exact ⟨ret_bool Hr.out.symm, Drawn.refl _⟩


set_option maxRecDepth 100000 in
set_option maxHeartbeats 6400000 in
theorem vector_any (a : Option Addr) (cap : Nat) (l : List Opr) (w : World) (hl : l.length ≤ 100000) (ha : RowsAt oprLay w a l) :
    Calls Tryd.prog 22 #[.slice a l.length cap] w fun e w' => ∃ v, e = .returned v ∧ OwnRows numLay w' w.heap.size 3 v (vecO l) ∧ Below w.heap.size w w' := by
  obtain ⟨i0, hi, hz0, hz1, hz2⟩ := info_parts numInfo
  have Hi := Lib.hid hi
  have Hz0 := Lib.hid hz0
  have Hz1 := Lib.hid hz1
  have Hz2 := Lib.hid hz2
  clear hi hz0 hz1 hz2
  have HA := Lib.hid ha
  clear ha
  go_enter Tryd.func22, Tryd.ntmps22
  go_wp2_with fail
  go_loopw [3, 9] (fun v i wr => ∃ k : Nat, k ≤ l.length ∧ i = .int .i64 k ∧ OwnRows numLay wr w.heap.size 3 v (vecO (l.take k)) ∧ Below w.heap.size w wr) (fun _ i _ => l.length - (RowKit.intOf i).toNat)
  case atStart => exact ⟨0, Nat.zero_le _, rfl, OwnRows.nil _ _ _ _, Below.refl _ _⟩
  case round =>
    obtain ⟨k, hk, rfl, ho, hb⟩ := hrel
    by_cases hlt : k < l.length
    · obtain ⟨y, hy⟩ := at_some hlt
      obtain ⟨b, off, rfl, hbl, c0, c1, c2, c3, c4, c5, c6, c7, c8, c9, c10⟩ := opr_at (HA.out.keeps hb) hy
      have Hts := Lib.hid (take_snoc hy)
      have ho1 := ho.alloc (.cells #[.int .i64 y.cnt, .int .i64 y.who, .int .i64 y.seq, .int .i64 y.kind, .int .i64 y.nc, .int .i64 y.nw, .bool y.dir, .int .i64 y.pc, .int .i64 y.pw, .string y.name, .string y.man] 25)
      have hb1 := hb.alloc hb.size (.cells #[.int .i64 y.cnt, .int .i64 y.who, .int .i64 y.seq, .int .i64 y.kind, .int .i64 y.nc, .int .i64 y.nw, .bool y.dir, .int .i64 y.pc, .int .i64 y.pw, .string y.name, .string y.man] 25)
      have hle := lenO_le (l.take k)
      clear hy ho
      by_cases hv : validB y = true
      · have hv1 := validB_iff.1 hv
        obtain ⟨m, hm⟩ : ∃ m : Nat, y.who = (m : Int) := ⟨y.who.toNat, by omega⟩
        have hm15 : m < 15 := by omega
        have Hv := Lib.hid hv
        have Hm := Lib.hid hm
        rw [hm] at c1
        have e1 : decide ((m : Int) < 0) = false := by simp
        have e2 : decide ((15 : Int) ≤ (m : Int)) = false := by simp; omega
        clear hv hv1
        obtain ⟨wo, hwo⟩ : ∃ wo, wo = wr.alloc (.cells #[.int .i64 y.cnt, .int .i64 m, .int .i64 y.seq, .int .i64 y.kind, .int .i64 y.nc, .int .i64 y.nw, .bool y.dir, .int .i64 y.pc, .int .i64 y.pw, .string y.name, .string y.man] 25) := ⟨_, rfl⟩
        rw [hm, ← hwo] at ho1 hb1
        clear hm
        go_wp2_with fail
        rw [← hwo]
        clear hwo
        go_loopw [3] (fun v wq => ∃ n : Nat, n ≤ 15 ∧ lenO (l.take k) ≤ n ∧ (n ≤ lenO (l.take k) ∨ n ≤ m + 1) ∧ OwnRows numLay wq w.heap.size 3 v (padO (l.take k) n) ∧ Below w.heap.size w wq) (fun v _ => m + 1 - (RowKit.intOf (match v with | .slice _ n _ => .int .i64 n | _ => .int .i64 0)).toNat)
        case atStart => exact ⟨_, hle, Nat.le_refl _, .inl (Nat.le_refl _), ho1, hb1⟩
        case round =>
          obtain ⟨n, hn15, hn1, hn2, ho, hb⟩ := hrel
          have hpl := padO_len (l.take k) n
          by_cases hnm : n ≤ m
          · obtain ⟨av, cv, rfl, _⟩ := ho.read
            rw [hpl] at ho ⊢
            have Hn := Lib.hid (padO_next hn1 (by omega))
            go_wp2_with (at_builtin; refine wpList_append_rows _ rfl _ _ 39 rfl numLay w.heap.size 3 i0 (.int .i64 0) 8 Tryd.underlying39 Hi.out Hz0.out Hz1.out Hz2.out rfl (by decide) _ _ rfl (ho.alloc _) ⟨_, 0, none⟩ 1 (0 : Int) rfl (cells_new_at _ _ #[.int .i64 0] 3 rfl) (by unfold maxLen; omega) (by omega) (by have := hb.size; simp; omega) ?_)
            intro v2 w4 ho4 hg4 _
            have hb4 := (hb.alloc hb.size (.cells #[.int .i64 0] 3)).grown hg4 (by have := hb.size; simp; omega) (fun j ej => (ho.lt ej).1)
            obtain ⟨a2, c2, rfl, _⟩ := ho4.read
            clear hg4 ho
            go_wp2_with fail
            go_roundw
            case rel => exact ⟨n + 1, by omega, by omega, .inr (by omega), by rw [Hn.out]; exact ho4, hb4⟩
            case measure => simp [RowKit.intOf, hpl]; omega
          · have hmn : m < n := by omega
            have hne : n = lenO (l.take (k + 1)) := by
              rw [Hts.out, lenO_snoc, if_pos Hv.out, Hm.out]
              simp only [Int.toNat_natCast]
              omega
            obtain ⟨g, cv, rfl, hgB, hlc, hcell, hfz, hset⟩ := ho.at_num (padO_get (l := l.take k) hmn)
            have hcl := cntO_le (l.take k) m
            rw [List.length_take] at hcl
            have Hst := Lib.hid (padO_set (l := l.take k) (y := y) (n := n) (k := m) Hm.out hmn)
            have hs1 := hset (cntO (l.take k) m + 1)
            rw [Hst.out] at hs1
            have hB := hb.setCell (p := ⟨g, m, none⟩) hgB (.int .i64 (cntO (l.take k) m + 1))
            have Hne := Lib.hid hne
            rw [hpl] at hlc hs1 ⊢
            clear hset ho hne
            generalize hcc : cntO (l.take k) m = c at *
            have hc1 : 0 ≤ c := hcl.1
            have hc2 : c ≤ 100000 := by omega
            clear hcl hcc
            go_wp2_with fail
            go_roundw
            case rel =>
              refine ⟨k + 1, by omega, by go_num, ?_, hB⟩
              show OwnRows numLay _ _ _ _ (padO _ _)
              rw [← Hne.out, Hts.out]
              exact hs1
            case measure => simp [RowKit.intOf]; omega
      · have hvf : validB y = false := by simpa using hv
        have Hsk := Lib.hid (show vecO (l.take (k + 1)) = vecO (l.take k) by
          rw [Hts.out]
          unfold vecO
          rw [lenO_snoc, hvf]
          simp only [Bool.false_eq_true, if_false]
          exact padO_skip hle hvf)
        have hv2 : y.who < 0 ∨ (0 ≤ y.who ∧ 15 ≤ y.who) := by
          have : ¬ (0 ≤ y.who ∧ y.who < 15) := fun h => hv (validB_iff.2 h)
          omega
        clear hv hvf
        rcases hv2 with hv2 | ⟨hv2, hv3⟩
        · have e1 : decide (y.who < 0) = true := by simpa using hv2
          go_wp2_with fail
          go_roundw
          case rel => exact ⟨k + 1, by omega, by go_num, by rw [Hsk.out]; exact ho1, hb1⟩
          case measure => simp [RowKit.intOf]; omega
        · have e1 : decide (y.who < 0) = false := by simpa using hv2
          have e2 : decide ((15 : Int) ≤ y.who) = true := by simpa using hv3
          go_wp2_with fail
          go_roundw
          case rel => exact ⟨k + 1, by omega, by go_num, by rw [Hsk.out]; exact ho1, hb1⟩
          case measure => simp [RowKit.intOf]; omega
    · rw [List.take_of_length_le (by omega)] at ho
      go_wp2_with fail
      go_ret
      exact ⟨_, rfl, ho, hb⟩
end Go.Proofs.YtifpdejgkofnaaaDoor
