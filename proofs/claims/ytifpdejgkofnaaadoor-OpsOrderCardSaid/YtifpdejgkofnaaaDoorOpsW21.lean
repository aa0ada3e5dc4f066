import Derived.Test.YtifpdejgkofnaaaDoorOpsW20
import Derived.OwnWalk
import Derived.Laws.OwnMore
namespace Go.Proofs.YtifpdejgkofnaaaDoor
open Go Go.RowKit Go.Lib

theorem zeros_flat (n : Nat) : flat numLay (padO [] n) = List.replicate n (Value.int .i64 0) := by rw [padO_nil, flat_nums, List.map_replicate]
set_option maxRecDepth 100000 in
set_option maxHeartbeats 6400000 in
theorem rvector_any (a : Option Addr) (cap : Nat) (l : List Opr) (w : World) (hl : l.length ≤ 100000) (hlo : ∀ x ∈ l, -9223372036854775808 ≤ x.who) (ha : RowsAt oprLay w a l) :
    Calls Tryd.prog 23 #[.slice a l.length cap] w fun e w' => ∃ v, e = .returned v ∧ OwnRows numLay w' w.heap.size 3 v (vecO l) ∧ Below w.heap.size w w' := by
  obtain ⟨i0, hi, hz0, hz1, hz2⟩ := info_parts numInfo
  have Hi := Lib.hid hi
  have Hz0 := Lib.hid hz0
  have Hz1 := Lib.hid hz1
  have Hz2 := Lib.hid hz2
  clear hi hz0 hz1 hz2
  have HA := Lib.hid ha
  have HL := Lib.hid hlo
  clear ha hlo
  go_enter Tryd.func23, Tryd.ntmps23
  go_wp2_with fail
  go_loopw [3, 4] (fun n i wr => ∃ k : Nat, k ≤ l.length ∧ n = .int .i64 (lenO (l.take k) : Nat) ∧ i = .int .i64 k ∧ wr = w) (fun _ i _ => l.length - (RowKit.intOf i).toNat)
  case atStart => exact ⟨0, Nat.zero_le _, rfl, rfl, rfl⟩
  case round =>
    obtain ⟨k, hk, rfl, rfl, rfl⟩ := hrel
    have hle := lenO_le (l.take k)
    by_cases hlt : k < l.length
    · obtain ⟨y, hy⟩ := at_some hlt
      have hyl := HL.out y (List.mem_of_getElem? hy)
      obtain ⟨b, off, rfl, hbl, c0, c1, c2, c3, c4, c5, c6, c7, c8, c9, c10⟩ := opr_at HA.out hy
      have Hls := Lib.hid (show lenO (l.take (k + 1)) = if validB y then max (lenO (l.take k)) (y.who.toNat + 1) else lenO (l.take k) by rw [take_snoc hy, lenO_snoc])
      clear hy
      generalize lenO (l.take k) = n at *
      by_cases h15 : y.who < 15
      · by_cases h0 : 0 ≤ y.who
        · have hv := validB_iff.2 ⟨h0, h15⟩
          rw [hv] at Hls
          obtain ⟨m, hm⟩ : ∃ m : Nat, y.who = (m : Int) := ⟨y.who.toNat, by omega⟩
          rw [hm] at c1 Hls
          have hm15 : m < 15 := by omega
          clear hv hm h0 h15 hyl
          by_cases hmn : (n : Int) < (m : Int) + 1
          · go_wp2_with fail
            go_roundw
            case rel => exact ⟨k + 1, by omega, by rw [Hls.out]; simp; omega, by go_num, by first | rfl | trivial⟩
            case measure => simp [RowKit.intOf]; omega
          · go_wp2_with fail
            go_roundw
            case rel => exact ⟨k + 1, by omega, by rw [Hls.out]; simp; omega, by go_num, by first | rfl | trivial⟩
            case measure => simp [RowKit.intOf]; omega
        · have hv : validB y = false := by
            have : ¬ (0 ≤ y.who ∧ y.who < 15) := fun h => h0 h.1
            simpa using fun h => this (validB_iff.1 h)
          rw [hv] at Hls
          have hmn : ¬ ((n : Int) < y.who + 1) := by omega
          clear hv
          go_wp2_with fail
          go_roundw
          case rel => exact ⟨k + 1, by omega, by rw [Hls.out]; simp; omega, by go_num, by first | rfl | trivial⟩
          case measure => simp [RowKit.intOf]; omega
      · have hv : validB y = false := by
          have : ¬ (0 ≤ y.who ∧ y.who < 15) := fun h => h15 h.2
          simpa using fun h => this (validB_iff.1 h)
        rw [hv] at Hls
        clear hv
        go_wp2_with fail
        go_roundw
        case rel => exact ⟨k + 1, by omega, by rw [Hls.out]; simp, by go_num, by first | rfl | trivial⟩
        case measure => simp [RowKit.intOf]; omega
    · rw [List.take_of_length_le (by omega)] at hle ⊢
      obtain ⟨N, hN⟩ : ∃ N, lenO l = N := ⟨_, rfl⟩
      have HN := Lib.hid (show vecO l = padO l N by unfold vecO; rw [hN])
      have HNv := Lib.hid hN
      rw [hN] at hle ⊢
      clear hN
      go_wp2_with (refine wpList_make_full _ rfl _ _ 39 rfl wr.heap.size 3 i0 (.int .i64 0) 1 Tryd.underlying39 Hi.out Hz0.out Hz1.out .i64 .i64 N N N rfl rfl rfl rfl (by rw [Hz2.out]; omega) (by unfold maxLen; omega) (Nat.le_refl _) ?_)
      intro w1 ho hg
      have ho1 : OwnRows numLay w1 wr.heap.size 3 (.slice (some ⟨wr.heap.size, 0, none⟩) N N) (padO (l.take 0) N) := by
        unfold OwnRows
        rw [List.take_zero, padO_len, zeros_flat]
        rw [toList_madeCells_one] at ho
        exact ho
      have hb1 : Below wr.heap.size wr w1 := (Below.refl _ _).grown hg (Nat.le_refl _) (fun j ej => by cases ej)
      clear ho hg
      obtain ⟨wo, hwo⟩ : ∃ wo, wo = wr := ⟨_, rfl⟩
      subst hwo
      go_wp2_with fail
      go_loopw [6] (fun i wq => ∃ k : Nat, k ≤ l.length ∧ i = .int .i64 k ∧ OwnRows numLay wq wo.heap.size 3 (.slice (some ⟨wo.heap.size, 0, none⟩) N N) (padO (l.take k) N) ∧ Below wo.heap.size wo wq) (fun i _ => l.length - (RowKit.intOf i).toNat)
      case atStart => exact ⟨0, Nat.zero_le _, rfl, ho1, hb1⟩
      case round =>
        obtain ⟨k, hk, rfl, ho, hb⟩ := hrel
        clear ho1 hb1
        by_cases hlt : k < l.length
        · obtain ⟨y, hy⟩ := at_some hlt
          obtain ⟨b, off, rfl, hbl, c0, c1, c2, c3, c4, c5, c6, c7, c8, c9, c10⟩ := opr_at (HA.out.keeps hb) hy
          have Hts := Lib.hid (take_snoc hy)
          have hmem := List.mem_of_getElem? hy
          clear hy
          by_cases h0 : 0 ≤ y.who
          · obtain ⟨m, hm⟩ : ∃ m : Nat, y.who = (m : Int) := ⟨y.who.toNat, by omega⟩
            have Hm := Lib.hid hm
            rw [hm] at c1
            by_cases hmN : m < N
            · obtain ⟨g, cv, hv, hgB, hlc, hcell, hfz, hset⟩ := ho.at_num (padO_get (l := l.take k) hmN)
              rw [padO_len] at hv hlc
              cases hv
              have hcl := cntO_le (l.take k) m
              rw [List.length_take] at hcl
              have Hst := Lib.hid (padO_set (l := l.take k) (y := y) (n := N) (k := m) Hm.out hmN)
              have hs1 := hset (cntO (l.take k) m + 1)
              rw [Hst.out, ← Hts.out] at hs1
              have hB := hb.setCell (p := ⟨wo.heap.size, m, none⟩) hgB (.int .i64 (cntO (l.take k) m + 1))
              clear hset ho h0 hm
              generalize hcc : cntO (l.take k) m = c at *
              have hc1 : 0 ≤ c := hcl.1
              have hc2 : c ≤ 100000 := by omega
              clear hcl hcc
              go_wp2_with fail
              go_roundw
              case rel => exact ⟨k + 1, by omega, by go_num, hs1, hB⟩
              case measure => simp [RowKit.intOf]; omega
            · have hvf : validB y = false := by
                by_cases hv : validB y = true
                · have := lenO_mem hmem hv
                  rw [HNv.out] at this
                  omega
                · simpa using hv
              have Hsk := Lib.hid (show padO (l.take (k + 1)) N = padO (l.take k) N by rw [Hts.out]; exact padO_skip hle hvf)
              clear h0 hm hvf
              go_wp2_with fail
              go_roundw
              case rel => exact ⟨k + 1, by omega, by go_num, by rw [Hsk.out]; exact ho, hb⟩
              case measure => simp [RowKit.intOf]; omega
          · have hvf : validB y = false := by
              have : ¬ (0 ≤ y.who ∧ y.who < 15) := fun h => h0 h.1
              simpa using fun h => this (validB_iff.1 h)
            have Hsk := Lib.hid (show padO (l.take (k + 1)) N = padO (l.take k) N by rw [Hts.out]; exact padO_skip hle hvf)
            clear hvf
            go_wp2_with fail
            go_roundw
            case rel => exact ⟨k + 1, by omega, by go_num, by rw [Hsk.out]; exact ho, hb⟩
            case measure => simp [RowKit.intOf]; omega
        · rw [List.take_of_length_le (by omega), ← HN.out] at ho
          go_wp2_with fail
          go_ret
          exact ⟨_, rfl, ho, hb⟩
end Go.Proofs.YtifpdejgkofnaaaDoor
