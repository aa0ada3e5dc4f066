import Derived.Test.YtmbmaompoplbaaaScanW5
namespace Go.Proofs.Ytmbmaompoplbaaa
open Go.RowKit Go.Lib

set_option maxRecDepth 100000 in
set_option maxHeartbeats 800000 in
theorem few20_any (a : Option Addr) (cap : Nat) (l : List Ent) (w : World) (ha : RowsAt entLay w a l) :
    Calls Try.prog 10 #[.slice a l.length cap] w fun e w' => e = .returned (.bool (fewE 300 1000 l)) ∧ w = w' := by
  have HA := Lib.hid ha
  clear ha
  by_cases h100 : 100 < (l.length : Int)
  · have Hr := Lib.hid (fewE_long (n := 300) (m := 1000) (l := l) (by omega))
    go_enter Try.func10, Try.ntmps10
    go_wp2
    go_ret
    exact ⟨ret_bool Hr.out.symm, rfl⟩
  go_enter Try.func10, Try.ntmps10
  go_wp2
  go_loop [3] (fun i => ∃ k : Nat, k ≤ l.length ∧ i = .int .i64 k ∧ Hid (∀ j x, j < k → l[j]? = some x → x.path.size ≤ 300 ∧ x.data.size ≤ 1000)) (fun i => l.length - (RowKit.intOf i).toNat)
  case atStart => exact ⟨0, Nat.zero_le _, rfl, fun j _ hj => absurd hj (Nat.not_lt_zero _)⟩
  case round =>
    obtain ⟨k, hk, rfl, Hk⟩ := hrel
    by_cases hlt : k < l.length
    · obtain ⟨x, hx⟩ := at_some hlt
      obtain ⟨b, off, rfl, hbl, c0, c1, c2, c3⟩ := ent_at HA.out hx
      have Hx := Lib.hid hx
      clear hx
      by_cases h1 : 300 < (x.path.size : Int)
      · have Hr := Lib.hid (fewE_bad (n := 300) (m := 1000) Hx.out (.inl (by omega)))
        go_wp2
        go_ret
        exact ⟨ret_bool Hr.out.symm, rfl⟩
      · by_cases h2 : 1000 < (x.data.size : Int)
        · have Hr := Lib.hid (fewE_bad (n := 300) (m := 1000) Hx.out (.inr (by omega)))
          go_wp2
          go_ret
          exact ⟨ret_bool Hr.out.symm, rfl⟩
        · go_wp2
          go_round
          case rel =>
            refine ⟨k + 1, by omega, by go_num, fun j y hj hy => ?_⟩
            by_cases e : j = k
            · subst e
              rw [Hx.out] at hy
              cases hy
              omega
            · exact Hk.out j y (by omega) hy
          case measure => simp [RowKit.intOf]; omega
    · have Hr := Lib.hid (fewE_ok (n := 300) (m := 1000) (l := l) (by omega) (fun j y hj => Hk.out j y (by omega)))
      go_wp2
      go_ret
      exact ⟨ret_bool Hr.out.symm, rfl⟩


def wakeK : List KEnt := [⟨1, ⟨#[100]⟩, true, ⟨#[]⟩⟩, ⟨2, ⟨#[100, 47, 97]⟩, false, ⟨#[]⟩⟩]
def wakeA : List Ent := [⟨⟨#[101]⟩, 1, true, ⟨#[]⟩⟩, ⟨⟨#[101, 47, 97]⟩, 2, false, ⟨#[]⟩⟩]
def wakeB : List Ent := [⟨⟨#[100]⟩, 1, true, ⟨#[]⟩⟩]
theorem one_of {l : List Chg} {k i : Int} (h : l.map (fun c => (c.kind, c.id)) = [(k, i)]) : ∃ p d t, l = [⟨k, i, p, d, t⟩] := by
  match l, h with
  | [⟨k', i', p, d, t⟩], h =>
    simp only [List.map_cons, List.map_nil, List.cons.injEq, Prod.mk.injEq, and_true] at h
    obtain ⟨rfl, rfl⟩ := h
    exact ⟨p, d, t, rfl⟩
theorem wake_a : (scanK wakeK wakeA).map (fun c => (c.kind, c.id)) = [(2, 1)] := by decide +kernel
theorem wake_b : (scanK wakeK wakeB).map (fun c => (c.kind, c.id)) = [(4, 2)] := by decide +kernel
theorem wake_c : (scanK wakeK []).map (fun c => (c.kind, c.id)) = [(4, 1)] := by decide +kernel

set_option maxRecDepth 100000 in
set_option maxHeartbeats 1600000 in
theorem awake20_any (w : World) : Calls Try.prog 11 #[] w fun e w' => e = .returned (.bool true) ∧ Below w.heap.size w w' := by
  obtain ⟨pa, da, ta, ha⟩ := one_of wake_a
  obtain ⟨pb, db, tb, hb⟩ := one_of wake_b
  obtain ⟨pc, dc, tc, hc⟩ := one_of wake_c
  have HA := Lib.hid ha
  have HB := Lib.hid hb
  have HC := Lib.hid hc
  clear ha hb hc
  go_enter Try.func11, Try.ntmps11
  go_wp2_with fail
  have hb0 := (Below.refl w.heap.size w).alloc (Nat.le_refl _) (.cells #[.int .i64 1, .string ⟨#[100]⟩, .bool true, .string ⟨#[]⟩, .int .i64 2, .string ⟨#[100, 47, 97]⟩, .bool false, .string ⟨#[]⟩] 34)
  have hr0 := rows_new kLay w _ #[.int .i64 1, .string ⟨#[100]⟩, .bool true, .string ⟨#[]⟩, .int .i64 2, .string ⟨#[100, 47, 97]⟩, .bool false, .string ⟨#[]⟩] 34 wakeK rfl rfl
  generalize hw1 : w.alloc (.cells #[.int .i64 1, .string ⟨#[100]⟩, .bool true, .string ⟨#[]⟩, .int .i64 2, .string ⟨#[100, 47, 97]⟩, .bool false, .string ⟨#[]⟩] 34) = w1 at *
  have hs1 : w.heap.size + 1 = w1.heap.size := by rw [← hw1]; simp
  rw [hs1]
  have hb1 := hb0.alloc (by omega) (.cells #[.string ⟨#[101]⟩, .int .i64 1, .bool true, .string ⟨#[]⟩, .string ⟨#[101, 47, 97]⟩, .int .i64 2, .bool false, .string ⟨#[]⟩] 36)
  have hr1 := rows_new entLay w1 _ #[.string ⟨#[101]⟩, .int .i64 1, .bool true, .string ⟨#[]⟩, .string ⟨#[101, 47, 97]⟩, .int .i64 2, .bool false, .string ⟨#[]⟩] 36 wakeA rfl rfl
  have hk1 := hr0.keeps ((Below.refl _ w1).alloc (Nat.le_refl _) (.cells #[.string ⟨#[101]⟩, .int .i64 1, .bool true, .string ⟨#[]⟩, .string ⟨#[101, 47, 97]⟩, .int .i64 2, .bool false, .string ⟨#[]⟩] 36))
  clear hw1 hs1 hr0 hb0
  generalize w1.alloc (.cells #[.string ⟨#[101]⟩, .int .i64 1, .bool true, .string ⟨#[]⟩, .string ⟨#[101, 47, 97]⟩, .int .i64 2, .bool false, .string ⟨#[]⟩] 36) = w2 at *
  refine (diff_any _ _ 2 2 wakeK wakeA w2 (by decide) (by decide) (by decide) (by decide) hk1 hr1).mono ?_
  rintro e w3 ⟨va, rfl, hoa, hb2⟩
  rw [HA.out] at hoa
  obtain ⟨aa, capa, rfl, hra, _⟩ := hoa.read
  have hb3 := hb1.trans (hb2.mono hb1.size)
  have hk3 := hk1.keeps hb2
  clear hoa hb1 hb2 hk1 hr1
  dsimp only [List.length_cons, List.length_nil]
  go_wp2_with fail
  have hb4 := hb3.alloc hb3.size (.cells #[.string ⟨#[100]⟩, .int .i64 1, .bool true, .string ⟨#[]⟩] 36)
  have hr4 := rows_new entLay w3 _ #[.string ⟨#[100]⟩, .int .i64 1, .bool true, .string ⟨#[]⟩] 36 wakeB rfl rfl
  have hk4 := hk3.keeps ((Below.refl _ w3).alloc (Nat.le_refl _) (.cells #[.string ⟨#[100]⟩, .int .i64 1, .bool true, .string ⟨#[]⟩] 36))
  have hra4 := hra.keeps ((Below.refl _ w3).alloc (Nat.le_refl _) (.cells #[.string ⟨#[100]⟩, .int .i64 1, .bool true, .string ⟨#[]⟩] 36))
  clear hb3 hk3 hra
  generalize w3.alloc (.cells #[.string ⟨#[100]⟩, .int .i64 1, .bool true, .string ⟨#[]⟩] 36) = w4 at *
  refine (diff_any _ _ 2 1 wakeK wakeB w4 (by decide) (by decide) (by decide) (by decide) hk4 hr4).mono ?_
  rintro e w5 ⟨vb, rfl, hob, hb5⟩
  rw [HB.out] at hob
  obtain ⟨ab, capb, rfl, hrb, _⟩ := hob.read
  have hb6 := hb4.trans (hb5.mono hb4.size)
  have hk6 := hk4.keeps hb5
  have hra6 := hra4.keeps hb5
  clear hob hb4 hb5 hk4 hr4 hra4
  dsimp only [List.length_cons, List.length_nil]
  go_wp2_with fail
  refine (diff_any _ _ 2 0 wakeK [] w5 (by decide) (by decide) (by decide) (by decide) hk6 (RowsAt.nil _ _ _)).mono ?_
  rintro e w7 ⟨vc, rfl, hoc, hb7⟩
  rw [HC.out] at hoc
  obtain ⟨ac, capc, rfl, hrc, _⟩ := hoc.read
  have hb8 := hb6.trans (hb7.mono hb6.size)
  have hra8 := hra6.keeps hb7
  have hrb8 := hrb.keeps hb7
  clear hoc hb6 hb7 hk6 hra6 hrb
  obtain ⟨_, _, rfl, _, a0, a1, _⟩ := ch_at (k := 0) hra8 rfl
  obtain ⟨_, _, rfl, _, b0, b1, _⟩ := ch_at (k := 0) hrb8 rfl
  obtain ⟨_, _, rfl, _, c0, c1, _⟩ := ch_at (k := 0) hrc rfl
  simp only [Nat.zero_mul, Nat.add_zero] at a0 a1 b0 b1 c0 c1
  dsimp only [List.length_cons, List.length_nil]
  go_wp2_with fail
  go_ret
  exact ⟨rfl, hb8⟩

set_option maxRecDepth 100000 in
set_option maxHeartbeats 1600000 in
theorem law_learn (a : Option Addr) (cap : Nat) (l : List Ent) (w : World) (ha : RowsAt entLay w a l) :
    Calls Try.prog 4 #[.slice a l.length cap] w fun e w' => e = .returned (.bool true) ∧ Below w.heap.size w w' := by
  have HF := Lib.hid (few20_any a cap l w ha)
  cases h1 : fewE 300 1000 l with
  | false =>
    rw [h1] at HF
    clear h1
    go_enter Try.func4, Try.ntmps4
    go_wp2_with fail
    refine HF.out.mono ?_
    rintro e w1 ⟨rfl, rfl⟩
    go_wp2_with fail
    refine (awake20_any _).mono ?_
    rintro e w1 ⟨rfl, hb⟩
    go_wp2_with fail
    go_ret
    exact ⟨rfl, hb⟩
  | true =>
    obtain ⟨hl, _⟩ := fewE_parts h1
    rw [h1] at HF
    have HL := Lib.hid (learn_any a cap l w (by omega) ha)
    have HA := Lib.hid ha
    clear h1 ha
    go_enter Try.func4, Try.ntmps4
    go_wp2_with fail
    refine HF.out.mono ?_
    rintro e w1 ⟨rfl, rfl⟩
    go_wp2_with fail
    refine HL.out.mono ?_
    rintro e w2 ⟨v, rfl, hoa, hb⟩
    obtain ⟨b, c, rfl, hr, _⟩ := hoa.read
    rw [List.length_map]
    have HR := Lib.hid hr
    have hq : ((l.length : Int) != (l.length : Int)) = false := by simp
    clear hoa hr HF HL
    go_wp2_with fail
    clear hq
    go_loopw [4] (fun i wr => ∃ k : Nat, k ≤ l.length ∧ i = .int .i64 k ∧ ∃ n, wr = w2.drewN n) (fun i _ => l.length - (RowKit.intOf i).toNat)
    case atStart => exact ⟨0, Nat.zero_le _, rfl, Drawn.refl _⟩
    case round =>
      obtain ⟨k, hk, rfl, n, rfl⟩ := hrel
      have hbn := below_drewN hb n
      by_cases hlt : k < l.length
      · obtain ⟨x, hx⟩ := at_some hlt
        obtain ⟨_, _, rfl, _, c0, c1, c2, c3⟩ := ent_at (HA.out.keeps hb) hx
        obtain ⟨_, _, rfl, _, d0, d1, d2, d3⟩ := k_at HR.out (show (l.map toK)[k]? = some (toK x) by rw [List.getElem?_map, hx]; rfl)
        obtain ⟨xp, xi, xd, xt⟩ := x
        dsimp only [toK] at c0 c1 c2 c3 d0 d1 d2 d3
        clear hx
        have hk1 : (0 : Int) ≤ k := by omega
        have hk2 : (k : Int) < l.length := by omega
        go_wp2_with fail
        go_quiet (fail)
        go_wp2_with fail
        go_roundw
        case rel => exact ⟨k + 1, by omega, by go_num, n + nq, by simp⟩
        case measure => simp [RowKit.intOf]; omega
      · go_wp2_with fail
        refine (awake20_any _).mono ?_
        rintro e w4 ⟨rfl, hb4⟩
        go_wp2_with fail
        go_ret
        exact ⟨rfl, hbn.trans (hb4.mono hbn.size)⟩
end Go.Proofs.Ytmbmaompoplbaaa
