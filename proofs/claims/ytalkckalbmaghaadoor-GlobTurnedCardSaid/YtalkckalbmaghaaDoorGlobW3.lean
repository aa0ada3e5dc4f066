import Derived.Test.YtalkckalbmaghaaDoorGlobW2
namespace Go.Proofs.YtalkckalbmaghaaDoor
open Go.RowKit Go.Lib

set_option maxHeartbeats 800000 in
theorem isType_any (x : Rul) (w : World) :
    Calls Tryd.prog 40 #[.agg #[.int .i64 x.kind, .string x.text]] w fun e w' => e = .returned (.bool (x.kind == 3)) ∧ Below w.heap.size w w' := by
  have hb := (Below.refl w.heap.size w).alloc (Nat.le_refl _) (.cells #[.int .i64 x.kind, .string x.text] 33)
  go_enter Tryd.func40, Tryd.ntmps40
  go_wp2_with fail
  go_ret
  exact ⟨rfl, hb⟩

theorem idxT_miss {l : List Rul} (h : ∀ j y, j < l.length → l[j]? = some y → y.kind ≠ 3) : (l.any fun x => x.kind == 3) = false := by
  rw [List.any_eq_false]
  intro x hx
  obtain ⟨j, hj, e⟩ := List.getElem_of_mem hx
  have := h j x hj (by rw [List.getElem?_eq_getElem hj, e])
  simpa using this
theorem idxT_hit {l : List Rul} {k : Nat} {x : Rul} (hx : l[k]? = some x) (h : x.kind = 3) : (l.any fun x => x.kind == 3) = true := by
  rw [List.any_eq_true]
  exact ⟨x, List.mem_of_getElem? hx, by simpa using h⟩

set_option maxRecDepth 100000 in
set_option maxHeartbeats 800000 in
theorem typedAt_any (a : Option Addr) (cap : Nat) (l : List Rul) (w : World) (hl : l.length ≤ 140737488351232) (ha : RowsAt rulLay w a l) :
    Calls Tryd.prog 62 #[.slice a l.length cap, .func (.func 40) #[] #[]] w fun e w' => ∃ n : Int, e = .returned (.int .i64 n) ∧ (decide (0 ≤ n) = l.any fun x => x.kind == 3) ∧ Below w.heap.size w w' := by
  have HA := Lib.hid ha
  clear ha
  go_enter Tryd.func62, Tryd.ntmps62
  go_wp2_with fail
  go_loopw [5, 8] (fun _ i wr => ∃ k : Nat, k ≤ l.length ∧ i = .int .i64 k ∧ Hid (∀ j y, j < k → l[j]? = some y → y.kind ≠ 3) ∧ Below w.heap.size w wr) (fun _ i _ => l.length - (RowKit.intOf i).toNat)
  case atStart => exact ⟨0, Nat.zero_le _, rfl, fun j _ hj => absurd hj (Nat.not_lt_zero _), Below.refl _ _⟩
  case round =>
    obtain ⟨k, hk, rfl, Hk, hb⟩ := hrel
    by_cases hlt : k < l.length
    · obtain ⟨x, hx⟩ := at_some hlt
      obtain ⟨b, off, rfl, hbl, c0, c1⟩ := rul_at (HA.out.keeps hb) hx
      obtain ⟨xk, xt⟩ := x
      dsimp only at c0 c1
      have Hx := Lib.hid hx
      clear hx
      by_cases h3 : xk = 3
      · have Hr := Lib.hid (idxT_hit Hx.out h3)
        have e1 : (xk == 3) = true := by rw [beq_iff_eq]; exact h3
        clear h3
        go_wp2_with fail
        refine (isType_any ⟨xk, xt⟩ _).mono ?_
        rintro e w1 ⟨rfl, hb1⟩
        have hb2 := hb.trans (hb1.mono hb.size)
        go_wp2_with fail
        go_ret
        exact ⟨_, rfl, by rw [Hr.out]; simp, hb2⟩
      · have Hn := Lib.hid h3
        have e1 : (xk == 3) = false := by rw [beq_eq_false_iff_ne]; exact h3
        clear h3
        go_wp2_with fail
        refine (isType_any ⟨xk, xt⟩ _).mono ?_
        rintro e w1 ⟨rfl, hb1⟩
        have hb2 := hb.trans (hb1.mono hb.size)
        go_wp2_with fail
        go_roundw
        case rel =>
          refine ⟨k + 1, by omega, by go_num, fun j y hj hy => ?_, hb2⟩
          by_cases e : j = k
          · subst e
            rw [Hx.out] at hy
            cases hy
            exact Hn.out
          · exact Hk.out j y (by omega) hy
        case measure => simp [RowKit.intOf]; omega
    · have Hr := Lib.hid (idxT_miss (l := l) (fun j y hj => Hk.out j y (by omega)))
      go_wp2_with fail
      go_ret
      exact ⟨_, rfl, by rw [Hr.out]; simp, hb⟩

set_option maxRecDepth 100000 in
set_option maxHeartbeats 800000 in
theorem typed_any (a : Option Addr) (cap : Nat) (l : List Rul) (w : World) (hl : l.length ≤ 140737488351232) (ha : RowsAt rulLay w a l) :
    Calls Tryd.prog 39 #[.slice a l.length cap, .func (.func 40) #[] #[]] w fun e w' => e = .returned (.bool (l.any fun x => x.kind == 3)) ∧ Below w.heap.size w w' := by
  have HC := Lib.hid (typedAt_any a cap l w hl ha)
  clear ha
  go_enter Tryd.func39, Tryd.ntmps39
  go_wp2_with fail
  refine HC.out.mono ?_
  rintro e w1 ⟨n, rfl, hn, hb⟩
  go_wp2_with fail
  go_ret
  exact ⟨by rw [← hn]; rfl, hb⟩
theorem idxR_miss {l : List Rul} {r : Rul} (h : ∀ j y, j < l.length → l[j]? = some y → ¬ (y.kind = r.kind ∧ y.text = r.text)) : (l.any fun x => x.kind == r.kind && decide (x.text = r.text)) = false := by
  rw [List.any_eq_false]
  intro x hx
  obtain ⟨j, hj, e⟩ := List.getElem_of_mem hx
  have := h j x hj (by rw [List.getElem?_eq_getElem hj, e])
  simpa using this
theorem idxR_hit {l : List Rul} {r : Rul} {k : Nat} {x : Rul} (hx : l[k]? = some x) (h1 : x.kind = r.kind) (h2 : x.text = r.text) : (l.any fun x => x.kind == r.kind && decide (x.text = r.text)) = true := by
  rw [List.any_eq_true]
  exact ⟨x, List.mem_of_getElem? hx, by simp [h1, h2]⟩

set_option maxRecDepth 100000 in
set_option maxHeartbeats 800000 in
theorem ruleAt_any (a : Option Addr) (cap : Nat) (l : List Rul) (r : Rul) (w : World) (hl : l.length ≤ 140737488351232) (ha : RowsAt rulLay w a l) :
    Calls Tryd.prog 63 #[.slice a l.length cap, .agg #[.int .i64 r.kind, .string r.text]] w fun e w' => ∃ n : Int, e = .returned (.int .i64 n) ∧ (decide (0 ≤ n) = l.any fun x => x.kind == r.kind && decide (x.text = r.text)) ∧ Below w.heap.size w w' := by
  obtain ⟨rk, rt⟩ := r
  dsimp only
  have hb0 := (Below.refl w.heap.size w).alloc (Nat.le_refl _) (.cells #[.int .i64 rk, .string rt] 33)
  have HA := Lib.hid (ha.keeps hb0)
  clear ha
  go_enter Tryd.func63, Tryd.ntmps63
  go_wp2_with fail
  have r0 : (w.alloc (.cells #[.int .i64 rk, .string rt] 33)).cell? ⟨w.heap.size, 0, none⟩ = some (.int .i64 rk) := by simp
  have r1 : (w.alloc (.cells #[.int .i64 rk, .string rt] 33)).cell? ⟨w.heap.size, 1, none⟩ = some (.string rt) := by simp
  generalize w.alloc (.cells #[.int .i64 rk, .string rt] 33) = wo at *
  go_loopw [5, 8] (fun _ i wr => ∃ k : Nat, k ≤ l.length ∧ i = .int .i64 k ∧ Hid (∀ j y, j < k → l[j]? = some y → ¬ (y.kind = rk ∧ y.text = rt)) ∧ ∃ n, wr = wo.drewN n) (fun _ i _ => l.length - (RowKit.intOf i).toNat)
  case atStart => exact ⟨0, Nat.zero_le _, rfl, fun j _ hj => absurd hj (Nat.not_lt_zero _), Drawn.refl _⟩
  case round =>
    obtain ⟨k, hk, rfl, Hk, n, rfl⟩ := hrel
    by_cases hlt : k < l.length
    · obtain ⟨x, hx⟩ := at_some hlt
      obtain ⟨b, off, rfl, hbl, c0, c1⟩ := rul_at HA.out hx
      obtain ⟨xk, xt⟩ := x
      dsimp only at c0 c1
      have Hx := Lib.hid hx
      clear hx
      have hk1 : (0 : Int) ≤ k := by omega
      have hk2 : (k : Int) < l.length := by omega
      by_cases h1 : xk = rk ∧ xt = rt
      · obtain ⟨rfl, rfl⟩ := h1
        have Hr := Lib.hid (idxR_hit (r := ⟨xk, xt⟩) Hx.out rfl rfl)
        go_wp2_with fail
        go_quiet (fail)
        go_wp2_with fail
        go_ret
        exact ⟨_, rfl, by rw [Hr.out]; simp, below_drewN (below_drewN hb0 n) nq⟩
      · have Hn := Lib.hid h1
        by_cases hk3 : xk = rk
        · have e2 : (rt.toList == xt.toList) = false := str_ne fun e => h1 ⟨hk3, e.symm⟩
          subst hk3
          clear h1
          go_wp2_with fail
          go_quiet (fail)
          go_wp2_with fail
          go_roundw
          case rel =>
            refine ⟨k + 1, by omega, by go_num, fun j y hj hy => ?_, n + nq, by simp⟩
            by_cases e : j = k
            · subst e
              rw [Hx.out] at hy
              cases hy
              exact fun hh => Hn.out ⟨trivial, hh.2⟩
            · exact Hk.out j y (by omega) hy
          case measure => simp [RowKit.intOf]; omega
        · have e1 : (rk == xk) = false := by rw [beq_eq_false_iff_ne]; exact fun e => hk3 e.symm
          clear h1 hk3
          go_wp2_with fail
          go_quiet (fail)
          go_wp2_with fail
          go_roundw
          case rel =>
            refine ⟨k + 1, by omega, by go_num, fun j y hj hy => ?_, n + nq, by simp⟩
            by_cases e : j = k
            · subst e
              rw [Hx.out] at hy
              cases hy
              exact Hn.out
            · exact Hk.out j y (by omega) hy
          case measure => simp [RowKit.intOf]; omega
    · have Hr := Lib.hid (idxR_miss (l := l) (r := ⟨rk, rt⟩) (fun j y hj => Hk.out j y (by omega)))
      go_wp2_with fail
      go_ret
      exact ⟨_, rfl, by rw [Hr.out]; simp, below_drewN hb0 n⟩

set_option maxRecDepth 100000 in
set_option maxHeartbeats 800000 in
theorem hasRule_any (a : Option Addr) (cap : Nat) (l : List Rul) (r : Rul) (w : World) (hl : l.length ≤ 140737488351232) (ha : RowsAt rulLay w a l) :
    Calls Tryd.prog 41 #[.slice a l.length cap, .agg #[.int .i64 r.kind, .string r.text]] w fun e w' => e = .returned (.bool (l.any fun x => x.kind == r.kind && decide (x.text = r.text))) ∧ Below w.heap.size w w' := by
  have hb0 := (Below.refl w.heap.size w).alloc (Nat.le_refl _) (.cells #[.int .i64 r.kind, .string r.text] 33)
  have HC := Lib.hid (ruleAt_any a cap l r _ hl (ha.keeps hb0))
  obtain ⟨rk, rt⟩ := r
  dsimp only at hb0 HC ⊢
  clear ha
  go_enter Tryd.func41, Tryd.ntmps41
  go_wp2_with fail
  refine HC.out.mono ?_
  rintro e w1 ⟨n, rfl, hn, hb⟩
  have hb1 := hb0.trans (hb.mono (by simp))
  go_wp2_with fail
  go_ret
  exact ⟨by rw [← hn]; rfl, hb1⟩
end Go.Proofs.YtalkckalbmaghaaDoor
