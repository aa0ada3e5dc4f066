/-
  Rules: few, and are two lists the same.
-/
import Derived.Test.YteeaaphpahnjcaaGreatDoorGlobWG
import Derived.Test.YteeaaphpahnjcaaGreatDoorSame
namespace Go.Proofs.YteeaaphpahnjcaaGreatDoor
open Go Go.RowKit Go.Lib

theorem Rul.ext' {x y : Rul} (h1 : x.kind = y.kind) (h2 : x.text = y.text) : x = y := by
  cases x; cases y; simp_all
instance : DecidableEq Rul := fun x y => decidable_of_iff (x.kind = y.kind ∧ x.text = y.text) ⟨fun h => Rul.ext' h.1 h.2, fun h => by rw [h]; exact ⟨rfl, rfl⟩⟩
def bigR (n : Nat) (x : Rul) : Bool := decide (n < x.text.size)
def fewR (m n : Nat) (l : List Rul) : Bool := decide (l.length ≤ m) && !l.any (bigR n)
theorem fewR_parts {m n : Nat} {l : List Rul} (h : fewR m n l = true) : l.length ≤ m ∧ ∀ x ∈ l, x.text.size ≤ n := by
  unfold fewR at h
  rw [Bool.and_eq_true, decide_eq_true_eq, Bool.not_eq_true', List.any_eq_false] at h
  refine ⟨h.1, fun x hx => ?_⟩
  have := h.2 x hx
  simp only [bigR, decide_eq_true_eq] at this
  omega
theorem anyR_hit {l : List Rul} {k : Nat} {y : Rul} (h : l[k]? = some y) {p : Rul → Bool} (hp : p y = true) : l.any p = true := List.any_eq_true.2 ⟨y, List.mem_of_getElem? h, hp⟩
theorem anyR_none {l : List Rul} {p : Rul → Bool} (h : ∀ j y, j < l.length → l[j]? = some y → p y = false) : l.any p = false := by
  rw [List.any_eq_false]
  intro y hy
  obtain ⟨j, hj, e⟩ := List.mem_iff_getElem.1 hy
  rw [h j y hj (by rw [List.getElem?_eq_getElem hj, e])]
  simp

set_option maxRecDepth 100000 in
set_option maxHeartbeats 1600000 in
theorem few10_any (a : Option Addr) (cap : Nat) (l : List Rul) (w : World) (hl : l.length ≤ 140737488351232) (ha : RowsAt rulLay w a l) :
    Calls Tryz.prog 5 #[.slice a l.length cap] w fun e w' => e = .returned (.bool (fewR 60 500 l)) ∧ w = w' := by
  have HA := Lib.hid ha
  have HF := Lib.hid (show fewR 60 500 l = (decide (l.length ≤ 60) && !l.any (bigR 500)) from rfl)
  generalize fewR 60 500 l = fo at *
  clear ha
  by_cases hm : l.length ≤ 60
  · go_enter Tryz.func5, Tryz.ntmps5
    go_wp2_with fail
    go_loopw [3] (fun i wr => ∃ k : Nat, k ≤ l.length ∧ i = .int .i64 k ∧ Hid (∀ j y, j < k → l[j]? = some y → bigR 500 y = false) ∧ w = wr) (fun i _ => l.length - (RowKit.intOf i).toNat)
    case atStart => exact ⟨0, Nat.zero_le _, rfl, Lib.hid (fun j _ hj => absurd hj (Nat.not_lt_zero _)), rfl⟩
    case round =>
      obtain ⟨k, hk, rfl, Hk, rfl⟩ := hrel
      by_cases hlt : k < l.length
      · obtain ⟨y, hy⟩ := at_some hlt
        obtain ⟨b, off, rfl, hbl, c0, c1⟩ := rul_at HA.out hy
        have Hy := Lib.hid hy
        by_cases h1 : 500 < y.text.size
        · have Hr := Lib.hid (anyR_hit (p := bigR 500) Hy.out (by unfold bigR; simp [h1]))
          go_wp2_with fail
          go_ret
          exact ⟨ret_bool (by rw [HF.out, Hr.out]; simp), rfl⟩
        have Hn := Lib.hid (show bigR 500 y = false by unfold bigR; simp [h1])
        go_wp2_with fail
        go_roundw
        case rel =>
          refine ⟨k + 1, by omega, by go_num, fun j z hj hz => ?_, by first | rfl | trivial⟩
          by_cases e : j = k
          · subst e
            rw [Hy.out] at hz
            cases hz
            exact Hn.out
          · exact Hk.out j z (by omega) hz
        case measure => simp [RowKit.intOf]; omega
      · have Hr := Lib.hid (anyR_none (l := l) (p := bigR 500) (fun j y hj hy => Hk.out j y (by omega) hy))
        go_wp2_with fail
        go_ret
        exact ⟨ret_bool (by rw [HF.out, Hr.out]; simp; omega), rfl⟩
  · go_enter Tryz.func5, Tryz.ntmps5
    go_wp2_with fail
    go_ret
    exact ⟨ret_bool (by rw [HF.out]; simp; omega), rfl⟩

set_option maxRecDepth 100000 in
theorem neqRul (x y : Rul) (w : World) : (binOp .neq 29 (.agg #[.int .i64 x.kind, .string x.text]) (.agg #[.int .i64 y.kind, .string y.text])).run Tryz.prog w = .ok (.bool (!decide (x = y))) w := by
  rw [run_neq_struct]
  have e : (Op.equalIn 10000 29 (.agg #[.int .i64 x.kind, .string x.text]) (.agg #[.int .i64 y.kind, .string y.text])).run Tryz.prog w = .ok (decide (x = y)) w := by
    simp [go_sem, Tryz.underlying29]
    by_cases h : x = y
    · subst h; simp
    · simp only [h, decide_false]
      try simp only [toList_inj]
      repeat' split
      all_goals first | rfl | exact absurd (Rul.ext' (by assumption) (by assumption)) h
  rw [e]
  rfl
theorem eqlRul (x y : Rul) (w : World) : (binOp .eql 29 (.agg #[.int .i64 x.kind, .string x.text]) (.agg #[.int .i64 y.kind, .string y.text])).run Tryz.prog w = .ok (.bool (decide (x = y))) w := by
  rw [run_eql_struct]
  have e : (Op.equalIn 10000 29 (.agg #[.int .i64 x.kind, .string x.text]) (.agg #[.int .i64 y.kind, .string y.text])).run Tryz.prog w = .ok (decide (x = y)) w := by
    simp [go_sem, Tryz.underlying29]
    by_cases h : x = y
    · subst h; simp
    · simp only [h, decide_false]
      try simp only [toList_inj]
      repeat' split
      all_goals first | rfl | exact absurd (Rul.ext' (by assumption) (by assumption)) h
  rw [e]
  rfl

set_option maxRecDepth 100000 in
set_option maxHeartbeats 1600000 in
theorem rsame_any (a b : Option Addr) (cap cap' : Nat) (xs ys : List Rul) (w : World) (hl : xs.length ≤ 140737488351232) (ha : RowsAt rulLay w a xs) (hb : RowsAt rulLay w b ys) :
    Calls Tryz.prog 17 #[.slice a xs.length cap, .slice b ys.length cap'] w fun e w' => e = .returned (.bool (decide (xs = ys))) ∧ ∃ n, w' = w.drewN n := by
  have HA := Lib.hid ha
  have HB := Lib.hid hb
  clear ha hb
  by_cases hlen : xs.length = ys.length
  · have hq : ((xs.length : Int) != (ys.length : Int)) = false := by rw [hlen]; simp
    have Hlen := Lib.hid hlen
    clear hlen
    go_enter Tryz.func17, Tryz.ntmps17
    go_wp2
    clear hq
    go_loopw [5] (fun i wr => ∃ k : Nat, k ≤ xs.length ∧ i = .int .i64 k ∧ Hid (∀ j, j < k → xs[j]? = ys[j]?) ∧ ∃ n, wr = w.drewN n) (fun i _ => xs.length - (RowKit.intOf i).toNat)
    case atStart => exact ⟨0, Nat.zero_le _, rfl, fun j hj => absurd hj (Nat.not_lt_zero _), Drawn.refl _⟩
    case round =>
      obtain ⟨k, hk, rfl, Hk, n, rfl⟩ := hrel
      by_cases hlt : k < xs.length
      · have hlt2 : k < ys.length := by have := Hlen.out; omega
        obtain ⟨x, hx⟩ := at_some hlt
        obtain ⟨y, hy⟩ := at_some hlt2
        obtain ⟨b1, o1, rfl, hb1, c0, c1⟩ := rul_at HA.out hx
        obtain ⟨b2, o2, rfl, hb2, d0, d1⟩ := rul_at HB.out hy
        have Hx := Lib.hid hx
        have Hy := Lib.hid hy
        clear hx hy
        have heq := neqRul x y
        by_cases h1 : x = y
        · have e1 : (!decide (x = y)) = false := by rw [h1]; simp
          rw [e1] at heq
          have Hn := Lib.hid h1
          clear h1 e1
          go_wp2
          go_quiet (fail)
          go_wp2
          go_roundw
          case rel =>
            refine ⟨k + 1, by omega, by go_num, fun j hj => ?_, n + nq, by simp⟩
            by_cases e : j = k
            · subst e; rw [Hx.out, Hy.out, Hn.out]
            · exact Hk.out j (by omega)
          case measure => simp [RowKit.intOf]; omega
        · have e1 : (!decide (x = y)) = true := by simp [h1]
          rw [e1] at heq
          have Hr := Lib.hid (same_at Hx.out Hy.out h1)
          clear h1 e1
          go_wp2
          go_quiet (fail)
          go_wp2
          go_ret
          exact ⟨ret_bool Hr.out.symm, n + nq, by simp⟩
      · have Hr := Lib.hid (same_ok Hlen.out (fun j hj => Hk.out j (by omega)))
        go_wp2
        go_ret
        exact ⟨ret_bool Hr.out.symm, _, rfl⟩
  · have Hr := Lib.hid (same_len hlen)
    have hq : ((xs.length : Int) != (ys.length : Int)) = true := by rw [bne_iff_ne]; omega
    clear hlen
    go_enter Tryz.func17, Tryz.ntmps17
    go_wp2
    go_ret
    exact ⟨ret_bool Hr.out.symm, Drawn.refl _⟩
end Go.Proofs.YteeaaphpahnjcaaGreatDoor
