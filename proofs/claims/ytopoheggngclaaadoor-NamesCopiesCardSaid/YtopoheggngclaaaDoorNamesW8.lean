import Derived.Test.YtopoheggngclaaaDoorNamesW7
namespace Go.Proofs.YtopoheggngclaaaDoor
open Go.RowKit Go.Lib

def fewB (ss : List ByteArray) : Bool := decide (ss.length ≤ 200) && ss.all fun s => decide (s.size ≤ 200)
theorem fewB_long {ss : List ByteArray} (h : 200 < ss.length) : fewB ss = false := by
  have : ¬ ss.length ≤ 200 := by omega
  simp [fewB, this]
theorem fewB_bad {ss : List ByteArray} {k : Nat} (hk : k < ss.length) (h : 200 < (ss.getD k ByteArray.empty).size) : fewB ss = false := by
  have : ss.all (fun s => decide (s.size ≤ 200)) = false := by
    rw [List.all_eq_false]
    rw [List.getD_eq_getElem?_getD, List.getElem?_eq_getElem hk] at h
    exact ⟨ss[k], List.getElem_mem hk, by simpa using h⟩
  simp [fewB, this]
theorem fewB_ok {ss : List ByteArray} (h : ss.length ≤ 200) (h2 : ∀ k, k < ss.length → (ss.getD k ByteArray.empty).size ≤ 200) : fewB ss = true := by
  have : ss.all (fun s => decide (s.size ≤ 200)) = true := by
    rw [List.all_eq_true]
    intro x hx
    obtain ⟨k, hk, e⟩ := List.getElem_of_mem hx
    have := h2 k hk
    rw [List.getD_eq_getElem?_getD, List.getElem?_eq_getElem hk] at this
    rw [← e]
    simpa using this
  simp [fewB, this, h]
theorem fewB_iff {ss : List ByteArray} : fewB ss = true ↔ ss.length ≤ 200 ∧ ∀ s ∈ ss, s.size ≤ 200 := by
  simp [fewB]

set_option maxRecDepth 100000 in
set_option maxHeartbeats 800000 in
theorem few_any (a : Option Addr) (cap : Nat) (ss : List ByteArray) (w : World) (hl : ss.length ≤ 140737488351232) (ha : StrsAt w a ss) :
    Calls Tryd.prog 17 #[.slice a ss.length cap] w fun e w' => e = .returned (.bool (fewB ss)) ∧ w = w' := by
  have HA := Lib.hid ha
  clear ha
  by_cases h200 : 200 < (ss.length : Int)
  · have Hr := Lib.hid (fewB_long (ss := ss) (by omega))
    go_enter Tryd.func17, Tryd.ntmps17
    go_wp2
    go_ret
    exact ⟨ret_bool Hr.out.symm, rfl⟩
  go_enter Tryd.func17, Tryd.ntmps17
  go_wp2
  go_loop [3] (fun i => ∃ k : Nat, k ≤ ss.length ∧ i = .int .i64 k ∧ Hid (∀ j, j < k → (ss.getD j ByteArray.empty).size ≤ 200)) (fun i => ss.length - (RowKit.intOf i).toNat)
  case atStart => exact ⟨0, Nat.zero_le _, rfl, fun j hj => absurd hj (Nat.not_lt_zero _)⟩
  case round =>
    obtain ⟨k, hk, rfl, Hk⟩ := hrel
    by_cases hlt : k < ss.length
    · obtain ⟨b, off, rfl, hbl, hc⟩ := HA.out k hlt
      generalize hx : ss.getD k ByteArray.empty = x at hc
      have Hx := Lib.hid hx
      clear hx
      by_cases he : 200 < (x.size : Int)
      · have Hr := Lib.hid (fewB_bad hlt (by rw [Hx.out]; omega))
        go_wp2
        go_ret
        exact ⟨ret_bool Hr.out.symm, rfl⟩
      · go_wp2
        go_round
        case rel =>
          refine ⟨k + 1, by omega, by go_num, fun j hj => ?_⟩
          by_cases e : j = k
          · subst e; rw [Hx.out]; omega
          · exact Hk.out j (by omega)
        case measure => simp [RowKit.intOf]; omega
    · have Hr := Lib.hid (fewB_ok (ss := ss) (by omega) (fun j hj => Hk.out j (by omega)))
      go_wp2
      go_ret
      exact ⟨ret_bool Hr.out.symm, rfl⟩

def sameB (xs ys : List ByteArray) : Bool := decide (xs = ys)
theorem sameB_len {xs ys : List ByteArray} (h : xs.length ≠ ys.length) : sameB xs ys = false := by
  simp only [sameB, decide_eq_false_iff_not]; intro e; exact h (by rw [e])
theorem sameB_at {xs ys : List ByteArray} {k : Nat} (h : xs.getD k ByteArray.empty ≠ ys.getD k ByteArray.empty) : sameB xs ys = false := by
  simp only [sameB, decide_eq_false_iff_not]; intro e; exact h (by rw [e])
theorem sameB_ok {xs ys : List ByteArray} (h : xs.length = ys.length) (h2 : ∀ k, k < xs.length → xs.getD k ByteArray.empty = ys.getD k ByteArray.empty) : sameB xs ys = true := by
  simp only [sameB, decide_eq_true_eq]
  apply List.ext_getElem h
  intro i h1 h3
  have := h2 i h1
  simpa [List.getD_eq_getElem?_getD, h1, h3] using this

set_option maxRecDepth 100000 in
set_option maxHeartbeats 800000 in
theorem texts_any (a b : Option Addr) (cap cap' : Nat) (ss tt : List ByteArray) (w : World) (hl : ss.length ≤ 140737488351232) (ha : StrsAt w a ss) (hb : StrsAt w b tt) :
    Calls Tryd.prog 20 #[.slice a ss.length cap, .slice b tt.length cap'] w fun e w' => e = .returned (.bool (sameB ss tt)) ∧ ∃ n, w' = w.drewN n := by
  have HA := Lib.hid ha
  have HB := Lib.hid hb
  clear ha hb
  by_cases hlen : ss.length = tt.length
  · have hq : ((ss.length : Int) != (tt.length : Int)) = false := by rw [hlen]; simp
    have Hlen := Lib.hid hlen
    clear hlen
    go_enter Tryd.func20, Tryd.ntmps20
    go_wp2
    clear hq
    go_loopw [5] (fun i wr => ∃ k : Nat, k ≤ ss.length ∧ i = .int .i64 k ∧ Hid (∀ j, j < k → ss.getD j ByteArray.empty = tt.getD j ByteArray.empty) ∧ ∃ n, wr = w.drewN n) (fun i _ => ss.length - (RowKit.intOf i).toNat)
    case atStart => exact ⟨0, Nat.zero_le _, rfl, fun j hj => absurd hj (Nat.not_lt_zero _), Drawn.refl _⟩
    case round =>
      obtain ⟨k, hk, rfl, Hk, n, rfl⟩ := hrel
      by_cases hlt : k < ss.length
      · obtain ⟨b1, off1, rfl, hbl1, hc1⟩ := HA.out k hlt
        have hlt2 : k < tt.length := by have := Hlen.out; omega
        obtain ⟨b2, off2, rfl, hbl2, hc2⟩ := HB.out k hlt2
        generalize hx : ss.getD k ByteArray.empty = x at hc1
        have Hx := Lib.hid hx
        generalize hy : tt.getD k ByteArray.empty = y at hc2
        have Hy := Lib.hid hy
        clear hx hy
        by_cases he : x = y
        · have Hn := Lib.hid he
          have hb := str_eq he
          clear he
          go_wp2
          go_quiet (fail)
          go_wp2
          go_roundw
          case rel =>
            refine ⟨k + 1, by omega, by go_num, fun j hj => ?_, ?_⟩
            · by_cases e : j = k
              · subst e; rw [Hx.out, Hy.out]; exact Hn.out
              · exact Hk.out j (by omega)
            · exact ⟨_, rfl⟩
          case measure => simp [RowKit.intOf]; omega
        · have Hr := Lib.hid (sameB_at (xs := ss) (ys := tt) (k := k) (by rw [Hx.out, Hy.out]; exact he))
          have hb := str_ne he
          clear he
          go_wp2
          go_quiet (fail)
          go_wp2
          go_ret
          exact ⟨ret_bool Hr.out.symm, n + nq, by simp⟩
      · have Hr := Lib.hid (sameB_ok Hlen.out (fun j hj => Hk.out j (by omega)))
        go_wp2
        go_ret
        exact ⟨ret_bool Hr.out.symm, _, rfl⟩
  · have Hr := Lib.hid (sameB_len hlen)
    have hq : ((ss.length : Int) != (tt.length : Int)) = true := by rw [bne_iff_ne]; omega
    clear hlen
    go_enter Tryd.func20, Tryd.ntmps20
    go_wp2
    go_ret
    exact ⟨ret_bool Hr.out.symm, Drawn.refl _⟩
end Go.Proofs.YtopoheggngclaaaDoor
