/-
  
-/
import Derived.Test.YtgjgeojhhglidaaDoorKeys
import Derived.Test.YtgjgeojhhglidaaDoorShelf
import Derived.Test.YtgjgeojhhglidaaDoorLayPure
import Derived.StillTailTactics
import Derived.Handy
namespace Go.Proofs.YtgjgeojhhglidaaDoor
open Go.RowKit Go.Lib


theorem actInfo : (Tryd.prog.info? 54).map (fun i => (i.zero, i.size, i.bytes)) = some (some (.agg #[.int .i64 0, .string ⟨#[]⟩, .string ⟨#[]⟩]), 3, 40) := by kernel_rfl
theorem actInfo' : (Tryd.prog.info? 84).map (fun i => (i.zero, i.size, i.bytes)) = some (some (.agg #[.int .i64 0, .string ⟨#[]⟩, .string ⟨#[]⟩]), 3, 40) := by kernel_rfl
theorem zeroEnt (w : World) : (zeroValue 38).run Tryd.prog w = .ok noEnt.val w := by kernel_rfl

def sameA (xs ys : List Act3) : Bool := decide (xs = ys)
theorem sameA_len {xs ys : List Act3} (h : xs.length ≠ ys.length) : sameA xs ys = false := by
  simp only [sameA, decide_eq_false_iff_not]; intro e; exact h (by rw [e])
theorem sameA_at {xs ys : List Act3} {k : Nat} {x y : Act3} (hx : xs[k]? = some x) (hy : ys[k]? = some y) (h : x ≠ y) : sameA xs ys = false := by
  simp only [sameA, decide_eq_false_iff_not]; intro e; rw [e, hy] at hx; exact h (Option.some.inj hx).symm
theorem sameA_ok {xs ys : List Act3} (h : xs.length = ys.length) (h2 : ∀ k, k < xs.length → xs[k]? = ys[k]?) : sameA xs ys = true := by
  simp only [sameA, decide_eq_true_eq]
  apply List.ext_getElem?
  intro i
  by_cases hi : i < xs.length
  · exact h2 i hi
  · rw [List.getElem?_eq_none (by omega), List.getElem?_eq_none (by omega)]

set_option maxRecDepth 100000 in
set_option maxHeartbeats 1600000 in
theorem acts_any (a b : Option Addr) (cap cap' : Nat) (xs ys : List Act3) (w : World) (hl : xs.length ≤ 140737488351232) (ha : RowsAt act3Lay w a xs) (hb : RowsAt act3Lay w b ys) :
    Calls Tryd.prog 53 #[.slice a xs.length cap, .slice b ys.length cap'] w fun e w' => e = .returned (.bool (sameA xs ys)) ∧ ∃ n, w' = w.drewN n := by
  have HA := Lib.hid ha
  have HB := Lib.hid hb
  clear ha hb
  by_cases hlen : xs.length = ys.length
  · have hq : ((xs.length : Int) != (ys.length : Int)) = false := by rw [hlen]; simp
    have Hlen := Lib.hid hlen
    clear hlen
    go_enter Tryd.func53, Tryd.ntmps53
    go_wp2
    clear hq
    go_loopw [5] (fun i wr => ∃ k : Nat, k ≤ xs.length ∧ i = .int .i64 k ∧ Hid (∀ j, j < k → xs[j]? = ys[j]?) ∧ ∃ n, wr = w.drewN n) (fun i _ => xs.length - (RowKit.intOf i).toNat)
    case atStart => exact ⟨0, Nat.zero_le _, rfl, fun j hj => absurd hj (Nat.not_lt_zero _), Drawn.refl _⟩
    case round =>
      obtain ⟨k, hk, rfl, Hk, n, rfl⟩ := hrel
      by_cases hlt : k < xs.length
      · have hlt2 : k < ys.length := by have := Hlen.out; omega
        obtain ⟨x, hx⟩ := at_some hlt
        obtain ⟨y, hy⟩ := at_some hlt2
        obtain ⟨b1, o1, rfl, hb1, c1, c2, c3⟩ := act3_at HA.out hx
        obtain ⟨b2, o2, rfl, hb2, d1, d2, d3⟩ := act3_at HB.out hy
        have Hx := Lib.hid hx
        have Hy := Lib.hid hy
        clear hx hy
        by_cases h1 : x.kind = y.kind
        · have e1 : (x.kind != y.kind) = false := by rw [h1]; simp
          by_cases h2 : x.path = y.path
          · have e2 := str_eq h2
            by_cases h3 : x.data = y.data
            · have e3 := str_eq h3
              have Hn := Lib.hid (Act3.ext' h1 h2 h3)
              clear h1 h2 h3
              go_wp2
              go_quiet (fail)
              go_wp2
              go_roundw
              case rel =>
                refine ⟨k + 1, by omega, by go_num, fun j hj => ?_, n + nq, by simp⟩
                by_cases e : j = k
                · subst e; rw [Hx.out, Hy.out, Hn.out]
                · exact Hk.out j (by omega)
              case measure => simp [RowKit.intOf]; omega
            · have e3 := str_ne h3
              have Hr := Lib.hid (sameA_at Hx.out Hy.out (fun e => h3 (by rw [e])))
              clear h1 h2 h3
              go_wp2
              go_quiet (fail)
              go_wp2
              go_ret
              exact ⟨ret_bool Hr.out.symm, n + nq, by simp⟩
          · have e2 := str_ne h2
            have Hr := Lib.hid (sameA_at Hx.out Hy.out (fun e => h2 (by rw [e])))
            clear h1 h2
            go_wp2
            go_quiet (fail)
            go_wp2
            go_ret
            exact ⟨ret_bool Hr.out.symm, n + nq, by simp⟩
        · have e1 : (x.kind != y.kind) = true := by rw [bne_iff_ne]; exact h1
          have Hr := Lib.hid (sameA_at Hx.out Hy.out (fun e => h1 (by rw [e])))
          clear h1
          go_wp2
          go_quiet (fail)
          go_wp2
          go_ret
          exact ⟨ret_bool Hr.out.symm, n + nq, by simp⟩
      · have Hr := Lib.hid (sameA_ok Hlen.out (fun j hj => Hk.out j (by omega)))
        go_wp2
        go_ret
        exact ⟨ret_bool Hr.out.symm, _, rfl⟩
  · have Hr := Lib.hid (sameA_len hlen)
    have hq : ((xs.length : Int) != (ys.length : Int)) = true := by rw [bne_iff_ne]; omega
    clear hlen
    go_enter Tryd.func53, Tryd.ntmps53
    go_wp2
    go_ret
    exact ⟨ret_bool Hr.out.symm, Drawn.refl _⟩
end Go.Proofs.YtgjgeojhhglidaaDoor

namespace Go.Proofs.YtgjgeojhhglidaaDoor
open Go.RowKit Go.Lib

theorem findE_hit {l : List Ent} {p : ByteArray} {k : Nat} {x : Ent} (hx : l[k]? = some x) (hp : x.path = p) (h : ∀ j y, j < k → l[j]? = some y → y.path ≠ p) : findE l p = some x := by
  obtain ⟨hk, hx'⟩ := List.getElem?_eq_some_iff.1 hx
  unfold findE
  rw [List.find?_eq_some_iff_getElem]
  refine ⟨by simpa using hp, k, hk, hx', fun j hj => ?_⟩
  have := h j l[j] hj (List.getElem?_eq_getElem (by omega))
  simpa using this
theorem findE_miss {l : List Ent} {p : ByteArray} (h : ∀ j y, j < l.length → l[j]? = some y → y.path ≠ p) : findE l p = none := by
  unfold findE
  rw [List.find?_eq_none]
  intro x hx
  obtain ⟨j, hj, e⟩ := List.getElem_of_mem hx
  have := h j x hj (by rw [List.getElem?_eq_getElem hj, e])
  simpa using this

theorem ret_bool2 (b : Bool) : Ending.returned (.bool b) = .returned (.bool b) := rfl
theorem staysE_some {x y : Ent} {want : List Ent} (h : findE want x.path = some y) : staysE x want = (x.dir == y.dir) := by simp [staysE, h]
theorem staysE_none {x : Ent} {want : List Ent} (h : findE want x.path = none) : staysE x want = false := by simp [staysE, h]

end Go.Proofs.YtgjgeojhhglidaaDoor

namespace Go.Proofs.YtgjgeojhhglidaaDoor
open Go.RowKit Go.Lib

theorem thereE_hit {l want : List Ent} {p : ByteArray} {k : Nat} {x : Ent} (hx : l[k]? = some x) (hp : x.path = p) (hs : staysE x want = true) (h : ∀ j y, j < k → l[j]? = some y → ¬ (y.path = p ∧ staysE y want = true)) : thereE l want p = some x := by
  obtain ⟨hk, hx'⟩ := List.getElem?_eq_some_iff.1 hx
  unfold thereE
  rw [List.find?_eq_some_iff_getElem]
  refine ⟨by simp [hp, hs], k, hk, hx', fun j hj => ?_⟩
  have := h j l[j] hj (List.getElem?_eq_getElem (by omega))
  by_cases h1 : l[j].path = p <;> simp_all
theorem thereE_miss {l want : List Ent} {p : ByteArray} (h : ∀ j y, j < l.length → l[j]? = some y → ¬ (y.path = p ∧ staysE y want = true)) : thereE l want p = none := by
  unfold thereE
  rw [List.find?_eq_none]
  intro x hx
  obtain ⟨j, hj, e⟩ := List.getElem_of_mem hx
  have := h j x hj (by rw [List.getElem?_eq_getElem hj, e])
  simpa using this

end Go.Proofs.YtgjgeojhhglidaaDoor

namespace Go.Proofs.YtgjgeojhhglidaaDoor
open Go.RowKit Go.Lib

def fewE (n m : Nat) (l : List Ent) : Bool := decide (l.length ≤ 100) && l.all fun x => decide (x.path.size ≤ n) && decide (x.data.size ≤ m)
theorem fewE_long {n m : Nat} {l : List Ent} (h : 100 < l.length) : fewE n m l = false := by
  have : ¬ l.length ≤ 100 := by omega
  simp [fewE, this]
theorem fewE_bad {n m : Nat} {l : List Ent} {k : Nat} {x : Ent} (hx : l[k]? = some x) (h : n < x.path.size ∨ m < x.data.size) : fewE n m l = false := by
  have : l.all (fun x => decide (x.path.size ≤ n) && decide (x.data.size ≤ m)) = false := by
    rw [List.all_eq_false]
    refine ⟨x, List.mem_of_getElem? hx, ?_⟩
    simp only [Bool.and_eq_true, decide_eq_true_eq]
    omega
  simp [fewE, this]
theorem fewE_ok {n m : Nat} {l : List Ent} (h : l.length ≤ 100) (h2 : ∀ k x, k < l.length → l[k]? = some x → x.path.size ≤ n ∧ x.data.size ≤ m) : fewE n m l = true := by
  have : l.all (fun x => decide (x.path.size ≤ n) && decide (x.data.size ≤ m)) = true := by
    rw [List.all_eq_true]
    intro x hx
    obtain ⟨k, hk, e⟩ := List.getElem_of_mem hx
    have := h2 k x hk (by rw [List.getElem?_eq_getElem hk, e])
    simp [this]
  simp [fewE, this, h]
theorem fewE_parts {n m : Nat} {l : List Ent} (h : fewE n m l = true) : l.length ≤ 100 ∧ ∀ x ∈ l, x.path.size ≤ n ∧ x.data.size ≤ m := by
  simpa [fewE] using h

set_option maxRecDepth 100000 in
set_option maxHeartbeats 800000 in
theorem few21_any (a : Option Addr) (cap : Nat) (l : List Ent) (w : World) (ha : RowsAt entLay w a l) :
    Calls Tryd.prog 30 #[.slice a l.length cap] w fun e w' => e = .returned (.bool (fewE 500 5000 l)) ∧ w = w' := by
  have HA := Lib.hid ha
  clear ha
  by_cases h100 : 100 < (l.length : Int)
  · have Hr := Lib.hid (fewE_long (n := 500) (m := 5000) (l := l) (by omega))
    go_enter Tryd.func30, Tryd.ntmps30
    go_wp2
    go_ret
    exact ⟨ret_bool Hr.out.symm, rfl⟩
  go_enter Tryd.func30, Tryd.ntmps30
  go_wp2
  go_loop [3] (fun i => ∃ k : Nat, k ≤ l.length ∧ i = .int .i64 k ∧ Hid (∀ j x, j < k → l[j]? = some x → x.path.size ≤ 500 ∧ x.data.size ≤ 5000)) (fun i => l.length - (RowKit.intOf i).toNat)
  case atStart => exact ⟨0, Nat.zero_le _, rfl, fun j _ hj => absurd hj (Nat.not_lt_zero _)⟩
  case round =>
    obtain ⟨k, hk, rfl, Hk⟩ := hrel
    by_cases hlt : k < l.length
    · obtain ⟨x, hx⟩ := at_some hlt
      obtain ⟨b, off, rfl, hbl, c0, c1, c2, c3⟩ := ent_at HA.out hx
      have Hx := Lib.hid hx
      clear hx
      by_cases h1 : 500 < (x.path.size : Int)
      · have Hr := Lib.hid (fewE_bad (n := 500) (m := 5000) Hx.out (.inl (by omega)))
        go_wp2
        go_ret
        exact ⟨ret_bool Hr.out.symm, rfl⟩
      · by_cases h2 : 5000 < (x.data.size : Int)
        · have Hr := Lib.hid (fewE_bad (n := 500) (m := 5000) Hx.out (.inr (by omega)))
          go_wp2
          go_ret
          exact ⟨ret_bool Hr.out.symm, rfl⟩
        · go_wp2
          go_round
          case rel =>
            refine ⟨k + 1, by omega, by go_num, fun j y hj hy => ?_⟩
            by_cases e : j = k
            · subst e
              rw [Hx.out] at hy
              cases hy
              omega
            · exact Hk.out j y (by omega) hy
          case measure => simp [RowKit.intOf]; omega
    · have Hr := Lib.hid (fewE_ok (n := 500) (m := 5000) (l := l) (by omega) (fun j y hj => Hk.out j y (by omega)))
      go_wp2
      go_ret
      exact ⟨ret_bool Hr.out.symm, rfl⟩


set_option maxRecDepth 100000 in
set_option maxHeartbeats 800000 in
theorem byPath_any (a : Option Addr) (cap : Nat) (l : List Ent) (w : World) (hl : l.length ≤ 140737488351232) (ha : RowsAt entLay w a l) :
    Calls Tryd.prog 55 #[.slice a l.length cap] w fun e w' => e = .returned (.map (some w.heap.size)) ∧ MapOf Value.string w' w.heap.size l.length (firstFn l fun _ => true) ∧ Below w.heap.size w w' := by
  have HA := Lib.hid ha
  have hmm := @run_makeMap Tryd.prog
  clear ha
  go_enter Tryd.func55, Tryd.ntmps55
  go_wp2
  go_loopw [4] (fun i wr => ∃ k : Nat, k ≤ l.length ∧ i = .int .i64 ((k : Int) - 1) ∧ MapOf Value.string wr w.heap.size (l.length - k) (firstFn (l.drop k) fun _ => true) ∧ Below w.heap.size w wr) (fun i _ => ((RowKit.intOf i) + 1).toNat)
  case atStart => exact ⟨l.length, Nat.le_refl _, rfl, by rw [List.drop_length, Nat.sub_self]; exact MapOf.made _, (Below.refl _ _).alloc (Nat.le_refl _) _⟩
  case round =>
    obtain ⟨k, hk, rfl, hm, hb⟩ := hrel
    by_cases h0 : 0 < k
    · obtain ⟨n, rfl⟩ : ∃ n, k = n + 1 := ⟨k - 1, by omega⟩
      have e1 : ((n + 1 : Nat) : Int) - 1 = (n : Int) := by omega
      rw [e1]
      obtain ⟨x, hx⟩ := at_some (show n < l.length by omega)
      obtain ⟨b, off, rfl, hbl, c0, c1, c2, c3⟩ := ent_at (HA.out.keeps hb) hx
      have Hd := Lib.hid (drop_at hx)
      clear hx e1
      go_wp2
      have hraw : ∀ p, World.cell? { heap := wr.heap, tape := wr.tape, drawn := wr.drawn + 1, os := wr.os, output := wr.output } p = wr.cell? p := fun _ => rfl
      have hi1 : (n : Int) < (l.length : Int) := by omega
      go_still_tail 10, (by kernel_rfl)
      change wpList _ _ _ _ _ wr.drew
      clear hraw
      go_wp2_with (at_mapUpdate; refine wpList_mapUpdate_of rfl _ _ _ 68 rfl 9 38 mapK Tryd.underlying68 rfl (hm.of_block rfl) x.path rfl _ rfl ?_)
      intro w2 hm2 hg2
      have hb2 := hb.drew.grown hg2 (by simpa using hb.size) (fun j ej => by cases ej; exact Nat.le_refl _)
      go_wp2_with fail
      go_roundw
      case rel =>
        refine ⟨n, by omega, rfl, ?_, hb2⟩
        rw [Hd.out, firstFn_cons]
        exact hm2.mono (by omega)
      case measure => simp [RowKit.intOf]
    · obtain rfl : k = 0 := by omega
      go_wp2
      go_ret
      exact ⟨rfl, by simpa using hm, hb⟩
end Go.Proofs.YtgjgeojhhglidaaDoor

