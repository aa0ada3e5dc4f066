/-
  
-/
import Derived.Test.YtgjgeojhhglidaaDoorKeys
import Derived.Test.YtgjgeojhhglidaaDoorShelf
import Derived.Test.YtgjgeojhhglidaaDoorLayPure
import Derived.StillTailTactics
import Derived.Handy
namespace Go.Proofs.YtgjgeojhhglidaaDoor
open Go.RowKit Go.Lib


theorem actInfo : (Tryd.prog.info? 54).map (fun i => (i.zero, i.size, i.bytes)) = some (some (.agg #[.int .i64 0, .string ⟨#[]⟩, .string ⟨#[]⟩]), 3, 40) := by kernel_rfl
theorem actInfo' : (Tryd.prog.info? 84).map (fun i => (i.zero, i.size, i.bytes)) = some (some (.agg #[.int .i64 0, .string ⟨#[]⟩, .string ⟨#[]⟩]), 3, 40) := by kernel_rfl
theorem zeroEnt (w : World) : (zeroValue 38).run Tryd.prog w = .ok noEnt.val w := by kernel_rfl

def sameA (xs ys : List Act3) : Bool := decide (xs = ys)
theorem sameA_len {xs ys : List Act3} (h : xs.length ≠ ys.length) : sameA xs ys = false := by
  simp only [sameA, decide_eq_false_iff_not]; intro e; exact h (by rw [e])
theorem sameA_at {xs ys : List Act3} {k : Nat} {x y : Act3} (hx : xs[k]? = some x) (hy : ys[k]? = some y) (h : x ≠ y) : sameA xs ys = false := by
  simp only [sameA, decide_eq_false_iff_not]; intro e; rw [e, hy] at hx; exact h (Option.some.inj hx).symm
theorem sameA_ok {xs ys : List Act3} (h : xs.length = ys.length) (h2 : ∀ k, k < xs.length → xs[k]? = ys[k]?) : sameA xs ys = true := by
  simp only [sameA, decide_eq_true_eq]
  apply List.ext_getElem?
  intro i
  by_cases hi : i < xs.length
  · exact h2 i hi
  · rw [List.getElem?_eq_none (by omega), List.getElem?_eq_none (by omega)]

set_option maxRecDepth 100000 in
set_option maxHeartbeats 1600000 in
theorem acts_any (a b : Option Addr) (cap cap' : Nat) (xs ys : List Act3) (w : World) (hl : xs.length ≤ 140737488351232) (ha : RowsAt act3Lay w a xs) (hb : RowsAt act3Lay w b ys) :
    Calls Tryd.prog 53 #[.slice a xs.length cap, .slice b ys.length cap'] w fun e w' => e = .returned (.bool (sameA xs ys)) ∧ ∃ n, w' = w.drewN n := by
  have HA := Lib.hid ha
  have HB := Lib.hid hb
  clear ha hb
  by_cases hlen : xs.length = ys.length
  · have hq : ((xs.length : Int) != (ys.length : Int)) = false := by rw [hlen]; simp
    have Hlen := Lib.hid hlen
    clear hlen
    go_enter Tryd.func53, Tryd.ntmps53
    go_wp2
    clear hq
    go_loopw [5] (fun i wr => ∃ k : Nat, k ≤ xs.length ∧ i = .int .i64 k ∧ Hid (∀ j, j < k → xs[j]? = ys[j]?) ∧ ∃ n, wr = w.drewN n) (fun i _ => xs.length - (RowKit.intOf i).toNat)
    case atStart => exact ⟨0, Nat.zero_le _, rfl, fun j hj => absurd hj (Nat.not_lt_zero _), Drawn.refl _⟩
    case round =>
      obtain ⟨k, hk, rfl, Hk, n, rfl⟩ := hrel
      by_cases hlt : k < xs.length
      · have hlt2 : k < ys.length := by have := Hlen.out; omega
        obtain ⟨x, hx⟩ := at_some hlt
        obtain ⟨y, hy⟩ := at_some hlt2
        obtain ⟨b1, o1, rfl, hb1, c1, c2, c3⟩ := act3_at HA.out hx
        obtain ⟨b2, o2, rfl, hb2, d1, d2, d3⟩ := act3_at HB.out hy
        have Hx := Lib.hid hx
        have Hy := Lib.hid hy
        clear hx hy
        by_cases h1 : x.kind = y.kind
        · have e1 : (x.kind != y.kind) = false := by rw [h1]; simp
          by_cases h2 : x.path = y.path
          · have e2 := str_eq h2
            by_cases h3 : x.data = y.data
            · have e3 := str_eq h3
              have Hn := Lib.hid (Act3.ext' h1 h2 h3)
              clear h1 h2 h3
              go_wp2
              go_quiet (fail)
              go_wp2
              go_roundw
              case rel =>
                refine ⟨k + 1, by omega, by go_num, fun j hj => ?_, n + nq, by simp⟩
                by_cases e : j = k
                · subst e; rw [Hx.out, Hy.out, Hn.out]
                · exact Hk.out j (by omega)
              case measure => simp [RowKit.intOf]; omega
            · have e3 := str_ne h3
              have Hr := Lib.hid (sameA_at Hx.out Hy.out (fun e => h3 (by rw [e])))
              clear h1 h2 h3
              go_wp2
              go_quiet (fail)
              go_wp2
              go_ret
              exact ⟨ret_bool Hr.out.symm, n + nq, by simp⟩
          · have e2 := str_ne h2
            have Hr := Lib.hid (sameA_at Hx.out Hy.out (fun e => h2 (by rw [e])))
            clear h1 h2
            go_wp2
            go_quiet (fail)
            go_wp2
            go_ret
            exact ⟨ret_bool Hr.out.symm, n + nq, by simp⟩
        · have e1 : (x.kind != y.kind) = true := by rw [bne_iff_ne]; exact h1
          have Hr := Lib.hid (sameA_at Hx.out Hy.out (fun e => h1 (by rw [e])))
          clear h1
          go_wp2
          go_quiet (fail)
          go_wp2
          go_ret
          exact ⟨ret_bool Hr.out.symm, n + nq, by simp⟩
      · have Hr := Lib.hid (sameA_ok Hlen.out (fun j hj => Hk.out j (by omega)))
        go_wp2
        go_ret
        exact ⟨ret_bool Hr.out.symm, _, rfl⟩
  · have Hr := Lib.hid (sameA_len hlen)
    have hq : ((xs.length : Int) != (ys.length : Int)) = true := by rw [bne_iff_ne]; omega
    clear hlen
    go_enter Tryd.func53, Tryd.ntmps53
    go_wp2
    go_ret
    exact ⟨ret_bool Hr.out.symm, Drawn.refl _⟩
end Go.Proofs.YtgjgeojhhglidaaDoor

namespace Go.Proofs.YtgjgeojhhglidaaDoor
open Go.RowKit Go.Lib

theorem findE_hit {l : List Ent} {p : ByteArray} {k : Nat} {x : Ent} (hx : l[k]? = some x) (hp : x.path = p) (h : ∀ j y, j < k → l[j]? = some y → y.path ≠ p) : findE l p = some x := by
  obtain ⟨hk, hx'⟩ := List.getElem?_eq_some_iff.1 hx
  unfold findE
  rw [List.find?_eq_some_iff_getElem]
  refine ⟨by simpa using hp, k, hk, hx', fun j hj => ?_⟩
  have := h j l[j] hj (List.getElem?_eq_getElem (by omega))
  simpa using this
theorem findE_miss {l : List Ent} {p : ByteArray} (h : ∀ j y, j < l.length → l[j]? = some y → y.path ≠ p) : findE l p = none := by
  unfold findE
  rw [List.find?_eq_none]
  intro x hx
  obtain ⟨j, hj, e⟩ := List.getElem_of_mem hx
  have := h j x hj (by rw [List.getElem?_eq_getElem hj, e])
  simpa using this

theorem ret_bool2 (b : Bool) : Ending.returned (.bool b) = .returned (.bool b) := rfl
theorem staysE_some {x y : Ent} {want : List Ent} (h : findE want x.path = some y) : staysE x want = (x.dir == y.dir) := by simp [staysE, h]
theorem staysE_none {x : Ent} {want : List Ent} (h : findE want x.path = none) : staysE x want = false := by simp [staysE, h]

end Go.Proofs.YtgjgeojhhglidaaDoor

namespace Go.Proofs.YtgjgeojhhglidaaDoor
open Go.RowKit Go.Lib

theorem thereE_hit {l want : List Ent} {p : ByteArray} {k : Nat} {x : Ent} (hx : l[k]? = some x) (hp : x.path = p) (hs : staysE x want = true) (h : ∀ j y, j < k → l[j]? = some y → ¬ (y.path = p ∧ staysE y want = true)) : thereE l want p = some x := by
  obtain ⟨hk, hx'⟩ := List.getElem?_eq_some_iff.1 hx
  unfold thereE
  rw [List.find?_eq_some_iff_getElem]
  refine ⟨by simp [hp, hs], k, hk, hx', fun j hj => ?_⟩
  have := h j l[j] hj (List.getElem?_eq_getElem (by omega))
  by_cases h1 : l[j].path = p <;> simp_all
theorem thereE_miss {l want : List Ent} {p : ByteArray} (h : ∀ j y, j < l.length → l[j]? = some y → ¬ (y.path = p ∧ staysE y want = true)) : thereE l want p = none := by
  unfold thereE
  rw [List.find?_eq_none]
  intro x hx
  obtain ⟨j, hj, e⟩ := List.getElem_of_mem hx
  have := h j x hj (by rw [List.getElem?_eq_getElem hj, e])
  simpa using this

end Go.Proofs.YtgjgeojhhglidaaDoor

