/-
  Which items rules show: the plain law.
-/
import Derived.Test.YtfbdbjookkogjaaDoorGlobWG
import Derived.Test.YtfbdbjookkogjaaDoorItems
import Derived.Laws.RangeAny
import Derived.Test.YtfbdbjookkogjaaDoorSame
import Derived.Test.YtfbdbjookkogjaaDoorAppends
namespace Go.Proofs.YtfbdbjookkogjaaDoor
open Go Go.RowKit Go.Lib

def inG (l : List Rul) (x : Itm) : Bool := matchG l x.path x.dir
/-- Is a path above one of the first k items that are in? -/
def overG (l : List Rul) (xs : List Itm) (k : Nat) (d : ByteArray) : Bool := (xs.take k).any fun y => inG l y && underB y.path d
theorem overG_step {l : List Rul} {xs : List Itm} {k : Nat} {x : Itm} (h : xs[k]? = some x) (d : ByteArray) : overG l xs (k + 1) d = (overG l xs k d || (inG l x && underB x.path d)) := by
  unfold overG
  rw [List.take_add_one, h, Option.toList_some, List.any_append]
  simp
theorem overG_all (l : List Rul) (xs : List Itm) (d : ByteArray) : overG l xs xs.length d = xs.any fun y => inG l y && underB y.path d := by
  unfold overG; rw [List.take_length]
/-- What one item is shown as. -/
def showG (l : List Rul) (xs : List Itm) (x : Itm) : Option Itm :=
  if inG l x then some { x with ghost := false } else if x.dir && overG l xs xs.length x.path then some { x with ghost := true, man := ⟨#[]⟩ } else none
def projG (l : List Rul) (xs : List Itm) (k : Nat) : List Itm := (xs.take k).filterMap (showG l xs)
theorem projG_step {l : List Rul} {xs : List Itm} {k : Nat} {x : Itm} (h : xs[k]? = some x) : projG l xs (k + 1) = projG l xs k ++ (showG l xs x).toList := by
  unfold projG
  rw [List.take_add_one, h, Option.toList_some, List.filterMap_append]
  simp only [List.filterMap_cons, List.filterMap_nil]
  cases showG l xs x <;> rfl
theorem projG_len (l : List Rul) (xs : List Itm) (k : Nat) : (projG l xs k).length ≤ k := by
  unfold projG
  exact Nat.le_trans (List.length_filterMap_le _ _) (by simp; omega)

/-! ### A text's runes -/
/-- Within a rune, behind its first byte, no byte is a slash. -/
theorem rune_skip (s : ByteArray) (pos : Nat) (h : pos < s.size) : ∀ j, pos < j → j < pos + (Utf8.decode s pos).2 → ∃ hj : j < s.size, 128 ≤ (s[j]'hj).toNat := by
  intro j hj1 hj2
  by_cases ha : (s[pos]'h).toNat < 128
  · rw [decode_ascii s pos h ha] at hj2
    simp only at hj2
    omega
  · have key : ∀ k, 1 ≤ k → (decide (pos + k < s.size) && (s.get! (pos + k)).toNat / 64 == 2) = true → ∃ hj : pos + k < s.size, 128 ≤ (s[pos + k]'hj).toNat := by
      intro k _ hk
      simp only [Bool.and_eq_true, decide_eq_true_eq, beq_iff_eq] at hk
      refine ⟨hk.1, ?_⟩
      have e : s.get! (pos + k) = s[pos + k]'hk.1 := by
        simp [ByteArray.get!, getElem!_pos, hk.1]
        rfl
      rw [e] at hk
      omega
    have hget := get_at s pos h
    have hn : ¬ (s[pos]'h).toNat < 128 := ha
    simp only [Utf8.decode, hget, hn, if_false] at hj2
    split at hj2
    · rename_i hc
      rw [Bool.and_eq_true] at hc
      split at hj2
      · obtain rfl : j = pos + 1 := by simp at hj2; omega
        exact key 1 (by omega) hc.2
      · simp at hj2; omega
    · split at hj2
      · rename_i hc
        rw [Bool.and_eq_true, Bool.and_eq_true] at hc
        split at hj2
        · simp only at hj2
          rcases (show j = pos + 1 ∨ j = pos + 2 by omega) with rfl | rfl
          · exact key 1 (by omega) hc.1.2
          · exact key 2 (by omega) hc.2
        · simp at hj2; omega
      · split at hj2
        · rename_i hc
          rw [Bool.and_eq_true, Bool.and_eq_true, Bool.and_eq_true] at hc
          split at hj2
          · simp only at hj2
            rcases (show j = pos + 1 ∨ j = pos + 2 ∨ j = pos + 3 by omega) with rfl | rfl | rfl
            · exact key 1 (by omega) hc.1.1.2
            · exact key 2 (by omega) hc.1.2
            · exact key 3 (by omega) hc.2
          · simp at hj2; omega
        · simp at hj2; omega
theorem rune_width (s : ByteArray) (pos : Nat) (h : pos < s.size) : 1 ≤ (Utf8.decode s pos).2 := by
  by_cases ha : (s[pos]'h).toNat < 128
  · rw [decode_ascii s pos h ha]
    exact Nat.le_refl _
  · exact (decode_high s pos h (by omega)).2
/-- Which paths are above a path, and shorter than n? -/
def upTo (p : ByteArray) (n : Nat) (d : ByteArray) : Bool := underB p d && decide (d.size < n)
theorem upTo_zero (p d : ByteArray) : upTo p 0 d = false := by simp [upTo]
theorem under_parts {p d : ByteArray} (h : underB p d = true) : d.size + 1 < p.size ∧ d = p.extract 0 d.size ∧ ∃ hj : d.size < p.size, p[d.size]'hj = 47 := by
  unfold underB at h
  simp only [Bool.and_eq_true, decide_eq_true_eq] at h
  obtain ⟨⟨h1, h2⟩, h3⟩ := h
  refine ⟨h1, ?_, by omega, ?_⟩
  · apply ba_ext
    rw [extract_take, h2]
  · rw [List.getElem?_eq_getElem (by rw [← size_eq]; omega)] at h3
    exact Option.some.inj h3
theorem upTo_end (p d : ByteArray) (n : Nat) (h : p.size ≤ n) : upTo p n d = underB p d := by
  unfold upTo
  cases hu : underB p d with
  | false => rfl
  | true =>
    have := (under_parts hu).1
    simp only [Bool.true_and, decide_eq_true_eq]
    omega
/-- The next rune is no slash, or there is nothing behind it: nothing more is above. -/
theorem upTo_skip {p : ByteArray} {pos : Nat} (h : pos < p.size) (hn : ¬ (p[pos]'h = 47 ∧ pos + 1 < p.size)) (d : ByteArray) : upTo p (pos + (Utf8.decode p pos).2) d = upTo p pos d := by
  have hw := rune_width p pos h
  unfold upTo
  cases hu : underB p d with
  | false => rfl
  | true =>
    obtain ⟨h1, _, h3, h4⟩ := under_parts hu
    simp only [Bool.true_and, decide_eq_decide]
    constructor
    · intro hlt
      rcases Nat.lt_trichotomy d.size pos with a | a | a
      · exact a
      · subst a; exact absurd ⟨h4, h1⟩ hn
      · obtain ⟨_, hb⟩ := rune_skip p pos h d.size a hlt
        rw [h4] at hb
        exact absurd hb (by decide)
    · omega
theorem upTo_put {p : ByteArray} {pos : Nat} (h : pos < p.size) (h1 : p[pos]'h = 47) (h2 : pos + 1 < p.size) (d : ByteArray) : upTo p (pos + (Utf8.decode p pos).2) d = (decide (d = p.extract 0 pos) || upTo p pos d) := by
  have e : Utf8.decode p pos = (47, 1) := by
    rw [decode_ascii p pos h (by rw [h1]; decide), h1]; rfl
  rw [e]
  by_cases hd : d = p.extract 0 pos
  · have hs : d.size = pos := by rw [hd, ByteArray.size_extract]; omega
    have hu : underB p d = true := under_yes (by omega) (by rw [hs]; exact hd.symm) (by simp only [hs]; exact h1)
    unfold upTo
    rw [hu, hs]
    simp [hd]
  · unfold upTo
    cases hu : underB p d with
    | false => simp [hd]
    | true =>
      have hne : d.size ≠ pos := fun hs => hd (by rw [← hs]; exact (under_parts hu).2.1)
      simp only [Bool.true_and, hd, decide_false, Bool.false_or, decide_eq_decide]
      omega
end Go.Proofs.YtfbdbjookkogjaaDoor

namespace Go.Proofs.YtfbdbjookkogjaaDoor
open Go Go.RowKit Go.Lib

theorem boolInfo : (Tryd.prog.info? 4).map (fun i => (i.zero, i.size, i.bytes)) = some (some (.bool false), 1, 1) := by kernel_rfl
theorem itmInfo : (Tryd.prog.info? 34).map (fun i => (i.zero, i.size, i.bytes)) = some (some (.agg #[.string ⟨#[]⟩, .int .i64 0, .int .i64 0, .bool false, .bool false, .string ⟨#[]⟩]), 6, 56) := by kernel_rfl


set_option maxRecDepth 100000 in
theorem neqItm (x y : Itm) (w : World) : (binOp .neq 34 (.agg #[.string x.path, .int .i64 x.cnt, .int .i64 x.who, .bool x.dir, .bool x.ghost, .string x.man]) (.agg #[.string y.path, .int .i64 y.cnt, .int .i64 y.who, .bool y.dir, .bool y.ghost, .string y.man])).run Tryd.prog w = .ok (.bool (!decide (x = y))) w := by
  rw [run_neq_struct]
  have e : (Op.equalIn 10000 34 (.agg #[.string x.path, .int .i64 x.cnt, .int .i64 x.who, .bool x.dir, .bool x.ghost, .string x.man]) (.agg #[.string y.path, .int .i64 y.cnt, .int .i64 y.who, .bool y.dir, .bool y.ghost, .string y.man])).run Tryd.prog w = .ok (decide (x = y)) w := by
    simp [go_sem, Tryd.underlying34]
    by_cases h : x = y
    · subst h; simp
    · simp only [h, decide_false]
      simp only [toList_inj]
      repeat' split
      all_goals first | rfl | exact absurd (Itm.ext' (by assumption) (by assumption) (by assumption) (by assumption) (by assumption) (by assumption)) h
  rw [e]
  rfl
theorem eqlItm (x y : Itm) (w : World) : (binOp .eql 34 (.agg #[.string x.path, .int .i64 x.cnt, .int .i64 x.who, .bool x.dir, .bool x.ghost, .string x.man]) (.agg #[.string y.path, .int .i64 y.cnt, .int .i64 y.who, .bool y.dir, .bool y.ghost, .string y.man])).run Tryd.prog w = .ok (.bool (decide (x = y))) w := by
  rw [run_eql_struct]
  have e : (Op.equalIn 10000 34 (.agg #[.string x.path, .int .i64 x.cnt, .int .i64 x.who, .bool x.dir, .bool x.ghost, .string x.man]) (.agg #[.string y.path, .int .i64 y.cnt, .int .i64 y.who, .bool y.dir, .bool y.ghost, .string y.man])).run Tryd.prog w = .ok (decide (x = y)) w := by
    simp [go_sem, Tryd.underlying34]
    by_cases h : x = y
    · subst h; simp
    · simp only [h, decide_false]
      simp only [toList_inj]
      repeat' split
      all_goals first | rfl | exact absurd (Itm.ext' (by assumption) (by assumption) (by assumption) (by assumption) (by assumption) (by assumption)) h
  rw [e]
  rfl


set_option maxRecDepth 100000 in
set_option maxHeartbeats 1600000 in
theorem items_any (a b : Option Addr) (cap cap' : Nat) (xs ys : List Itm) (w : World) (hl : xs.length ≤ 140737488351232) (ha : RowsAt itmLay w a xs) (hb : RowsAt itmLay w b ys) :
    Calls Tryd.prog 13 #[.slice a xs.length cap, .slice b ys.length cap'] w fun e w' => e = .returned (.bool (decide (xs = ys))) ∧ ∃ n, w' = w.drewN n := by
  have HA := Lib.hid ha
  have HB := Lib.hid hb
  clear ha hb
  by_cases hlen : xs.length = ys.length
  · have hq : ((xs.length : Int) != (ys.length : Int)) = false := by rw [hlen]; simp
    have Hlen := Lib.hid hlen
    clear hlen
    go_enter Tryd.func13, Tryd.ntmps13
    go_wp2
    clear hq
    go_loopw [5] (fun i wr => ∃ k : Nat, k ≤ xs.length ∧ i = .int .i64 k ∧ Hid (∀ j, j < k → xs[j]? = ys[j]?) ∧ ∃ n, wr = w.drewN n) (fun i _ => xs.length - (RowKit.intOf i).toNat)
    case atStart => exact ⟨0, Nat.zero_le _, rfl, fun j hj => absurd hj (Nat.not_lt_zero _), Drawn.refl _⟩
    case round =>
      obtain ⟨k, hk, rfl, Hk, n, rfl⟩ := hrel
      by_cases hlt : k < xs.length
      · have hlt2 : k < ys.length := by have := Hlen.out; omega
        obtain ⟨x, hx⟩ := at_some hlt
        obtain ⟨y, hy⟩ := at_some hlt2
        obtain ⟨b1, o1, rfl, hb1, c0, c1, c2, c3, c4, c5⟩ := itm_at HA.out hx
        obtain ⟨b2, o2, rfl, hb2, d0, d1, d2, d3, d4, d5⟩ := itm_at HB.out hy
        have Hx := Lib.hid hx
        have Hy := Lib.hid hy
        clear hx hy
        have heq := neqItm x y
        by_cases h1 : x = y
        · have e1 : (!decide (x = y)) = false := by rw [h1]; simp
          rw [e1] at heq
          have Hn := Lib.hid h1
          clear h1 e1
          go_wp2
          go_quiet (fail)
          go_wp2
          go_roundw
          case rel =>
            refine ⟨k + 1, by omega, by go_num, fun j hj => ?_, n + nq, by simp⟩
            by_cases e : j = k
            · subst e; rw [Hx.out, Hy.out, Hn.out]
            · exact Hk.out j (by omega)
          case measure => simp [RowKit.intOf]; omega
        · have e1 : (!decide (x = y)) = true := by simp [h1]
          rw [e1] at heq
          have Hr := Lib.hid (same_at Hx.out Hy.out h1)
          clear h1 e1
          go_wp2
          go_quiet (fail)
          go_wp2
          go_ret
          exact ⟨ret_bool Hr.out.symm, n + nq, by simp⟩
      · have Hr := Lib.hid (same_ok Hlen.out (fun j hj => Hk.out j (by omega)))
        go_wp2
        go_ret
        exact ⟨ret_bool Hr.out.symm, _, rfl⟩
  · have Hr := Lib.hid (same_len hlen)
    have hq : ((xs.length : Int) != (ys.length : Int)) = true := by rw [bne_iff_ne]; omega
    clear hlen
    go_enter Tryd.func13, Tryd.ntmps13
    go_wp2
    go_ret
    exact ⟨ret_bool Hr.out.symm, Drawn.refl _⟩

end Go.Proofs.YtfbdbjookkogjaaDoor

