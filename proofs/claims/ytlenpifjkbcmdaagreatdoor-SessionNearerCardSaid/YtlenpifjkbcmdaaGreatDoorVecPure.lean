/-
  How many operations of each device there are, and which are above a vector: the plain law.
-/
import Derived.Test.YtlenpifjkbcmdaaGreatDoorOpsW1
namespace Go.Proofs.YtlenpifjkbcmdaaGreatDoor
open Go Go.RowKit Go.Lib

def validB (x : Opr) : Bool := decide (0 ≤ x.who) && decide (x.who < 15)
def cntO (l : List Opr) (i : Nat) : Int := ((l.filter fun x => x.who == (i : Int)).length : Int)
def lenO (l : List Opr) : Nat := l.foldl (fun n x => if validB x then max n (x.who.toNat + 1) else n) 0
def padO (l : List Opr) (n : Nat) : List Int := (List.range n).map (cntO l)
def vecO (l : List Opr) : List Int := padO l (lenO l)
theorem lenO_snoc (l : List Opr) (y : Opr) : lenO (l ++ [y]) = if validB y then max (lenO l) (y.who.toNat + 1) else lenO l := by
  unfold lenO
  rw [List.foldl_append]
  rfl
theorem validB_iff {x : Opr} : validB x = true ↔ 0 ≤ x.who ∧ x.who < 15 := by simp [validB]
theorem lenO_le (l : List Opr) : lenO l ≤ 15 := by
  have key : ∀ (l : List Opr) n, n ≤ 15 → l.foldl (fun n x => if validB x then max n (x.who.toNat + 1) else n) n ≤ 15 := by
    intro l
    induction l with
    | nil => intro n h; exact h
    | cons y l ih =>
      intro n h
      rw [List.foldl_cons]
      apply ih
      split
      · rename_i hv
        have := validB_iff.1 hv
        omega
      · exact h
  exact key l 0 (by omega)
theorem lenO_mem {l : List Opr} {x : Opr} (hx : x ∈ l) (hv : validB x = true) : x.who.toNat + 1 ≤ lenO l := by
  have mono : ∀ (l : List Opr) n, n ≤ l.foldl (fun n x => if validB x then max n (x.who.toNat + 1) else n) n := by
    intro l
    induction l with
    | nil => intro n; exact Nat.le_refl _
    | cons y l ih =>
      intro n
      rw [List.foldl_cons]
      refine Nat.le_trans ?_ (ih _)
      split <;> omega
  have key : ∀ (l : List Opr) n, x ∈ l → x.who.toNat + 1 ≤ l.foldl (fun n x => if validB x then max n (x.who.toNat + 1) else n) n := by
    intro l
    induction l with
    | nil => intro n h; cases h
    | cons y l ih =>
      intro n h
      rw [List.foldl_cons]
      rcases List.mem_cons.1 h with rfl | h
      · rw [if_pos hv]
        exact Nat.le_trans (by omega) (mono l _)
      · exact ih _ h
  exact key l 0 hx
theorem cntO_zero {l : List Opr} {i : Nat} (h : lenO l ≤ i) (hi : i < 15) : cntO l i = 0 := by
  unfold cntO
  rw [List.filter_eq_nil_iff.2]
  · rfl
  · intro x hx he
    have he' : x.who = (i : Int) := by simpa using he
    have := lenO_mem hx (validB_iff.2 ⟨by omega, by omega⟩)
    omega
theorem cntO_snoc (l : List Opr) (y : Opr) (i : Nat) : cntO (l ++ [y]) i = cntO l i + (if y.who = (i : Int) then 1 else 0) := by
  unfold cntO
  rw [List.filter_append, List.length_append]
  by_cases h : y.who = (i : Int)
  · simp [h]
  · simp [h]
theorem padO_len (l : List Opr) (n : Nat) : (padO l n).length = n := by simp [padO]
theorem padO_get {l : List Opr} {n i : Nat} (h : i < n) : (padO l n)[i]? = some (cntO l i) := by simp [padO, h]
theorem padO_next {l : List Opr} {n : Nat} (h : lenO l ≤ n) (hn : n < 15) : padO l (n + 1) = padO l n ++ [0] := by
  unfold padO
  rw [List.range_succ, List.map_append, List.map_cons, List.map_nil, cntO_zero h hn]
theorem padO_skip {l : List Opr} {y : Opr} {n : Nat} (hn : n ≤ 15) (hv : validB y = false) : padO (l ++ [y]) n = padO l n := by
  unfold padO
  apply List.map_congr_left
  intro i hi
  have hi' := List.mem_range.1 hi
  rw [cntO_snoc, if_neg, Int.add_zero]
  intro he
  have : validB y = true := validB_iff.2 ⟨by omega, by omega⟩
  rw [hv] at this
  cases this
theorem padO_set {l : List Opr} {y : Opr} {n k : Nat} (hk : y.who = (k : Int)) (hkn : k < n) : (padO l n).set k (cntO l k + 1) = padO (l ++ [y]) n := by
  apply List.ext_getElem?
  intro i
  by_cases hin : i < n
  · rw [padO_get hin]
    by_cases e : i = k
    · subst e
      rw [List.getElem?_set_self (by rw [padO_len]; exact hin), cntO_snoc, if_pos hk]
    · rw [List.getElem?_set_ne (Ne.symm e), padO_get hin, cntO_snoc, if_neg (by omega), Int.add_zero]
  · rw [List.getElem?_eq_none (by rw [List.length_set, padO_len]; omega), List.getElem?_eq_none (by rw [padO_len]; omega)]
theorem cntO_le (l : List Opr) (i : Nat) : 0 ≤ cntO l i ∧ cntO l i ≤ l.length := by
  unfold cntO
  have := List.length_filter_le (fun x : Opr => x.who == (i : Int)) l
  omega
theorem padO_nil (n : Nat) : padO [] n = List.replicate n 0 := by
  apply List.ext_getElem?
  intro i
  by_cases hi : i < n
  · rw [padO_get hi]; simp [cntO, hi]
  · rw [List.getElem?_eq_none (by rw [padO_len]; omega), List.getElem?_eq_none (by simp; omega)]
theorem take_snoc {α : Type} {l : List α} {k : Nat} {y : α} (h : l[k]? = some y) : l.take (k + 1) = l.take k ++ [y] := by
  rw [List.take_add_one, h]; rfl
/-- A vector's number of a device. -/
def atV (v : List Int) (w : Int) : Int := if w < 0 ∨ (v.length : Int) ≤ w then 0 else max (v.getD w.toNat 0) 0
def newB (v : List Int) (x : Opr) : Bool := decide (atV v x.who < x.seq)
theorem filter_snoc {α : Type} {l : List α} {k : Nat} {y : α} (h : l[k]? = some y) (p : α → Bool) : (l.take (k + 1)).filter p = (l.take k).filter p ++ (if p y then [y] else []) := by
  rw [take_snoc h, List.filter_append]
  by_cases hp : p y = true
  · simp [hp]
  · simp [hp]
end Go.Proofs.YtlenpifjkbcmdaaGreatDoor
