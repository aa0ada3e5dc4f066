/-
  Sets of operations that are made by Add, one by one: the plain law.
-/
import Derived.Test.YtifpdejgkofnaaaDoorSetsPure
namespace Go.Proofs.YtifpdejgkofnaaaDoor
open Go Go.RowKit Go.Lib

def stepO (s : List Opr) (x : Opr) : List Opr := if (addO s x).2 = 0 then (addO s x).1 else s
def setO (l : List Opr) : List Opr := l.foldl stepO []
theorem setO_snoc (l : List Opr) (x : Opr) : setO (l ++ [x]) = stepO (setO l) x := by
  unfold setO
  rw [List.foldl_append]
  rfl
theorem good_step {s : List Opr} {x : Opr} (h : GoodO s) : GoodO (stepO s x) ∧ s.length ≤ (stepO s x).length ∧ (stepO s x).length ≤ s.length + 1 := by
  unfold stepO
  split
  · rename_i he
    exact good_add h he
  · exact ⟨h, by omega, by omega⟩
theorem good_set (l : List Opr) : GoodO (setO l) ∧ (setO l).length ≤ l.length := by
  suffices key : ∀ n, n ≤ l.length → GoodO (setO (l.take n)) ∧ (setO (l.take n)).length ≤ n by
    have := key l.length (Nat.le_refl _)
    rwa [List.take_length] at this
  intro n
  induction n with
  | zero => exact fun _ => ⟨good_nil, Nat.le_refl _⟩
  | succ n ih =>
    intro hn
    obtain ⟨h1, h2⟩ := ih (by omega)
    obtain ⟨x, hx⟩ := at_some (l := l) (k := n) (by omega)
    rw [take_snoc hx, setO_snoc]
    have := good_step (x := x) h1
    exact ⟨this.1, by omega⟩
theorem set_mem {l : List Opr} {x : Opr} (h : x ∈ setO l) : x ∈ l := by
  suffices key : ∀ n, n ≤ l.length → ∀ x, x ∈ setO (l.take n) → x ∈ l by
    have := key l.length (Nat.le_refl _) x
    rw [List.take_length] at this
    exact this h
  intro n
  induction n with
  | zero => intro _ x hx; cases hx
  | succ n ih =>
    intro hn x hx
    obtain ⟨y, hy⟩ := at_some (l := l) (k := n) (by omega)
    rw [take_snoc hy, setO_snoc] at hx
    unfold stepO at hx
    split at hx
    · rename_i he
      rcases add_cases he with ⟨e, _⟩ | ⟨e, _⟩
      · rw [e] at hx
        exact ih (by omega) x hx
      · rw [e] at hx
        rcases mem_ins.1 hx with rfl | hx
        · exact List.mem_of_getElem? hy
        · exact ih (by omega) x hx
    · exact ih (by omega) x hx
theorem good_right {l : List Opr} (h : GoodO l) {x : Opr} (hx : x ∈ l) : rightO x = 0 ∧ 0 ≤ x.who ∧ x.who < 15 ∧ 1 ≤ x.seq ∧ x.seq ≤ 1099511627776 := by
  have hr := h.right x hx
  have hw := validB_iff.1 (right_who hr)
  have hs := right_seq hr
  exact ⟨hr, hw.1, hw.2, hs.1, hs.2⟩
theorem good_lt {l : List Opr} (h : GoodO l) {j : Nat} {x y : Opr} (hx : l[j]? = some x) (hy : l[j + 1]? = some y) : lessC x.cnt x.who y.cnt y.who = true := by
  obtain ⟨h1, rfl⟩ := List.getElem?_eq_some_iff.1 hx
  obtain ⟨h2, rfl⟩ := List.getElem?_eq_some_iff.1 hy
  exact List.pairwise_iff_getElem.1 h.up j (j + 1) h1 h2 (by omega)
/-- Which ones of device w the first k have. -/
def hasO (l : List Opr) (w k : Int) : Bool := l.any fun x => x.who == w && x.seq == k
theorem hasO_snoc {l : List Opr} {k : Nat} {y : Opr} (h : l[k]? = some y) (a b : Int) : hasO (l.take (k + 1)) a b = (hasO (l.take k) a b || (y.who == a && y.seq == b)) := by
  rw [take_snoc h]
  simp [hasO]
theorem hasO_all {l : List Opr} (h : GoodO l) {w : Nat} {k : Int} (h1 : 1 ≤ k) (h2 : k ≤ cntO l w) : hasO l w k = true := by
  obtain ⟨y, hy, e1, e2⟩ := (good_count h w k).1 ⟨h1, h2⟩
  unfold hasO
  rw [List.any_eq_true]
  exact ⟨y, hy, by simp [e1, e2]⟩
end Go.Proofs.YtifpdejgkofnaaaDoor
