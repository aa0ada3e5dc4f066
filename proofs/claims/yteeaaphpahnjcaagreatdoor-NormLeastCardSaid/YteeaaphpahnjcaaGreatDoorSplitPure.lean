/-
  A text's parts between bytes of a kind; its lines: plain law. Of no program.
-/
import Derived.Lib.Split
import Derived.Lib.IndexLaws
import Derived.Lib.IndexBytes
namespace Go.Proofs.YteeaaphpahnjcaaGreatDoor
open Go Go.Lib

def splitL (c : UInt8) : List UInt8 → List (List UInt8)
  | [] => [[]]
  | b :: t => if b = c then [] :: splitL c t else match splitL c t with
    | [] => [[b]]
    | p :: ps => (b :: p) :: ps
theorem splitL_ne (c : UInt8) (l : List UInt8) : splitL c l ≠ [] := by
  cases l with
  | nil => simp [splitL]
  | cons b t =>
    unfold splitL
    split
    · simp
    · split <;> simp
theorem splitL_hit {c : UInt8} {pre : List UInt8} (h : ∀ b ∈ pre, b ≠ c) (t : List UInt8) : splitL c (pre ++ c :: t) = pre :: splitL c t := by
  induction pre with
  | nil => simp [splitL]
  | cons b pre ih =>
    have hb : ¬ b = c := h b List.mem_cons_self
    rw [List.cons_append, splitL, if_neg hb, ih (fun x hx => h x (List.mem_cons_of_mem _ hx))]
theorem splitL_none {c : UInt8} {l : List UInt8} (h : ∀ b ∈ l, b ≠ c) : splitL c l = [l] := by
  induction l with
  | nil => rfl
  | cons b l ih =>
    have hb : ¬ b = c := h b List.mem_cons_self
    rw [splitL, if_neg hb, ih (fun x hx => h x (List.mem_cons_of_mem _ hx))]
theorem splitL_length (c : UInt8) (l : List UInt8) : (splitL c l).length = l.count c + 1 := by
  induction l with
  | nil => rfl
  | cons b t ih =>
    unfold splitL
    split
    · rename_i hb
      subst hb
      rw [List.length_cons, ih, List.count_cons_self]
    · rename_i hb
      rw [List.count_cons_of_ne (by simpa using hb)]
      split
      · rename_i e
        exact absurd e (splitL_ne c t)
      · rename_i p ps e
        rw [e] at ih
        simpa using ih
theorem splitL_snoc {c : UInt8} {l : List UInt8} {A : List (List UInt8)} {p : List UInt8} (b : UInt8) (h : splitL c l = A ++ [p]) : splitL c (l ++ [b]) = if b = c then A ++ [p] ++ [[]] else A ++ [p ++ [b]] := by
  induction l generalizing A p with
  | nil =>
    have hA : A = [] ∧ p = [] := by
      cases A with
      | nil => simp [splitL] at h; exact ⟨rfl, h⟩
      | cons a A => simp [splitL] at h
    obtain ⟨rfl, rfl⟩ := hA
    simp only [List.nil_append, splitL]
    split <;> rfl
  | cons x t ih =>
    by_cases hx : x = c
    · rw [splitL, if_pos hx] at h
      rw [List.cons_append, splitL, if_pos hx]
      cases A with
      | nil =>
        simp only [List.nil_append, List.cons.injEq] at h
        exact absurd h.2 (splitL_ne c t)
      | cons a A =>
        simp only [List.cons_append, List.cons.injEq] at h
        obtain ⟨rfl, h⟩ := h
        rw [ih h]
        split <;> rfl
    · rw [splitL, if_neg hx] at h
      rw [List.cons_append, splitL, if_neg hx]
      split at h
      · rename_i e
        exact absurd e (splitL_ne c t)
      · rename_i q qs e
        cases A with
        | nil =>
          simp only [List.nil_append, List.cons.injEq] at h
          obtain ⟨rfl, rfl⟩ := h
          rw [ih (A := []) (p := q) (by rw [e]; rfl)]
          by_cases hb : b = c
          · simp [hb]
          · simp [hb]
        | cons a A =>
          simp only [List.cons_append, List.cons.injEq] at h
          obtain ⟨rfl, rfl⟩ := h
          rw [ih (A := q :: A) (p := p) (by rw [e]; rfl)]
          by_cases hb : b = c
          · simp [hb]
          · simp [hb]
theorem at_cut {l : List UInt8} {i : Nat} {c : UInt8} (h : l[i]? = some c) : l = l.take i ++ c :: l.drop (i + 1) := by
  obtain ⟨hi, he⟩ := List.getElem?_eq_some_iff.1 h
  rw [← he, ← List.drop_eq_getElem_cons hi, List.take_append_drop]
theorem not_ahead {l : List UInt8} {i : Nat} {c : UInt8} (h : ∀ k : Nat, k < i → l[k]? ≠ some c) : ∀ b ∈ l.take i, b ≠ c := by
  intro b hb e
  obtain ⟨k, hk, hk2⟩ := List.mem_iff_getElem.1 hb
  rw [List.length_take] at hk
  refine h k (by omega) ?_
  rw [List.getElem?_eq_getElem (by omega)]
  rw [List.getElem_take] at hk2
  rw [hk2, e]
theorem not_all {l : List UInt8} {c : UInt8} (h : ∀ k : Nat, l[k]? ≠ some c) : ∀ b ∈ l, b ≠ c := by
  intro b hb e
  obtain ⟨k, hk, hk2⟩ := List.mem_iff_getElem.1 hb
  exact h k (by rw [List.getElem?_eq_getElem hk, hk2, e])
theorem ix_cases (l : List UInt8) (c : UInt8) : (indexByte l c = -1 ∧ ∀ b ∈ l, b ≠ c) ∨ ∃ i : Nat, indexByte l c = i ∧ i < l.length ∧ l[i]? = some c ∧ ∀ b ∈ l.take i, b ≠ c := by
  have hge := indexByte_ge l c
  by_cases h : indexByte l c = -1
  · exact .inl ⟨h, not_all (indexByte_none h)⟩
  · obtain ⟨i, hi⟩ : ∃ i : Nat, indexByte l c = i := ⟨(indexByte l c).toNat, by omega⟩
    obtain ⟨h1, h2⟩ := indexByte_some hi
    exact .inr ⟨i, hi, (List.getElem?_eq_some_iff.1 h1).1, h1, not_ahead h2⟩
theorem count_zero_of {l : List UInt8} {c : UInt8} (h : ∀ b ∈ l, b ≠ c) : l.count c = 0 := List.count_eq_zero.2 fun hc => h c hc rfl
theorem count_hit_of {l : List UInt8} {i : Nat} {c : UInt8} (h1 : l[i]? = some c) (h2 : ∀ b ∈ l.take i, b ≠ c) : l.count c = (l.drop (i + 1)).count c + 1 := by
  conv => lhs; rw [at_cut h1]
  rw [List.count_append, count_zero_of h2, List.count_cons_self, Nat.zero_add]
theorem splitK_one {c : UInt8} : ∀ (k : Nat) (s : List UInt8), s.count c ≤ k → splitK [c] 0 k s = splitL c s
  | 0, s, h => by
    rw [splitL_none (fun b hb e => by subst e; have := List.count_pos_iff.2 hb; omega)]
    rfl
  | k + 1, s, h => by
    unfold splitK
    rw [index_one]
    rcases ix_cases s c with ⟨hi, hn⟩ | ⟨i, hi, _, h1, h2⟩
    · rw [hi, splitL_none hn]
      rfl
    · rw [hi, if_neg (by simp)]
      have hc := count_hit_of h1 h2
      rw [show (((i : Nat) : Int).toNat) = i by omega, Nat.add_zero, List.length_singleton, splitK_one k _ (by omega)]
      conv => rhs; rw [at_cut h1]
      rw [splitL_hit h2]
theorem count_one {c : UInt8} : ∀ (f : Nat) (s : List UInt8), s.length ≤ f → Lib.count s [c] = s.count c
  | 0, s, h => by
    obtain rfl : s = [] := List.length_eq_zero_iff.1 (by omega)
    rfl
  | f + 1, s, h => by
    rcases ix_cases s c with ⟨hi, hn⟩ | ⟨i, hi, hlt, h1, h2⟩
    · rw [count_miss (by rw [index_one]; exact hi), count_zero_of hn]
    · rw [count_hit (by simp) (i := i) (by rw [index_one]; exact hi), List.length_singleton, count_one f _ (by rw [List.length_drop]; omega), count_hit_of h1 h2, Nat.add_comm]
theorem split_all (c : UInt8) (s : List UInt8) : splitK [c] 0 (Lib.count s [c]) s = splitL c s := splitK_one _ _ (Nat.le_of_eq (count_one s.length s (Nat.le_refl _)).symm)
/-- What strings.Lines gives. -/
def linesF : Nat → List UInt8 → List (List UInt8)
  | 0, _ => []
  | f + 1, l => if l = [] then [] else if indexByte l 10 = -1 then [l] else l.take ((indexByte l 10).toNat + 1) :: linesF f (l.drop ((indexByte l 10).toNat + 1))
theorem linesF_split : ∀ (f : Nat) (body : List UInt8), body.length < f → linesF f (body ++ [10]) = (splitL 10 body).map (· ++ [10])
  | 0, _, h => absurd h (Nat.not_lt_zero _)
  | f + 1, body, h => by
    unfold linesF
    rw [if_neg (by simp)]
    rcases ix_cases body 10 with ⟨hi, hn⟩ | ⟨i, hi, hlt, h1, h2⟩
    · have e : indexByte (body ++ [10]) 10 = body.length := by
        rcases ix_cases (body ++ [10]) 10 with ⟨_, hn2⟩ | ⟨j, hj, hjl, hj1, hj2⟩
        · exact absurd rfl (hn2 10 (by simp))
        · rw [hj]
          by_cases hjb : j < body.length
          · rw [List.getElem?_append_left hjb] at hj1
            exact absurd rfl (hn 10 (List.mem_of_getElem? hj1))
          · simp at hjl
            omega
      rw [e, if_neg (by omega), splitL_none hn]
      have : ((body.length : Int).toNat + 1) = (body ++ [10]).length := by simp
      rw [this, List.take_length, List.drop_length]
      cases f with
      | zero => rfl
      | succ f => simp [linesF]
    · have e : indexByte (body ++ [10]) 10 = i := by
        rcases ix_cases (body ++ [10]) 10 with ⟨_, hn2⟩ | ⟨j, hj, hjl, hj1, hj2⟩
        · exact absurd rfl (hn2 10 (by simp))
        · rw [hj]
          have hij : j = i := by
            rcases Nat.lt_trichotomy j i with hlt2 | rfl | hgt
            · rw [List.getElem?_append_left (by omega)] at hj1
              exact absurd rfl (h2 10 (by
                refine List.mem_iff_getElem?.2 ⟨j, ?_⟩
                rw [List.getElem?_take_of_lt hlt2]
                exact hj1))
            · rfl
            · refine absurd rfl (hj2 10 (List.mem_iff_getElem?.2 ⟨i, ?_⟩))
              rw [List.getElem?_take_of_lt hgt, List.getElem?_append_left hlt]
              exact h1
          rw [hij]
      rw [e, if_neg (by omega), show ((i : Int).toNat + 1) = i + 1 by omega]
      have e1 : (body ++ [10]).take (i + 1) = body.take i ++ [10] := by
        rw [List.take_append_of_le_length (by omega), List.take_add_one, h1]
        rfl
      have e2 : (body ++ [10]).drop (i + 1) = body.drop (i + 1) ++ [10] := List.drop_append_of_le_length (by omega)
      rw [e1, e2, linesF_split f _ (by rw [List.length_drop]; omega)]
      conv => rhs; rw [at_cut h1]
      rw [splitL_hit h2]
      rfl
end Go.Proofs.YteeaaphpahnjcaaGreatDoor
