import Derived.Lib.TrimByte
import Derived.Lib.LastIndexByte
import Derived.Lib.ItoaNum
namespace Go.Proofs.YtgjgeojhhglidaaDoor
open Go.Lib

def okByte (c : UInt8) : Bool := decide (32 ≤ c.toNat) && decide (c.toNat ≤ 126) && decide (c.toNat ≠ 47)
def rightL (l : List UInt8) : Bool := !l.isEmpty && decide (l.length ≤ 24) && l != [46] && l != [46, 46] && (l.head? != some 32) && (l.getLast? != some 32) && l.all okByte
def rightN (l : List UInt8) : Int := if rightL l then 0 else 23

theorem rightN_bad {l : List UInt8} (h : rightL l = false) : rightN l = 23 := by simp [rightN, h]
theorem rightN_ok {l : List UInt8} (h : rightL l = true) : rightN l = 0 := by simp [rightN, h]
theorem bad_empty {l : List UInt8} (h : l = []) : rightN l = 23 := rightN_bad (by simp [rightL, h])
theorem bad_long {l : List UInt8} (h : 24 < l.length) : rightN l = 23 := rightN_bad (by
  have : ¬ l.length ≤ 24 := by omega
  simp [rightL, this])
theorem bad_dot {l : List UInt8} (h : l = [46]) : rightN l = 23 := rightN_bad (by simp [rightL, h])
theorem bad_dots {l : List UInt8} (h : l = [46, 46]) : rightN l = 23 := rightN_bad (by simp [rightL, h])
theorem bad_head {l : List UInt8} (h : l.head? = some 32) : rightN l = 23 := rightN_bad (by simp [rightL, h])
theorem bad_last {l : List UInt8} (h : l.getLast? = some 32) : rightN l = 23 := rightN_bad (by simp [rightL, h])
theorem bad_byte {l : List UInt8} {k : Nat} (hk : k < l.length) (h : okByte l[k] = false) : rightN l = 23 := rightN_bad (by
  have : l.all okByte = false := by
    rw [List.all_eq_false]
    exact ⟨l[k], List.getElem_mem hk, by simp [h]⟩
  simp [rightL, this])
theorem ok_all {l : List UInt8} (h0 : ¬ l = []) (h1 : l.length ≤ 24) (h2 : ¬ l = [46]) (h3 : ¬ l = [46, 46]) (h4 : ¬ l.head? = some 32) (h5 : ¬ l.getLast? = some 32)
    (h6 : ∀ j (hj : j < l.length), okByte l[j] = true) : rightN l = 0 := rightN_ok (by
  have : l.all okByte = true := by
    rw [List.all_eq_true]
    intro x hx
    obtain ⟨j, hj, rfl⟩ := List.getElem_of_mem hx
    exact h6 j hj
  simp [rightL, this, h0, h1, h2, h3, h4, h5])
theorem okByte_parts {c : UInt8} (h : okByte c = true) : 32 ≤ (c.toNat : Int) ∧ (c.toNat : Int) ≤ 126 ∧ ((c.toNat : Int) == 47) = false := by
  simp [okByte] at h
  refine ⟨by omega, by omega, ?_⟩
  rw [beq_eq_false_iff_ne]
  omega
theorem okByte_not {c : UInt8} (h : okByte c = false) : (c.toNat : Int) < 32 ∨ 126 < (c.toNat : Int) ∨ ((c.toNat : Int) == 47) = true := by
  simp [okByte] at h
  by_cases h1 : (c.toNat : Int) < 32
  · exact .inl h1
  · by_cases h2 : 126 < (c.toNat : Int)
    · exact .inr (.inl h2)
    · refine .inr (.inr ?_)
      have := h (by omega) (by omega)
      rw [beq_iff_eq]
      omega
theorem trim_eq_iff (l : List UInt8) : trimB l 32 = l ↔ (¬ l.head? = some 32 ∧ ¬ l.getLast? = some 32) := by
  unfold trimB trimLeftB trimRightB
  constructor
  · intro h
    have hlen : (List.dropWhile (· == 32) (List.dropWhile (· == 32) l.reverse).reverse).length = l.length := by rw [h]
    have h1 : (List.dropWhile (· == 32) l.reverse).length ≤ l.reverse.length := (List.dropWhile_sublist _).length_le
    have h2 : (List.dropWhile (· == 32) (List.dropWhile (· == 32) l.reverse).reverse).length ≤ (List.dropWhile (· == 32) l.reverse).reverse.length := (List.dropWhile_sublist _).length_le
    simp only [List.length_reverse] at h1 h2
    have e1 : List.dropWhile (· == 32) l.reverse = l.reverse := (List.dropWhile_sublist _).eq_of_length (by simp; omega)
    rw [e1, List.reverse_reverse] at h
    constructor
    · intro hh
      cases l with
      | nil => simp at hh
      | cons a t => simp at hh; subst hh; simp [List.dropWhile] at h; have := congrArg List.length h; have h3 : (List.dropWhile (· == (32:UInt8)) t).length ≤ t.length := (List.dropWhile_sublist _).length_le; simp at this; omega
    · intro hh
      rw [List.getLast?_eq_head?_reverse] at hh
      generalize l.reverse = r at *
      cases r with
      | nil => simp at hh
      | cons a t => simp at hh; subst hh; simp [List.dropWhile] at e1; have := congrArg List.length e1; have h3 : (List.dropWhile (· == (32:UInt8)) t).length ≤ t.length := (List.dropWhile_sublist _).length_le; simp at this; omega
  · rintro ⟨h1, h2⟩
    have e1 : List.dropWhile (· == 32) l.reverse = l.reverse := by
      rw [List.getLast?_eq_head?_reverse] at h2
      generalize l.reverse = r at *
      cases r with
      | nil => rfl
      | cons a t =>
        have : (a == 32) = false := by simpa using h2
        simp [List.dropWhile, this]
    rw [e1, List.reverse_reverse]
    cases l with
    | nil => rfl
    | cons a t =>
      have : (a == 32) = false := by simpa using h1
      simp [List.dropWhile, this]

/-- A name's ending: what stands behind the last dot, where that is not the first byte. -/
def extAt (l : List UInt8) : Int := Lib.lastIndexByte ⟨l.toArray⟩ 46
def extL (l : List UInt8) : List UInt8 := if 0 < extAt l then l.drop ((extAt l).toNat + 1) else []
theorem extAt_spec (l : List UInt8) : (extAt l = -1 ∧ ∀ j (hj : j < l.length), (l[j].toNat : Int) ≠ 46) ∨
    (∃ i : Nat, ∃ hi : i < l.length, extAt l = i ∧ (l[i].toNat : Int) = 46 ∧ ∀ j (hj : j < l.length), i < j → (l[j].toNat : Int) ≠ 46) := by
  have hsz : (⟨l.toArray⟩ : ByteArray).size = l.length := size_mk l
  have hb : ∀ j (hj : j < l.length), (⟨l.toArray⟩ : ByteArray).data[j]! = l[j] := fun j hj => by simp [hj]
  rcases Lib.lastIndexByte_spec ⟨l.toArray⟩ 46 with ⟨e, h⟩ | ⟨i, hi, e, h1, h2⟩
  · exact .inl ⟨e, fun j hj => by have := h j (by omega); rwa [hb j hj] at this⟩
  · rw [hsz] at hi
    exact .inr ⟨i, hi, e, by rwa [hb i hi] at h1, fun j hj hij => by have := h2 j hij (by omega); rwa [hb j hj] at this⟩
/-- What the loop from the end finds. -/
theorem extL_hit {l : List UInt8} {i : Nat} (h0 : 0 < i) (hi : i < l.length) (h1 : (l[i].toNat : Int) = 46) (h2 : ∀ j (hj : j < l.length), i < j → (l[j].toNat : Int) ≠ 46) : extL l = l.drop (i + 1) := by
  have : extAt l = i := by
    rcases extAt_spec l with ⟨_, h⟩ | ⟨k, hk, e, h3, h4⟩
    · exact absurd h1 (h i hi)
    · by_cases a : k < i
      · exact absurd h1 (h4 i hi a)
      · by_cases b : i < k
        · exact absurd h3 (h2 k hk b)
        · rw [e]; omega
  unfold extL
  rw [this, if_pos (by omega)]
  rfl
theorem extL_miss {l : List UInt8} (h2 : ∀ j (hj : j < l.length), 0 < j → (l[j].toNat : Int) ≠ 46) : extL l = [] := by
  unfold extL
  rw [if_neg]
  rcases extAt_spec l with ⟨e, h⟩ | ⟨k, hk, e, h3, h4⟩
  · omega
  · intro h
    exact h2 k hk (by omega) h3

/-- The name of a copy. -/
def behindL (l : List UInt8) : List UInt8 := if 1 ≤ (extL l).length ∧ (extL l).length ≤ 7 then 46 :: extL l else []
def stemL (l : List UInt8) : List UInt8 := l.take (l.length - (behindL l).length)
def tailL (l : List UInt8) (n : Int) : List UInt8 := 126 :: (decDigits n.toNat ++ behindL l)
def copyOk (l : List UInt8) (n : Int) : List UInt8 := (stemL l).take (24 - (tailL l n).length) ++ tailL l n
def copyL (l : List UInt8) (n : Int) : List UInt8 := if rightL l then (if n < 1 ∨ 9999 < n then [] else copyOk l n) else []
def copyN (l : List UInt8) (n : Int) : Int := if rightL l then (if n < 1 ∨ 9999 < n then 1 else 0) else 23
theorem copy_wrong {l : List UInt8} (n : Int) (h : rightL l = false) : copyL l n = [] ∧ copyN l n = 23 := by simp [copyL, copyN, h]
theorem copy_arg {l : List UInt8} {n : Int} (h : rightL l = true) (h2 : n < 1 ∨ 9999 < n) : copyL l n = [] ∧ copyN l n = 1 := by simp [copyL, copyN, h, h2]
theorem copy_right {l : List UInt8} {n : Int} (h : rightL l = true) (h2 : ¬ (n < 1 ∨ 9999 < n)) : copyL l n = copyOk l n ∧ copyN l n = 0 := by simp [copyL, copyN, h, h2]
theorem rightN_true {l : List UInt8} (h : rightL l = true) : rightN l = 0 := rightN_ok h
theorem rightL_len {l : List UInt8} (h : rightL l = true) : l.length ≤ 24 := by
  simp [rightL] at h; omega
theorem extL_len (l : List UInt8) : (extL l).length ≤ l.length := by
  unfold extL; split <;> simp
theorem behindL_len (l : List UInt8) : (behindL l).length ≤ 8 := by
  unfold behindL; split <;> simp; omega
/-- A text ends with a dot and its ending, where it has one. -/
theorem ext_suffix {l : List UInt8} (h : extL l ≠ []) : l = l.take (l.length - (extL l).length - 1) ++ 46 :: extL l ∧ (extL l).length + 1 ≤ l.length := by
  rcases extAt_spec l with ⟨e, _⟩ | ⟨i, hi, e, h1, h2⟩
  · exact absurd (by unfold extL; rw [e]; rfl) h
  · by_cases h0 : 0 < i
    · have hx := extL_hit h0 hi h1 h2
      have hlen : (extL l).length = l.length - (i + 1) := by rw [hx]; simp
      refine ⟨?_, by omega⟩
      rw [show l.length - (extL l).length - 1 = i from by omega, hx]
      have e46 : l[i] = 46 := by
        have : l[i].toNat = 46 := by omega
        rw [← UInt8.ofNat_toNat (x := l[i]), this]; rfl
      conv => lhs; rw [← List.take_append_drop i l, List.drop_eq_getElem_cons hi, e46]
    · exact absurd (by unfold extL; rw [e, if_neg (by omega)]) h
theorem trimSuffix_ext {l : List UInt8} (h : extL l ≠ []) : Lib.trimSuffix l (46 :: extL l) = l.take (l.length - (extL l).length - 1) := by
  obtain ⟨h1, h2⟩ := ext_suffix h
  unfold Lib.trimSuffix
  have hs : Lib.hasSuffix l (46 :: extL l) = true := by
    unfold Lib.hasSuffix
    rw [List.isSuffixOf_iff_suffix]
    exact ⟨_, h1.symm⟩
  rw [if_pos hs]
  simp only [List.length_cons]
  congr 1
theorem stem_with {l : List UInt8} (h : extL l ≠ []) (h7 : (extL l).length ≤ 7) : stemL l = l.take (l.length - (extL l).length - 1) ∧ behindL l = 46 :: extL l := by
  have : 1 ≤ (extL l).length := List.length_pos_iff.2 h
  have hb : behindL l = 46 :: extL l := by unfold behindL; rw [if_pos ⟨this, h7⟩]
  refine ⟨?_, hb⟩
  unfold stemL
  rw [hb]
  simp only [List.length_cons]
  congr 1
theorem stem_without {l : List UInt8} (h : extL l = [] ∨ 7 < (extL l).length) : stemL l = l ∧ behindL l = [] := by
  have hb : behindL l = [] := by
    unfold behindL; rw [if_neg]
    rintro ⟨a, b⟩
    rcases h with h | h
    · rw [h] at a; simp at a
    · omega
  refine ⟨?_, hb⟩
  unfold stemL; rw [hb]; simp
end Go.Proofs.YtgjgeojhhglidaaDoor
