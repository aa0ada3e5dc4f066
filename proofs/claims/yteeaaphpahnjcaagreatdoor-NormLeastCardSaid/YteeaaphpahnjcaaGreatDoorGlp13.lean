/-
  The reference's Parse: the plain law.
-/
import Derived.Test.YteeaaphpahnjcaaGreatDoorGlp12
namespace Go.Proofs.YteeaaphpahnjcaaGreatDoor
open Go Go.RowKit Go.Lib

/-- Does a line begin with a kind's word, and is there more of it? -/
def begG (s : ByteArray) (k : Int) : Bool := decide ((ba (wordG k)).size < s.size) && decide (s.extract 0 (ba (wordG k)).size = ba (wordG k))
def restG (s : ByteArray) (k : Int) : ByteArray := s.extract (ba (wordG k)).size s.size
def tryG (s : ByteArray) (k : Int) : Option Rul := if begG s k && ruleG ⟨k, restG s k⟩ then some ⟨k, restG s k⟩ else none
/-- What a line says, of the first kinds. -/
def fndG (s : ByteArray) : Nat → Option Rul
  | 0 => none
  | n + 1 => (fndG s n).or (tryG s ((n : Int) + 1))
theorem restG_data (s : ByteArray) (k : Int) : (restG s k).data.toList = s.data.toList.drop (wordG k).length := by
  unfold restG
  rw [size_eq (ba (wordG k)), ba_data, ← toList_data, extract_toList, size_eq, List.take_of_length_le (by rw [List.length_drop]; exact Nat.le_refl _)]
theorem begG_pref {s : ByteArray} {k : Int} (h : begG s k = true) : Lib.hasPrefix s.data.toList (wordG k) = true := by
  unfold begG at h
  rw [Bool.and_eq_true, decide_eq_true_eq, decide_eq_true_eq] at h
  have h2 := h.2
  have h3 : s.data.toList.take (wordG k).length = wordG k := by
    have := extract_head s (ba (wordG k)).size
    rw [h2, ba_data, size_eq, ba_data] at this
    exact this.symm
  unfold Lib.hasPrefix
  rw [List.isPrefixOf_iff_prefix, ← h3]
  exact List.take_prefix _ _
theorem begG_of {s : ByteArray} {k : Int} (h : Lib.hasPrefix s.data.toList (wordG k) = true) (h2 : (wordG k).length < s.data.toList.length) : begG s k = true := by
  unfold Lib.hasPrefix at h
  rw [List.isPrefixOf_iff_prefix] at h
  obtain ⟨t, ht⟩ := h
  unfold begG
  rw [Bool.and_eq_true, decide_eq_true_eq, decide_eq_true_eq]
  refine ⟨by rw [size_eq, size_eq, ba_data]; exact h2, ?_⟩
  rw [← ba_head, size_eq, ba_data, ← ht, List.take_left]
theorem rule_empty (k : Int) : ruleG ⟨k, ba []⟩ = false := by
  unfold ruleG
  split
  · rfl
  split
  · rfl
  · rfl
theorem tryG_eq (s : ByteArray) (k : Int) : tryG s k = if Lib.hasPrefix s.data.toList (wordG k) && ruleG ⟨k, ba (Lib.trimPrefix s.data.toList (wordG k))⟩ then some ⟨k, ba (Lib.trimPrefix s.data.toList (wordG k))⟩ else none := by
  have hr : restG s k = ba (s.data.toList.drop (wordG k).length) := by rw [← restG_data, ba_back]
  unfold tryG
  rw [hr]
  cases hp : Lib.hasPrefix s.data.toList (wordG k) with
  | false =>
    cases hb : begG s k with
    | false => rfl
    | true => rw [begG_pref hb] at hp; cases hp
  | true =>
    have ht : Lib.trimPrefix s.data.toList (wordG k) = s.data.toList.drop (wordG k).length := by
      unfold Lib.trimPrefix
      rw [if_pos hp]
    rw [ht]
    by_cases hl : (wordG k).length < s.data.toList.length
    · rw [begG_of hp hl]
    · have : s.data.toList.drop (wordG k).length = [] := List.drop_eq_nil_of_le (by omega)
      rw [this, rule_empty, Bool.and_false, Bool.and_false]
theorem pref_only {s p q : List UInt8} (h1 : Lib.hasPrefix s p = true) (h2 : Lib.hasPrefix s q = true) (h : q.isPrefixOf p = false) (h' : p.isPrefixOf q = false) : False := by
  unfold Lib.hasPrefix at h1 h2
  rw [List.isPrefixOf_iff_prefix] at h1 h2
  rcases List.prefix_or_prefix_of_prefix h1 h2 with h3 | h3
  · rw [List.isPrefixOf_iff_prefix.2 h3] at h'
    cases h'
  · rw [List.isPrefixOf_iff_prefix.2 h3] at h
    cases h
theorem pref_no {s p q : List UInt8} (h1 : Lib.hasPrefix s p = true) (h : q.isPrefixOf p = false) (h' : p.isPrefixOf q = false) : Lib.hasPrefix s q = false := by
  cases h2 : Lib.hasPrefix s q with
  | false => rfl
  | true => exact (pref_only h1 h2 h h').elim
/-- The kinds, tried one by one, say what the line says. -/
theorem fnd_line (s : ByteArray) : fndG s 3 = if (lineG s.data.toList).2 then some (lineG s.data.toList).1 else none := by
  have e1 : wordG 1 = [119, 105, 116, 104, 32] := rfl
  have e2 : wordG 2 = [119, 105, 116, 104, 111, 117, 116, 32] := rfl
  have e3 : wordG 3 = [116, 121, 112, 101, 32] := rfl
  have h : fndG s 3 = ((tryG s 1).or (tryG s 2)).or (tryG s 3) := rfl
  rw [h, tryG_eq, tryG_eq, tryG_eq, e1, e2, e3]
  unfold lineG
  by_cases h1 : Lib.hasPrefix s.data.toList [119, 105, 116, 104, 32] = true
  · rw [h1, pref_no h1 (by decide) (by decide), pref_no h1 (by decide) (by decide)]
    cases ruleG ⟨1, ba (Lib.trimPrefix s.data.toList [119, 105, 116, 104, 32])⟩ <;> simp
  · rw [Bool.not_eq_true] at h1
    rw [h1]
    by_cases h2 : Lib.hasPrefix s.data.toList [119, 105, 116, 104, 111, 117, 116, 32] = true
    · rw [h2, pref_no h2 (by decide) (by decide)]
      cases ruleG ⟨2, ba (Lib.trimPrefix s.data.toList [119, 105, 116, 104, 111, 117, 116, 32])⟩ <;> simp
    · rw [Bool.not_eq_true] at h2
      rw [h2]
      cases h3 : Lib.hasPrefix s.data.toList [116, 121, 112, 101, 32] with
      | false => simp
      | true => cases ruleG ⟨3, ba (Lib.trimPrefix s.data.toList [116, 121, 112, 101, 32])⟩ <;> simp
theorem fnd_step (s : ByteArray) (n : Nat) : fndG s (n + 1) = (fndG s n).or (tryG s ((n : Int) + 1)) := rfl
theorem fnd_no {s : ByteArray} {n : Nat} (h : tryG s ((n : Int) + 1) = none) : fndG s (n + 1) = fndG s n := by rw [fnd_step, h, Option.or_none]
/-- The lines, the last byte left out, are the parts. -/
theorem lines_split : ∀ (f : Nat) (t : List UInt8), t.length < f → (linesF f (t ++ [10])).map (fun y => Lib.trimSuffix y [10]) = splitL 10 t
  | 0, _, h => absurd h (Nat.not_lt_zero _)
  | f + 1, t, h => by
    by_cases hm : (10 : UInt8) ∈ t
    · obtain ⟨p, r, rfl, hp⟩ := first10 t hm
      rw [splitL_hit hp, List.append_assoc, List.cons_append, lines_step f p (r ++ [10]) hp, List.map_cons, trim_end, lines_split f r (by simp only [List.length_append, List.length_cons] at h; omega)]
    · have hp : ∀ b ∈ t, b ≠ 10 := fun b hb e => hm (e ▸ hb)
      rw [splitL_none hp, lines_step f t [] hp, List.map_cons, trim_end, lines_nil]
      rfl
theorem goG_take {α : Type} {f : α → List UInt8} {l : List α} {k : Nat} {x : α} (h : l[k]? = some x) : goG [] ((l.take (k + 1)).map f) = (goG [] ((l.take k).map f)).bind fun a => goG a [f x] := by
  rw [List.take_add_one, h, Option.toList_some, List.map_append, goG_append]
  rfl
theorem goG_fall {α : Type} {f : α → List UInt8} {l : List α} {k : Nat} (h : goG [] ((l.take k).map f) = none) : goG [] (l.map f) = none := by
  have : l.map f = (l.take k).map f ++ (l.drop k).map f := by rw [← List.map_append, List.take_append_drop]
  rw [this, goG_append, h]
  rfl
theorem goG_single (a : List Rul) (s : ByteArray) : goG a [s.data.toList] = (fndG s 3).map fun x => a ++ [x] := by
  rw [fnd_line]
  have e1 : goG a [s.data.toList] = if (lineG s.data.toList).2 then goG (a ++ [(lineG s.data.toList).1]) [] else none := rfl
  rw [e1]
  split <;> rfl
/-- A text that ends in a newline, in the reference's words. -/
theorem parse_ref {t : List UInt8} : parseG (t ++ [10]) = if 16 < (splitL 10 t).length then ([], 40) else ansG (goG [] (splitL 10 t)) := by
  have hs : Lib.hasSuffix (t ++ [10]) [10] = true := by
    unfold Lib.hasSuffix
    rw [List.isSuffixOf_iff_suffix]
    exact List.suffix_append t [10]
  unfold parseG
  rw [if_neg (fun e => by rw [hs] at e; exact Bool.noConfusion e.2), lines_split _ t (by simp; omega)]
  have : (t ++ [10]).count 10 = (splitL 10 t).length := by
    rw [splitL_length, List.count_append]
    rfl
  rw [this]
theorem parse_no {t : List UInt8} (h0 : t ≠ []) (h : t.getLast? ≠ some 10) : parseG t = ([], 30) := by
  unfold parseG
  refine if_pos ⟨h0, ?_⟩
  cases hs : Lib.hasSuffix t [10] with
  | false => rfl
  | true =>
    exfalso
    unfold Lib.hasSuffix at hs
    rw [List.isSuffixOf_iff_suffix] at hs
    obtain ⟨p, rfl⟩ := hs
    exact h (by simp)
end Go.Proofs.YteeaaphpahnjcaaGreatDoor
