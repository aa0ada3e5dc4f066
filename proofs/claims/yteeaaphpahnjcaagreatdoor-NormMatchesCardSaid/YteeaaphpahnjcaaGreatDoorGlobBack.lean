/-
  Rules printed and read back: the plain law.
-/
import Derived.Test.YteeaaphpahnjcaaGreatDoorGlp5
namespace Go.Proofs.YteeaaphpahnjcaaGreatDoor
open Go Go.RowKit Go.Lib

/-- What a rule's line begins with. -/
def wordG (k : Int) : List UInt8 := if k = 1 then [119, 105, 116, 104, 32] else if k = 2 then [119, 105, 116, 104, 111, 117, 116, 32] else [116, 121, 112, 101, 32]
def ruleL (x : Rul) : List UInt8 := wordG x.kind ++ x.text.data.toList ++ [10]
def linesL (l : List Rul) : List UInt8 := l.flatMap ruleL
/-- Rules' lines, or what is wrong with them. -/
def printG (l : List Rul) : List UInt8 × Int := if 16 < l.length then ([], 40) else if l.all ruleG then (linesL l, 0) else ([], 30)

theorem ok_no10 {c : UInt8} (h : okByte c = true) : c ≠ 10 := by
  rintro rfl
  exact absurd h (by decide)
theorem right_no10 {l : List UInt8} (h : rightL l = true) : ∀ b ∈ l, b ≠ 10 := by
  intro b hb
  have h2 : l.all okByte = true := by
    unfold rightL at h
    rw [Bool.and_eq_true] at h
    exact h.2
  exact ok_no10 (List.all_eq_true.1 h2 b hb)
theorem split_no10 (c : UInt8) (hc : c ≠ 10) : ∀ l : List UInt8, (∀ p ∈ splitL c l, ∀ b ∈ p, b ≠ 10) → ∀ b ∈ l, b ≠ 10
  | [], _, b, hb => by cases hb
  | x :: t, h, b, hb => by
    by_cases hx : x = c
    · rw [splitL, if_pos hx] at h
      rcases List.mem_cons.1 hb with rfl | hb
      · rw [hx]; exact hc
      · exact split_no10 c hc t (fun p hp => h p (List.mem_cons_of_mem _ hp)) b hb
    · rw [splitL, if_neg hx] at h
      cases hs : splitL c t with
      | nil => exact absurd hs (splitL_ne c t)
      | cons p ps =>
        rw [hs] at h
        dsimp only at h
        rcases List.mem_cons.1 hb with rfl | hb
        · exact h (b :: p) List.mem_cons_self b List.mem_cons_self
        · refine split_no10 c hc t (fun q hq => ?_) b hb
          rw [hs] at hq
          rcases List.mem_cons.1 hq with rfl | hq
          · exact fun y hy => h _ List.mem_cons_self y (List.mem_cons_of_mem _ hy)
          · exact h q (List.mem_cons_of_mem _ hq)
theorem path_no10 {l : List UInt8} (h : pathG l = true) : ∀ b ∈ l, b ≠ 10 := by
  unfold pathG at h
  rw [Bool.and_eq_true, Bool.not_eq_true', List.any_eq_false] at h
  refine split_no10 47 (by decide) l (fun p hp => ?_)
  have h1 := h.2 (ba p) (List.mem_map.2 ⟨p, hp, rfl⟩)
  have h2 : rightL p = true := by
    simp only [wrongP, ba_data] at h1
    cases hr : rightL p with
    | true => rfl
    | false => rw [hr] at h1; exact absurd rfl h1
  exact right_no10 h2
theorem end_no10 {t : List UInt8} (h : endB t = true) : ∀ b ∈ t, b ≠ 10 := by
  unfold endB at h
  simp only [Bool.and_eq_true] at h
  exact fun b hb => right_no10 h.1.2 b (List.mem_append_right _ hb)
theorem rule_no10 {x : Rul} (h : ruleG x = true) : ∀ b ∈ x.text.data.toList, b ≠ 10 := by
  unfold ruleG at h
  split at h
  · rw [Bool.or_eq_true, decide_eq_true_eq] at h
    rcases h with h | h
    · rw [h]
      intro b hb
      have : b = 46 := by simpa using hb
      rw [this]
      decide
    · exact path_no10 h
  · split at h
    · exact end_no10 h
    · cases h
theorem rule_kind {x : Rul} (h : ruleG x = true) : x.kind = 1 ∨ x.kind = 2 ∨ x.kind = 3 := by
  unfold ruleG at h
  split at h
  · rename_i h1
    rcases h1 with h1 | h1
    · exact .inl h1
    · exact .inr (.inl h1)
  · split at h
    · rename_i h1
      exact .inr (.inr h1)
    · cases h
theorem pref_own (p t : List UInt8) : Lib.hasPrefix (p ++ t) p = true := by
  unfold Lib.hasPrefix
  rw [List.isPrefixOf_iff_prefix]
  exact List.prefix_append p t
theorem trim_own (p t : List UInt8) : Lib.trimPrefix (p ++ t) p = t := by
  unfold Lib.trimPrefix
  rw [if_pos (pref_own p t), List.drop_left]
/-- The line of a right rule, read. -/
theorem line_back {x : Rul} (h : ruleG x = true) : lineG (wordG x.kind ++ x.text.data.toList) = (x, true) := by
  obtain ⟨k, t⟩ := x
  rcases rule_kind h with h1 | h1 | h1
  · dsimp only at h1
    subst h1
    have e : wordG 1 = [119, 105, 116, 104, 32] := rfl
    unfold lineG
    dsimp only
    rw [e, if_pos (pref_own _ _), trim_own, ba_back, h]
  · dsimp only at h1
    subst h1
    have e : wordG 2 = [119, 105, 116, 104, 111, 117, 116, 32] := rfl
    have e1 : Lib.hasPrefix ([119, 105, 116, 104, 111, 117, 116, 32] ++ t.data.toList) [119, 105, 116, 104, 32] = false := rfl
    unfold lineG
    dsimp only
    rw [e, if_neg (by rw [e1]; exact Bool.false_ne_true), if_pos (pref_own _ _), trim_own, ba_back, h]
  · dsimp only at h1
    subst h1
    have e : wordG 3 = [116, 121, 112, 101, 32] := rfl
    have e1 : Lib.hasPrefix ([116, 121, 112, 101, 32] ++ t.data.toList) [119, 105, 116, 104, 32] = false := rfl
    have e2 : Lib.hasPrefix ([116, 121, 112, 101, 32] ++ t.data.toList) [119, 105, 116, 104, 111, 117, 116, 32] = false := rfl
    unfold lineG
    dsimp only
    rw [e, if_neg (by rw [e1]; exact Bool.false_ne_true), if_neg (by rw [e2]; exact Bool.false_ne_true), if_pos (pref_own _ _), trim_own, ba_back, h]
theorem word_no10 (k : Int) : ∀ b ∈ wordG k, b ≠ 10 := by
  unfold wordG
  split
  · decide
  split
  · decide
  · decide
theorem body_no10 {x : Rul} (h : ruleG x = true) : ∀ b ∈ wordG x.kind ++ x.text.data.toList, b ≠ 10 := fun b hb => by
  rcases List.mem_append.1 hb with hb | hb
  · exact word_no10 _ b hb
  · exact rule_no10 h b hb
theorem index_at : ∀ (p t : List UInt8), (∀ b ∈ p, b ≠ 10) → indexByte (p ++ 10 :: t) 10 = p.length
  | [], _, _ => rfl
  | x :: p, t, h => by
    have hx : (x == 10) = false := by rw [beq_eq_false_iff_ne]; exact h x List.mem_cons_self
    have ih := index_at p t (fun b hb => h b (List.mem_cons_of_mem _ hb))
    have e : indexByte (x :: p ++ 10 :: t) 10 = if x == 10 then 0 else if indexByte (p ++ 10 :: t) 10 == -1 then -1 else indexByte (p ++ 10 :: t) 10 + 1 := rfl
    rw [e, hx, ih]
    have h1 : (((p.length : Nat) : Int) == -1) = false := by rw [beq_eq_false_iff_ne]; omega
    rw [h1]
    simp
theorem lines_step (f : Nat) (p t : List UInt8) (h : ∀ b ∈ p, b ≠ 10) : linesF (f + 1) (p ++ 10 :: t) = (p ++ [10]) :: linesF f t := by
  have e : linesF (f + 1) (p ++ 10 :: t) = if p ++ 10 :: t = [] then [] else if indexByte (p ++ 10 :: t) 10 = -1 then [p ++ 10 :: t] else (p ++ 10 :: t).take ((indexByte (p ++ 10 :: t) 10).toNat + 1) :: linesF f ((p ++ 10 :: t).drop ((indexByte (p ++ 10 :: t) 10).toNat + 1)) := rfl
  rw [e, if_neg (by simp), index_at p t h, if_neg (by omega)]
  have e2 : p ++ 10 :: t = (p ++ [10]) ++ t := by simp
  have e3 : ((p.length : Nat) : Int).toNat + 1 = (p ++ [10]).length := by simp
  rw [e2, e3, List.take_left, List.drop_left]
theorem lines_nil (f : Nat) : linesF f [] = [] := by cases f <;> rfl
theorem trim_end (p : List UInt8) : Lib.trimSuffix (p ++ [10]) [10] = p := by
  have h : Lib.hasSuffix (p ++ [10]) [10] = true := by
    unfold Lib.hasSuffix
    rw [List.isSuffixOf_iff_suffix]
    exact List.suffix_append p [10]
  unfold Lib.trimSuffix
  rw [if_pos h]
  simp
theorem linesL_cons (x : Rul) (l : List Rul) : linesL (x :: l) = (wordG x.kind ++ x.text.data.toList) ++ 10 :: linesL l := by
  simp [linesL, ruleL]
theorem goG_lines : ∀ (l : List Rul) (acc : List Rul) (f : Nat), (∀ x ∈ l, ruleG x = true) → l.length ≤ f → goG acc ((linesF f (linesL l)).map fun y => Lib.trimSuffix y [10]) = some (acc ++ l)
  | [], acc, f, _, _ => by
    rw [show linesL [] = [] from rfl, lines_nil]
    simp [goG]
  | x :: l, acc, 0, _, hf => absurd hf (by simp)
  | x :: l, acc, f + 1, h, hf => by
    have hx := h x List.mem_cons_self
    rw [linesL_cons, lines_step f _ _ (body_no10 hx), List.map_cons, trim_end]
    have e1 : ∀ s ls, goG acc (s :: ls) = if (lineG s).2 then goG (acc ++ [(lineG s).1]) ls else none := fun _ _ => rfl
    rw [e1, line_back hx, if_pos rfl, goG_lines l (acc ++ [x]) f (fun y hy => h y (List.mem_cons_of_mem _ hy)) (by simpa using hf)]
    simp
theorem count_lines : ∀ l : List Rul, (∀ x ∈ l, ruleG x = true) → (linesL l).count 10 = l.length
  | [], _ => rfl
  | x :: l, h => by
    have h0 : (wordG x.kind ++ x.text.data.toList).count 10 = 0 := List.count_eq_zero.2 fun hm => body_no10 (h x List.mem_cons_self) 10 hm rfl
    rw [linesL_cons, List.count_append, h0, List.count_cons_self, count_lines l (fun y hy => h y (List.mem_cons_of_mem _ hy)), List.length_cons]
    omega
theorem lines_len (l : List Rul) : l.length ≤ (linesL l).length := by
  induction l with
  | nil => exact Nat.le_refl _
  | cons x l ih =>
    rw [linesL_cons]
    simp only [List.length_append, List.length_cons]
    omega
theorem lines_suffix : ∀ l : List Rul, linesL l ≠ [] → Lib.hasSuffix (linesL l) [10] = true
  | [], h => absurd rfl h
  | x :: l, _ => by
    unfold Lib.hasSuffix
    rw [List.isSuffixOf_iff_suffix, linesL_cons]
    by_cases hl : linesL l = []
    · rw [hl]
      exact List.suffix_append _ [10]
    · have := lines_suffix l hl
      unfold Lib.hasSuffix at this
      rw [List.isSuffixOf_iff_suffix] at this
      exact List.IsSuffix.trans this ((List.suffix_cons 10 _).trans (List.suffix_append _ _))
/-- **Right rules' lines say them.** -/
theorem print_parse {l : List Rul} (h : (printG l).2 = 0) : parseG (printG l).1 = (l, 0) := by
  unfold printG at h ⊢
  split at h
  · cases h
  rename_i hl
  split at h
  rotate_left
  · cases h
  rename_i ha
  rw [if_neg hl, if_pos ha]
  have ha' : ∀ x ∈ l, ruleG x = true := List.all_eq_true.1 ha
  unfold parseG
  rw [if_neg (fun e => by rw [lines_suffix l e.1] at e; exact Bool.noConfusion e.2), if_neg (by rw [count_lines l ha']; exact hl), goG_lines l [] _ ha' (by have := lines_len l; dsimp only; omega)]
  rfl
theorem pref_split {s p : List UInt8} (h : Lib.hasPrefix s p = true) : p ++ Lib.trimPrefix s p = s := by
  unfold Lib.trimPrefix
  rw [if_pos h]
  unfold Lib.hasPrefix at h
  rw [List.isPrefixOf_iff_prefix] at h
  obtain ⟨t, rfl⟩ := h
  rw [List.drop_left]
theorem line_says {s : List UInt8} (h : (lineG s).2 = true) : wordG (lineG s).1.kind ++ (lineG s).1.text.data.toList = s ∧ ruleG (lineG s).1 = true := by
  unfold lineG at h ⊢
  split
  · rename_i h1
    rw [if_pos h1] at h
    exact ⟨pref_split h1, h⟩
  · rename_i h1
    rw [if_neg h1] at h
    split
    · rename_i h2
      rw [if_pos h2] at h
      exact ⟨pref_split h2, h⟩
    · rename_i h2
      rw [if_neg h2] at h
      split
      · rename_i h3
        rw [if_pos h3] at h
        exact ⟨pref_split h3, h⟩
      · rename_i h3
        rw [if_neg h3] at h
        cases h
theorem first10 : ∀ l : List UInt8, 10 ∈ l → ∃ p t, l = p ++ 10 :: t ∧ ∀ b ∈ p, b ≠ 10
  | [], h => by cases h
  | x :: l, h => by
    by_cases hx : x = 10
    · subst hx
      exact ⟨[], l, rfl, fun b hb => by cases hb⟩
    · obtain ⟨p, t, rfl, hp⟩ := first10 l (by
        rcases List.mem_cons.1 h with h | h
        · exact absurd h.symm hx
        · exact h)
      refine ⟨x :: p, t, rfl, fun b hb => ?_⟩
      rcases List.mem_cons.1 hb with rfl | hb
      · exact hx
      · exact hp b hb
theorem goG_says : ∀ (f : Nat) (l : List UInt8) (acc m : List Rul), l.length < f → (l = [] ∨ Lib.hasSuffix l [10] = true) → goG acc ((linesF f l).map fun y => Lib.trimSuffix y [10]) = some m →
    ∃ m', m = acc ++ m' ∧ linesL m' = l ∧ (∀ x ∈ m', ruleG x = true) ∧ m'.length = l.count 10
  | 0, _, _, _, h, _, _ => absurd h (Nat.not_lt_zero _)
  | f + 1, l, acc, m, hf, hl, h => by
    by_cases h0 : l = []
    · subst h0
      rw [lines_nil] at h
      have : acc = m := by simpa [goG] using h
      exact ⟨[], by simp [this], rfl, (fun x hx => nomatch hx), rfl⟩
    have hs : Lib.hasSuffix l [10] = true := hl.resolve_left h0
    unfold Lib.hasSuffix at hs
    rw [List.isSuffixOf_iff_suffix] at hs
    have hm : (10 : UInt8) ∈ l := hs.subset (by simp)
    obtain ⟨p, t, rfl, hp⟩ := first10 l hm
    have ht : t = [] ∨ Lib.hasSuffix t [10] = true := by
      by_cases ht : t = []
      · exact .inl ht
      · refine .inr ?_
        unfold Lib.hasSuffix
        rw [List.isSuffixOf_iff_suffix]
        refine List.suffix_of_suffix_length_le hs ((List.suffix_cons 10 t).trans (List.suffix_append _ _)) ?_
        have := List.length_pos_iff.2 ht
        simp only [List.length_cons, List.length_nil]
        omega
    rw [lines_step f p t hp, List.map_cons, trim_end] at h
    have e1 : ∀ s ls, goG acc (s :: ls) = if (lineG s).2 then goG (acc ++ [(lineG s).1]) ls else none := fun _ _ => rfl
    rw [e1] at h
    split at h
    rotate_left
    · cases h
    rename_i hy
    obtain ⟨hy1, hy2⟩ := line_says hy
    obtain ⟨m', rfl, h2, h3, h4⟩ := goG_says f t _ m (by simp only [List.length_append, List.length_cons] at hf; omega) ht h
    refine ⟨(lineG p).1 :: m', by simp, ?_, ?_, ?_⟩
    · rw [linesL_cons, hy1, h2]
    · intro x hx
      rcases List.mem_cons.1 hx with rfl | hx
      · exact hy2
      · exact h3 x hx
    · have hz : p.count 10 = 0 := List.count_eq_zero.2 fun hm => hp 10 hm rfl
      rw [List.length_cons, h4, List.count_append, hz, List.count_cons_self]
      omega
/-- **Lines are what their rules are printed as.** -/
theorem parse_print {l : List UInt8} (h : (parseG l).2 = 0) : printG (parseG l).1 = (l, 0) := by
  unfold parseG at h ⊢
  split at h
  · cases h
  rename_i h1
  rw [if_neg h1]
  split at h
  · cases h
  rename_i h2
  rw [if_neg h2]
  have h1' : l = [] ∨ Lib.hasSuffix l [10] = true := by
    by_cases hl : l = []
    · exact .inl hl
    · refine .inr ?_
      cases hs : Lib.hasSuffix l [10] with
      | true => rfl
      | false => exact absurd ⟨hl, hs⟩ h1
  cases hg : goG [] ((linesF (l.length + 1) l).map fun x => Lib.trimSuffix x [10]) with
  | none =>
    rw [hg] at h
    cases h
  | some m =>
    obtain ⟨m', rfl, q1, q2, q3⟩ := goG_says _ _ _ _ (Nat.lt_succ_self _) h1' hg
    unfold printG ansG
    dsimp only
    rw [if_neg (by rw [q3]; exact h2), if_pos (List.all_eq_true.2 q2), q1]
theorem parse_bad {l : List UInt8} (h : (parseG l).2 ≠ 0) : (parseG l).1 = [] := by
  unfold parseG at h ⊢
  split
  · rfl
  rename_i h1
  rw [if_neg h1] at h
  split
  · rfl
  rename_i h2
  rw [if_neg h2] at h
  cases hg : goG [] ((linesF (l.length + 1) l).map fun x => Lib.trimSuffix x [10]) with
  | none => rfl
  | some m =>
    rw [hg] at h
    exact absurd rfl h
end Go.Proofs.YteeaaphpahnjcaaGreatDoor
