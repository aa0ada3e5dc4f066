/-
  GlobBack and GlobOver. GlobTurned.
-/
import Derived.Test.YteeaaphpahnjcaaGreatDoorGlp15
import Derived.Test.YteeaaphpahnjcaaGreatDoorSliced
import Derived.Test.YteeaaphpahnjcaaGreatDoorAppends
namespace Go.Proofs.YteeaaphpahnjcaaGreatDoor
open Go Go.RowKit Go.Lib

theorem linesL_mem {l : List Rul} {x : Rul} (h : x ∈ l) : x.text.size ≤ (linesL l).length := by
  induction l with
  | nil => cases h
  | cons y l ih =>
    have e : linesL (y :: l) = ruleL y ++ linesL l := rfl
    rw [e, List.length_append]
    rcases List.mem_cons.1 h with rfl | h
    · simp only [ruleL, List.length_append, size_eq]
      omega
    · have := ih h
      omega
theorem parse_small {t : List UInt8} (h : (parseG t).2 = 0) : ∀ x ∈ (parseG t).1, x.text.size ≤ t.length := by
  have h1 := parse_print h
  intro x hx
  unfold printG at h1
  split at h1
  · cases h1
  split at h1
  · have := linesL_mem hx
    rw [(Prod.mk.inj h1).1] at this
    exact this
  · cases h1
theorem print_size {l : List Rul} (h : ∀ x ∈ l, x.text.size ≤ 1000) : (ba (printG l).1).size ≤ 100000 := by
  rw [size_eq, ba_data]
  unfold printG
  split
  · exact Nat.zero_le _
  rename_i hl
  split
  · have h1 := linesL_size l h
    have h2 : l.length * (1000 + 9) ≤ 16 * (1000 + 9) := Nat.mul_le_mul_right _ (by omega)
    dsimp only
    omega
  · exact Nat.zero_le _
theorem under_iff {p d : ByteArray} : underB p d = true ↔ ∃ r, r ≠ [] ∧ p.data.toList = d.data.toList ++ 47 :: r := by
  unfold underB
  simp only [Bool.and_eq_true, decide_eq_true_eq]
  constructor
  · rintro ⟨⟨h1, h2⟩, h3⟩
    rw [size_eq, size_eq] at h1
    rw [size_eq] at h2 h3
    refine ⟨p.data.toList.drop (d.data.toList.length + 1), ?_, ?_⟩
    · intro e
      have := List.drop_eq_nil_iff.1 e
      omega
    · have h4 := (List.take_append_drop d.data.toList.length p.data.toList).symm
      rw [h2] at h4
      obtain ⟨hk, e⟩ := List.getElem?_eq_some_iff.1 h3
      rw [List.drop_eq_getElem_cons hk, e] at h4
      exact h4
  · rintro ⟨r, hr, e⟩
    rw [size_eq, size_eq, e]
    have := List.length_pos_iff.2 hr
    refine ⟨⟨?_, ?_⟩, ?_⟩
    · simp only [List.length_append, List.length_cons]
      omega
    · rw [List.take_left]
    · simp
theorem within_iff {p d : ByteArray} : withinG p d = true ↔ d = ⟨#[46]⟩ ∨ p = d ∨ ∃ r, r ≠ [] ∧ p.data.toList = d.data.toList ++ 47 :: r := by
  unfold withinG
  rw [Bool.or_eq_true, Bool.or_eq_true, decide_eq_true_eq, decide_eq_true_eq, under_iff, or_assoc]
theorem within_trans {a b c : ByteArray} (hb : b ≠ ⟨#[46]⟩) (h1 : withinG a b = true) (h2 : withinG b c = true) : withinG a c = true := by
  rw [within_iff] at h1 h2 ⊢
  rcases h2 with h2 | h2 | ⟨r, hr, h2⟩
  · exact .inl h2
  · rw [← h2]
    rcases h1 with h1 | h1
    · exact absurd h1 hb
    · exact .inr h1
  · rcases h1 with h1 | h1 | ⟨q, hq, h1⟩
    · exact absurd h1 hb
    · rw [h1]
      exact .inr (.inr ⟨r, hr, h2⟩)
    · refine .inr (.inr ⟨r ++ 47 :: q, by simp, ?_⟩)
      rw [h1, h2]
      simp
theorem within_self (a : ByteArray) : withinG a a = true := within_iff.2 (.inr (.inl rfl))
theorem within_all (a : ByteArray) : withinG a ⟨#[46]⟩ = true := within_iff.2 (.inl rfl)
theorem within_join {a b : ByteArray} (h : pathG b.data.toList = true) : withinG (a ++ ⟨#[47]⟩ ++ b) a = true := by
  refine within_iff.2 (.inr (.inr ⟨b.data.toList, ?_, ?_⟩))
  · intro e
    rw [e] at h
    exact absurd h (by decide)
  · rw [app_data, app_data]
    simp
end Go.Proofs.YteeaaphpahnjcaaGreatDoor

namespace Go.Proofs.YteeaaphpahnjcaaGreatDoor
open Go Go.RowKit Go.Lib

/-- What the best rule is, whatever the order. -/
theorem best_inv (p : ByteArray) (l : List Rul) : ∀ k, match bestG p l k with
    | none => ∀ x ∈ l.take k, saysG p x = false
    | some y => y ∈ l.take k ∧ saysG p y = true ∧ ∀ x ∈ l.take k, saysG p x = true → longG x.text ≤ longG y.text ∧ (longG x.text = longG y.text → x.kind = 2 → y.kind = 2)
  | 0 => by
    show ∀ x ∈ l.take 0, _
    intro x hx
    rw [List.take_zero] at hx
    cases hx
  | k + 1 => by
    have ih := best_inv p l k
    cases hx : l[k]? with
    | none =>
      have e1 : bestG p l (k + 1) = bestG p l k := by simp only [bestG, hx]
      have e2 : l.take (k + 1) = l.take k := by rw [List.take_add_one, hx, Option.toList_none, List.append_nil]
      rw [e1, e2]
      exact ih
    | some x =>
      have e2 : l.take (k + 1) = l.take k ++ [x] := by rw [List.take_add_one, hx, Option.toList_some]
      rw [bestG_step hx, e2]
      cases hs : saysG p x with
      | false =>
        rw [Bool.false_and, if_neg Bool.false_ne_true]
        revert ih
        cases bestG p l k with
        | none =>
          intro ih z hz
          rcases List.mem_append.1 hz with hz | hz
          · exact ih z hz
          · rw [List.mem_singleton.1 hz]
            exact hs
        | some y =>
          rintro ⟨h1, h2, h3⟩
          refine ⟨List.mem_append_left _ h1, h2, fun z hz hsz => ?_⟩
          rcases List.mem_append.1 hz with hz | hz
          · exact h3 z hz hsz
          · rw [List.mem_singleton.1 hz, hs] at hsz
            cases hsz
      | true =>
        rw [Bool.true_and]
        revert ih
        cases bestG p l k with
        | none =>
          intro ih
          rw [show betterG none x = true from rfl, if_pos rfl]
          refine ⟨List.mem_append_right _ (List.mem_singleton.2 rfl), hs, fun z hz hsz => ?_⟩
          rcases List.mem_append.1 hz with hz | hz
          · rw [ih z hz] at hsz
            cases hsz
          · rw [List.mem_singleton.1 hz]
            exact ⟨Int.le_refl _, fun _ h => h⟩
        | some y =>
          rintro ⟨h1, h2, h3⟩
          rw [better_some]
          by_cases hb : (decide (longG y.text < longG x.text) || (longG x.text == longG y.text && x.kind == 2)) = true
          · rw [if_pos hb]
            rw [Bool.or_eq_true, decide_eq_true_eq, Bool.and_eq_true, beq_iff_eq, beq_iff_eq] at hb
            refine ⟨List.mem_append_right _ (List.mem_singleton.2 rfl), hs, fun z hz hsz => ?_⟩
            rcases List.mem_append.1 hz with hz | hz
            · have h4 := (h3 z hz hsz).1
              refine ⟨by rcases hb with hb | hb <;> omega, fun e hk => ?_⟩
              rcases hb with hb | hb
              · omega
              · exact hb.2
            · rw [List.mem_singleton.1 hz]
              exact ⟨Int.le_refl _, fun _ h => h⟩
          · rw [if_neg hb]
            rw [Bool.or_eq_true, decide_eq_true_eq, Bool.and_eq_true, beq_iff_eq, beq_iff_eq] at hb
            refine ⟨List.mem_append_left _ h1, h2, fun z hz hsz => ?_⟩
            rcases List.mem_append.1 hz with hz | hz
            · exact h3 z hz hsz
            · rw [List.mem_singleton.1 hz]
              refine ⟨?_, fun e hk => absurd (.inr ⟨e, hk⟩) hb⟩
              have : ¬ longG y.text < longG x.text := fun h => hb (.inl h)
              omega
theorem best_all (p : ByteArray) (l : List Rul) : match bestG p l l.length with
    | none => ∀ x ∈ l, saysG p x = false
    | some y => y ∈ l ∧ saysG p y = true ∧ ∀ x ∈ l, saysG p x = true → longG x.text ≤ longG y.text ∧ (longG x.text = longG y.text → x.kind = 2 → y.kind = 2) := by
  have := best_inv p l l.length
  rw [List.take_length] at this
  exact this
theorem any_mem {l m : List Rul} (h : ∀ x, x ∈ l ↔ x ∈ m) (f : Rul → Bool) : l.any f = m.any f := by
  rw [Bool.eq_iff_iff, List.any_eq_true, List.any_eq_true]
  constructor
  · rintro ⟨x, hx, hf⟩
    exact ⟨x, (h x).1 hx, hf⟩
  · rintro ⟨x, hx, hf⟩
    exact ⟨x, (h x).2 hx, hf⟩
theorem says_kind {p : ByteArray} {x : Rul} (h : saysG p x = true) : x.kind = 1 ∨ x.kind = 2 := by
  unfold saysG at h
  rw [Bool.and_eq_true, Bool.or_eq_true, beq_iff_eq, beq_iff_eq] at h
  exact h.1
/-- **The same rules match the same, in whatever order, however often.** -/
theorem match_mem {l m : List Rul} (h : ∀ x, x ∈ l ↔ x ∈ m) (p : ByteArray) (dir : Bool) : matchG l p dir = matchG m p dir := by
  have h1 := best_all p l
  have h2 := best_all p m
  unfold matchG
  rw [any_mem h, any_mem h]
  revert h1 h2
  cases bestG p l l.length with
  | none =>
    cases bestG p m m.length with
    | none => intros; rfl
    | some z =>
      rintro h1 ⟨h2, h3, _⟩
      have := h1 z ((h z).2 h2)
      rw [h3] at this
      cases this
  | some y =>
    cases bestG p m m.length with
    | none =>
      rintro ⟨h1, h3, _⟩ h2
      have := h2 y ((h y).1 h1)
      rw [h3] at this
      cases this
    | some z =>
      rintro ⟨a1, a2, a3⟩ ⟨b1, b2, b3⟩
      have c1 := a3 z ((h z).2 b1) b2
      have c2 := b3 y ((h y).1 a1) a2
      have hk : (y.kind == 1) = (z.kind == 1) := by
        have e : longG y.text = longG z.text := by omega
        rcases says_kind a2 with k1 | k1 <;> rcases says_kind b2 with k2 | k2
        · rw [k1, k2]
        · have := c1.2 e.symm k2
          omega
        · have := c2.2 e k1
          omega
        · rw [k1, k2]
      dsimp only
      rw [hk]
theorem turn_mem (l : List Rul) (n : Nat) (x : Rul) : x ∈ l ↔ x ∈ l.drop n ++ l.take n ++ l.reverse := by
  rw [List.mem_append, List.mem_append, List.mem_reverse]
  constructor
  · exact fun h => .inr h
  · rintro ((h | h) | h)
    · exact List.mem_of_mem_drop h
    · exact List.mem_of_mem_take h
    · exact h
end Go.Proofs.YteeaaphpahnjcaaGreatDoor

