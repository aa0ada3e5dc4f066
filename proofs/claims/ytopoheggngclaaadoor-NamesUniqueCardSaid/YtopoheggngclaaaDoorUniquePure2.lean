/-
  What is given is right, unlike what was given, and itself where it stands for the first time: the plain law.
-/
import Derived.Test.YtopoheggngclaaaDoorUniquePure
namespace Go.Proofs.YtopoheggngclaaaDoor
open Go.Lib

theorem rightL_parts {l : List UInt8} (h : rightL l = true) : l ≠ [] ∧ l.length ≤ 24 ∧ l.head? ≠ some 32 ∧ l.getLast? ≠ some 32 ∧ ∀ c ∈ l, okByte c = true := by
  simp only [rightL, Bool.and_eq_true, Bool.not_eq_true', List.isEmpty_eq_false_iff, decide_eq_true_eq, bne_iff_ne, List.all_eq_true] at h
  exact ⟨h.1.1.1.1.1.1, h.1.1.1.1.1.2, h.1.1.2, h.1.2, h.2⟩
theorem rightL_mk {l : List UInt8} (h1 : 126 ∈ l) (h2 : l.length ≤ 24) (h3 : l.head? ≠ some 32) (h4 : l.getLast? ≠ some 32) (h5 : ∀ c ∈ l, okByte c = true) : rightL l = true := by
  have a : l ≠ [] := fun e => by rw [e] at h1; simp at h1
  have b : l ≠ [46] := fun e => by rw [e] at h1; simp at h1
  have c : l ≠ [46, 46] := fun e => by rw [e] at h1; simp at h1
  simp only [rightL, Bool.and_eq_true, Bool.not_eq_true', List.isEmpty_eq_false_iff, decide_eq_true_eq, bne_iff_ne, List.all_eq_true]
  exact ⟨⟨⟨⟨⟨⟨a, h2⟩, b⟩, c⟩, h3⟩, h4⟩, h5⟩
theorem decDigits_ne (u : Nat) : decDigits u ≠ [] := by
  rw [decDigits_unf]; split <;> simp
theorem decDigits_small {u : Nat} (h : u < 10000) : (decDigits u).length ≤ 4 := by
  rw [decDigits_unf]
  split
  · simp
  rw [decDigits_unf]
  split
  · simp
  rw [decDigits_unf]
  split
  · simp
  rw [decDigits_unf]
  split
  · simp
  omega
theorem behindL_suffix (l : List UInt8) : behindL l <:+ l := by
  unfold behindL
  split
  · rename_i h
    have h0 : extL l ≠ [] := List.length_pos_iff.1 (by omega)
    exact ⟨_, (ext_suffix h0).1.symm⟩
  · exact List.nil_suffix
theorem stemL_sub (l : List UInt8) : ∀ c ∈ stemL l, c ∈ l := fun _ hc => List.mem_of_mem_take hc
theorem copyOk_mem {l : List UInt8} {n : Int} {c : UInt8} (h : c ∈ copyOk l n) : c ∈ l ∨ c = 126 ∨ c ∈ decDigits n.toNat := by
  unfold copyOk tailL at h
  simp only [List.mem_append, List.mem_cons] at h
  rcases h with h | h | h | h
  · exact .inl (stemL_sub _ _ (List.mem_of_mem_take h))
  · exact .inr (.inl h)
  · exact .inr (.inr h)
  · exact .inl ((behindL_suffix l).subset h)
theorem digit_ok {u : Nat} {c : UInt8} (h : c ∈ decDigits u) : okByte c = true ∧ c ≠ 32 ∧ c ≠ 46 := by
  obtain ⟨h1, h2⟩ := decDigits_range u c h
  refine ⟨?_, fun e => ?_, fun e => ?_⟩
  · simp only [okByte, Bool.and_eq_true, decide_eq_true_eq]; omega
  · rw [e] at h1; simp at h1
  · rw [e] at h1; simp at h1
theorem copyOk_right {l : List UInt8} {n : Nat} (h : rightL l = true) (h1 : 1 ≤ n) (h2 : n ≤ 9999) : rightL (copyOk l n) = true := by
  obtain ⟨a1, a2, a3, a4, a5⟩ := rightL_parts h
  have hb := behindL_len l
  have hd := decDigits_small (u := n) (by omega)
  have ht : (tailL l n).length ≤ 13 := by unfold tailL; simp; omega
  refine rightL_mk ?_ ?_ ?_ ?_ ?_
  · unfold copyOk tailL; simp
  · unfold copyOk; rw [List.length_append, List.length_take]; omega
  · unfold copyOk
    by_cases hs : (stemL l).take (24 - (tailL l n).length) = []
    · rw [hs]; unfold tailL; simp
    · rw [List.head?_append]
      intro hc
      apply a3
      have hpre : (stemL l).take (24 - (tailL l n).length) <+: l := (List.take_prefix _ _).trans (List.take_prefix _ _)
      obtain ⟨r, hr⟩ := hpre
      obtain ⟨y, hy⟩ : ∃ y, ((stemL l).take (24 - (tailL l n).length)).head? = some y := ⟨_, List.head?_eq_some_head hs⟩
      rw [hy] at hc
      rw [← hr, List.head?_append, hy]
      exact hc
  · unfold copyOk tailL
    rw [List.getLast?_append]
    have e : ∀ D : List UInt8, (126 :: D).getLast? = D.getLast?.or (some 126) := fun D => by rw [List.getLast?_cons]; cases D.getLast? <;> rfl
    rw [e, List.getLast?_append]
    intro hc
    by_cases hbn : behindL l = []
    · rw [hbn] at hc
      have hdn := decDigits_ne n
      obtain ⟨x, hx⟩ : ∃ x, (decDigits ((n : Int).toNat)).getLast? = some x := by
        rw [Int.toNat_natCast]
        exact ⟨_, List.getLast?_eq_some_getLast hdn⟩
      rw [hx] at hc
      have : x = 32 := by simpa using hc
      exact (digit_ok (List.mem_of_getLast? hx)).2.1 this
    · obtain ⟨x, hx⟩ : ∃ x, (behindL l).getLast? = some x := ⟨_, List.getLast?_eq_some_getLast hbn⟩
      rw [hx] at hc
      have hx32 : x = 32 := by simpa using hc
      obtain ⟨t, htl⟩ := behindL_suffix l
      rw [← htl, List.getLast?_append, hx, hx32] at a4
      exact a4 rfl
  · intro c hc
    rcases copyOk_mem hc with h | h | h
    · exact a5 c h
    · rw [h]; decide
    · exact (digit_ok h).1
theorem bcopy_right {s : ByteArray} {n : Nat} (h : bright s = true) (h1 : 1 ≤ n) (h2 : n ≤ 9999) : bright (bcopy s n) = true := by
  unfold bright
  rw [bcopy_ok h h1 h2]
  exact copyOk_right h h1 h2

/-- An ending that is short stays. -/
theorem ext_nodot {l : List UInt8} (h : extL l ≠ []) : (46 : UInt8) ∉ extL l := by
  rcases extAt_spec l with ⟨e, _⟩ | ⟨i, hi, e, h1, h2⟩
  · exact absurd (by unfold extL; rw [e]; rfl) h
  · by_cases h0 : 0 < i
    · rw [extL_hit h0 hi h1 h2]
      intro hm
      obtain ⟨j, hj, e2⟩ := List.getElem_of_mem hm
      rw [List.getElem_drop] at e2
      rw [List.length_drop] at hj
      exact h2 (i + 1 + j) (by omega) (by omega) (by rw [e2]; rfl)
    · exact absurd (by unfold extL; rw [e, if_neg (by omega)]) h
theorem copyOk_ext {l : List UInt8} {n : Int} (h1 : 1 ≤ (extL l).length) (h7 : (extL l).length ≤ 7) : extL (copyOk l n) = extL l := by
  have h0 : extL l ≠ [] := List.length_pos_iff.1 (by omega)
  obtain ⟨_, hb⟩ := stem_with h0 h7
  have hnd := ext_nodot h0
  generalize hx : extL l = x at *
  have hc : copyOk l n = ((stemL l).take (24 - (tailL l n).length) ++ 126 :: decDigits n.toNat) ++ 46 :: x := by
    unfold copyOk
    conv => lhs; rhs; unfold tailL
    rw [hb]
    simp
  rw [hc]
  generalize hA : (stemL l).take (24 - (tailL l n).length) ++ 126 :: decDigits n.toNat = A
  have hA0 : 0 < A.length := by rw [← hA]; simp only [List.length_append, List.length_cons]; omega
  have e := extL_hit (l := A ++ 46 :: x) (i := A.length) hA0 (by simp) (by rw [List.getElem_append_right (Nat.le_refl _)]; simp) (fun j hj hij => by
    rw [List.getElem_append_right (by omega)]
    obtain ⟨k, hk⟩ : ∃ k, j - A.length = k + 1 := ⟨j - A.length - 1, by omega⟩
    simp only [hk, List.getElem_cons_succ]
    intro he
    apply hnd
    have hkl : k < x.length := by simp at hj; omega
    have : x[k] = 46 := by
      have ht : x[k].toNat = 46 := by omega
      rw [← UInt8.ofNat_toNat (x := x[k]), ht]; rfl
    rw [← this]
    exact List.getElem_mem hkl)
  rw [e, show A.length + 1 = A.length + 1 from rfl, ← List.drop_drop]
  rw [List.drop_left]
  rfl

/-- What is known of the names that are given. -/
theorem outU_facts (ss : List ByteArray) (hr : allRight ss = true) (hl : ss.length ≤ 1000) : ∀ k, k ≤ ss.length →
    (∀ y ∈ outU ss k, bright y = true ∧ (y ∈ ss.take k ∨ y ∉ ss)) ∧ (outU ss k).Nodup := by
  intro k
  induction k with
  | zero => intro _; exact ⟨by simp [outU], by simp [outU]⟩
  | succ k ih =>
    intro hk
    obtain ⟨h1, h2⟩ := ih (by omega)
    have hx := allRight_at hr (k := k) (by omega)
    have hT : (ss ++ outU ss k).length < 9999 := by simp [outU_length]; omega
    obtain ⟨n1, n2, n3, n4⟩ := nextN_spec hx hT
    have hlen : (ss ++ outU ss k).length = ss.length + k := by simp [outU_length]
    have hget : ss.getD k ByteArray.empty ∈ ss := by
      rw [List.getD_eq_getElem?_getD, List.getElem?_eq_getElem (by omega)]
      exact List.getElem_mem _
    have htake : ss.take (k + 1) = ss.take k ++ [ss.getD k ByteArray.empty] := by
      rw [List.take_add_one, List.getElem?_eq_getElem (by omega), List.getD_eq_getElem?_getD, List.getElem?_eq_getElem (by omega)]; rfl
    have key : bright (pickU ss (outU ss k) k) = true ∧ (pickU ss (outU ss k) k ∈ ss.take (k + 1) ∨ pickU ss (outU ss k) k ∉ ss) ∧ pickU ss (outU ss k) k ∉ outU ss k := by
      unfold pickU
      split
      · refine ⟨bcopy_right hx n1 (by omega), .inr fun h => n3 (List.mem_append_left _ h), fun h => n3 (List.mem_append_right _ h)⟩
      · rename_i hin
        refine ⟨hx, .inl (by rw [htake]; simp), fun h => ?_⟩
        rcases (h1 _ h).2 with h' | h'
        · exact hin (hasB_iff.2 h')
        · exact h' hget
    refine ⟨fun y hy => ?_, ?_⟩
    · unfold outU at hy
      rw [List.mem_append, List.mem_singleton] at hy
      rcases hy with hy | rfl
      · refine ⟨(h1 y hy).1, (h1 y hy).2.imp (fun h => by rw [htake]; exact List.mem_append_left _ h) id⟩
      · exact ⟨key.1, key.2.1⟩
    · unfold outU
      rw [List.nodup_append]
      refine ⟨h2, by simp, fun a ha b hb => ?_⟩
      rw [List.mem_singleton] at hb
      rw [hb]
      exact fun e => key.2.2 (e ▸ ha)
theorem outU_prefix (ss : List ByteArray) : ∀ k m, k ≤ m → (outU ss m).take k = outU ss k := by
  intro k m hkm
  induction m with
  | zero => obtain rfl : k = 0 := by omega
            rfl
  | succ m ih =>
    by_cases h : k = m + 1
    · subst h; rw [List.take_of_length_le (by rw [outU_length]; omega)]
    · rw [outU, List.take_append_of_le_length (by rw [outU_length]; omega)]
      exact ih (by omega)
theorem outU_getD (ss : List ByteArray) {k m : Nat} (h : k < m) : (outU ss m).getD k ByteArray.empty = pickU ss (outU ss k) k := by
  have h1 := outU_prefix ss (k + 1) m (by omega)
  have h2 : (outU ss m).getD k ByteArray.empty = ((outU ss m).take (k + 1)).getD k ByteArray.empty := by
    simp only [List.getD_eq_getElem?_getD]
    rw [List.getElem?_take_of_lt (by omega)]
  rw [h2, h1, outU, List.getD_eq_getElem?_getD, List.getElem?_append_right (by rw [outU_length]; omega), outU_length]
  simp
end Go.Proofs.YtopoheggngclaaaDoor
