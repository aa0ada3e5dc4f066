/-
  Bytes of an operation, there and back: the plain law.
-/
import Derived.Test.YtlenpifjkbcmdaaGreatDoorOpsGA
import Derived.Test.YtlenpifjkbcmdaaGreatDoorOpsW6
namespace Go.Proofs.YtlenpifjkbcmdaaGreatDoor
open Go Go.RowKit Go.Lib

theorem num_numL {n : Int} (h1 : -9223372036854775808 ≤ n) (h2 : n ≤ 9223372036854775807) (rest : List UInt8) : Rd.num ⟨0, numL n ++ rest⟩ = (n, ⟨0, rest⟩) := by
  unfold Rd.num numL
  rw [raw_natL (u64_bound n)]
  dsimp only
  rw [wrap_u64 h1 h2]
theorem text_textL {s : List UInt8} (hs : s.length < 18446744073709551616) (rest : List UInt8) : Rd.text ⟨0, textL s ++ rest⟩ = (s, ⟨0, rest⟩) := by
  unfold Rd.text textL
  rw [List.append_assoc, raw_natL hs]
  dsimp only
  rw [if_neg (fun h => h rfl), if_neg (by rw [List.length_append]; omega), List.take_left, List.drop_left]
theorem num_back {r r' : Rd} {a : Int} (h : r.num = (a, r')) (he : r'.err = 0) : r.err = 0 ∧ r.rest = numL a ++ r'.rest := by
  obtain ⟨e, l⟩ := r
  unfold Rd.num at h
  have hb := raw_bound ⟨e, l⟩
  by_cases h0 : e = 0
  · subst h0
    refine ⟨rfl, ?_⟩
    obtain ⟨u, e', rest⟩ : ∃ u r2, Rd.raw ⟨0, l⟩ = (u, r2) := ⟨_, _, rfl⟩
    rw [rest] at h hb
    simp only [Prod.mk.injEq] at h
    obtain ⟨ha, rfl⟩ := h
    obtain ⟨e2, rs⟩ := e'
    dsimp only at he
    subst he
    have := raw_back rest
    show l = _
    rw [this, ← ha]
    unfold numL
    rw [u64_wrap u hb]
  · rw [raw_err h0] at h
    simp only [Prod.mk.injEq] at h
    obtain ⟨_, rfl⟩ := h
    exact absurd he h0
theorem text_back {r r' : Rd} {s : List UInt8} (h : r.text = (s, r')) (he : r'.err = 0) : r.err = 0 ∧ r.rest = textL s ++ r'.rest := by
  obtain ⟨e, l⟩ := r
  unfold Rd.text at h
  by_cases h0 : e = 0
  · subst h0
    refine ⟨rfl, ?_⟩
    obtain ⟨u, r2, hr⟩ : ∃ u r2, Rd.raw ⟨0, l⟩ = (u, r2) := ⟨_, _, rfl⟩
    rw [hr] at h
    dsimp only at h
    obtain ⟨e2, rs⟩ := r2
    by_cases h1 : e2 = 0
    · subst h1
      rw [if_neg (fun h => h rfl)] at h
      dsimp only at h
      by_cases h2 : rs.length < u
      · rw [if_pos h2] at h
        simp only [Prod.mk.injEq] at h
        obtain ⟨_, rfl⟩ := h
        simp at he
      · rw [if_neg h2] at h
        simp only [Prod.mk.injEq] at h
        obtain ⟨rfl, rfl⟩ := h
        have := raw_back hr
        show l = _
        rw [this]
        unfold textL
        rw [List.length_take, Nat.min_eq_left (by omega), List.append_assoc, List.take_append_drop]
    · rw [if_pos h1] at h
      simp only [Prod.mk.injEq] at h
      obtain ⟨_, rfl⟩ := h
      exact absurd he h1
  · rw [raw_err h0] at h
    dsimp only at h
    rw [if_pos h0] at h
    simp only [Prod.mk.injEq] at h
    obtain ⟨_, rfl⟩ := h
    exact absurd he h0
theorem fin_back {r : Rd} (h : r.fin = 0) : r.err = 0 ∧ r.rest = [] := by
  unfold Rd.fin at h
  split at h
  · rename_i h1; exact absurd h h1
  · rename_i h1
    split at h
    · cases h
    · rename_i h2
      exact ⟨by simpa using h1, by simpa using h2⟩
theorem rightC_ok {c n : Int} (h : rightC c n = 0) : 1 ≤ c ∧ c ≤ 1099511627776 ∧ 0 ≤ n ∧ n < 15 := by
  unfold rightC at h
  split at h
  · assumption
  · cases h
theorem placeC_ok {c n : Int} (h : placeC c n = true) : 0 ≤ c ∧ c ≤ 1099511627776 ∧ 0 ≤ n ∧ n < 15 := by
  unfold placeC at h
  rw [Bool.or_eq_true] at h
  rcases h with h | h
  · simp at h; omega
  · have := rightC_ok (by simpa using h); omega
/-- What an operation that may be is like: its numbers are small. -/
theorem right_small {x : Opr} (h : rightO x = 0) : ∀ n ∈ numsO x, 0 ≤ n ∧ n ≤ 1099511627776 := by
  unfold rightO at h
  split at h
  · cases h
  · rename_i h1
    split at h
    · cases h
    · split at h
      · rename_i h3
        have hs : rightC x.cnt x.who = 0 := by
          by_cases h4 : rightC x.cnt x.who = 0
          · exact h4
          · exact absurd (.inl h4) h1
        have hst := rightC_ok hs
        have hd : 0 ≤ dirO x.dir ∧ dirO x.dir ≤ 1 := by unfold dirO; split <;> omega
        have key : 1 ≤ x.kind ∧ x.kind ≤ 4 ∧ (0 ≤ x.nc ∧ x.nc ≤ 1099511627776 ∧ 0 ≤ x.nw ∧ x.nw < 15) ∧ (0 ≤ x.pc ∧ x.pc ≤ 1099511627776 ∧ 0 ≤ x.pw ∧ x.pw < 15) := by
          unfold shapeO at h3
          split at h3
          · simp only [Bool.and_eq_true, decide_eq_true_eq] at h3
            have := placeC_ok h3.1.1.2
            obtain ⟨⟨⟨⟨e1, e2⟩, _⟩, _⟩, _⟩ := h3
            exact ⟨by omega, by omega, ⟨by omega, by omega, by omega, by omega⟩, this⟩
          · split at h3
            · simp only [Bool.and_eq_true] at h3
              have h5 := placeC_ok h3.1.2
              have h6 := rightC_ok (by simpa using h3.1.1.1)
              exact ⟨by omega, by omega, ⟨by omega, by omega, by omega, by omega⟩, h5⟩
            · split at h3
              · simp only [Bool.and_eq_true, decide_eq_true_eq] at h3
                have h6 := rightC_ok (by simpa using h3.1.1.1)
                obtain ⟨e1, e2⟩ := h3.1.2.1
                exact ⟨by omega, by omega, ⟨by omega, by omega, by omega, by omega⟩, by omega, by omega, by omega, by omega⟩
              · split at h3
                · simp only [Bool.and_eq_true, decide_eq_true_eq] at h3
                  have h6 := rightC_ok (by simpa using h3.1.1.1)
                  obtain ⟨e1, e2⟩ := h3.1.2.1
                  exact ⟨by omega, by omega, ⟨by omega, by omega, by omega, by omega⟩, by omega, by omega, by omega, by omega⟩
                · cases h3
        obtain ⟨k1, k2, ⟨n1, n2, n3, n4⟩, p1, p2, p3, p4⟩ := key
        intro n hn
        simp only [numsO, List.mem_cons, List.mem_nil_iff, or_false] at hn
        rcases hn with rfl | rfl | rfl | rfl | rfl | rfl | rfl | rfl | rfl <;> omega
      · cases h
theorem ba_self (s : ByteArray) : (⟨s.data.toList.toArray⟩ : ByteArray) = s := by
  cases s; simp
/-- Its bytes are read as it. -/
theorem dec_enc {x : Opr} (h : rightO x = 0) (hn : x.name.size ≤ 100000) (hm : x.man.size ≤ 100000) : decO (encL x) = (x, 0) := by
  have hb := right_small h
  have b : ∀ n ∈ numsO x, -9223372036854775808 ≤ n ∧ n ≤ 9223372036854775807 := fun n hn => by have := hb n hn; omega
  simp only [numsO, List.mem_cons, List.mem_nil_iff, or_false, forall_eq_or_imp, forall_eq] at b
  obtain ⟨b1, b2, b3, b4, b5, b6, b7, b8, b9⟩ := b
  have e : encL x = numL x.cnt ++ (numL x.who ++ (numL x.seq ++ (numL x.kind ++ (numL x.nc ++ (numL x.nw ++ (numL (dirO x.dir) ++ (numL x.pc ++ (numL x.pw ++ (textL x.name.data.toList ++ (textL x.man.data.toList ++ [])))))))))) := by
    simp [encL, flatN, numsO]
  have := decO_eq (l := encL x) (by rw [e]; exact num_numL b1.1 b1.2 _) (num_numL b2.1 b2.2 _) (num_numL b3.1 b3.2 _) (num_numL b4.1 b4.2 _) (num_numL b5.1 b5.2 _) (num_numL b6.1 b6.2 _) (num_numL b7.1 b7.2 _) (num_numL b8.1 b8.2 _) (num_numL b9.1 b9.2 _) (text_textL (by rw [← size_eq]; omega) _) (text_textL (by rw [← size_eq]; omega) [])
  obtain ⟨h1, h2, h3⟩ := this
  have hr : readO (encL x) = x := by
    rw [h1, ba_self, ba_self]
    have : (dirO x.dir == 1) = x.dir := by unfold dirO; cases x.dir <;> rfl
    rw [this]
  unfold decO
  rw [h3, if_neg (by simp [Rd.fin]), h2, hr, if_neg]
  rintro (h4 | h4 | h4)
  · unfold dirO at h4; split at h4 <;> omega
  · unfold dirO at h4; split at h4 <;> omega
  · exact h4 h
/-- Bytes that are read as an operation are its bytes, and it may be. -/
theorem enc_dec {l : List UInt8} {y : Opr} (h : decO l = (y, 0)) : rightO y = 0 ∧ encL y = l := by
  obtain ⟨a1, r1, h1⟩ := pair_of (Rd.num ⟨0, l⟩)
  obtain ⟨a2, r2, h2⟩ := pair_of r1.num
  obtain ⟨a3, r3, h3⟩ := pair_of r2.num
  obtain ⟨a4, r4, h4⟩ := pair_of r3.num
  obtain ⟨a5, r5, h5⟩ := pair_of r4.num
  obtain ⟨a6, r6, h6⟩ := pair_of r5.num
  obtain ⟨a7, r7, h7⟩ := pair_of r6.num
  obtain ⟨a8, r8, h8⟩ := pair_of r7.num
  obtain ⟨a9, r9, h9⟩ := pair_of r8.num
  obtain ⟨s1, r10, h10⟩ := pair_of r9.text
  obtain ⟨s2, r11, h11⟩ := pair_of r10.text
  obtain ⟨hR, hD, hF⟩ := decO_eq h1 h2 h3 h4 h5 h6 h7 h8 h9 h10 h11
  unfold decO at h
  rw [hF, hD] at h
  split at h
  · rename_i hf
    simp only [Prod.mk.injEq] at h
    exact absurd h.2 hf
  · rename_i hf
    split at h
    · simp at h
    · rename_i hc
      simp only [Prod.mk.injEq, and_true] at h
      subst h
      have hc1 : rightO (readO l) = 0 := by
        by_cases h4 : rightO (readO l) = 0
        · exact h4
        · exact absurd (.inr (.inr h4)) hc
      refine ⟨hc1, ?_⟩
      obtain ⟨e11, n11⟩ := fin_back (r := r11) (by by_cases h4 : r11.fin = 0; exact h4; exact absurd h4 hf)
      obtain ⟨e10, n10⟩ := text_back h11 e11
      obtain ⟨e9, n9⟩ := text_back h10 e10
      obtain ⟨e8, n8⟩ := num_back h9 e9
      obtain ⟨e7, n7⟩ := num_back h8 e8
      obtain ⟨e6, n6⟩ := num_back h7 e7
      obtain ⟨e5, n5⟩ := num_back h6 e6
      obtain ⟨e4, n4⟩ := num_back h5 e5
      obtain ⟨e3, n3⟩ := num_back h4 e4
      obtain ⟨e2, n2⟩ := num_back h3 e3
      obtain ⟨e1, n1⟩ := num_back h2 e2
      obtain ⟨_, n0⟩ := num_back h1 e1
      have hd : dirO (a7 == 1) = a7 := by
        have : a7 = 0 ∨ a7 = 1 := by omega
        rcases this with rfl | rfl <;> rfl
      rw [hR]
      have e : l = numL a1 ++ (numL a2 ++ (numL a3 ++ (numL a4 ++ (numL a5 ++ (numL a6 ++ (numL a7 ++ (numL a8 ++ (numL a9 ++ (textL s1 ++ (textL s2 ++ [])))))))))) := by
        rw [← n11, ← n10, ← n9, ← n8, ← n7, ← n6, ← n5, ← n4, ← n3, ← n2, ← n1]
        exact n0
      rw [e]
      simp [encL, flatN, numsO, hd]
theorem dec_none {l : List UInt8} {y : Opr} {e : Int} (h : decO l = (y, e)) (he : e ≠ 0) : y = noOpr := by
  unfold decO at h
  split at h
  · simp only [Prod.mk.injEq] at h; exact h.1.symm
  · split at h
    · simp only [Prod.mk.injEq] at h; exact h.1.symm
    · simp only [Prod.mk.injEq] at h; exact absurd h.2.symm he
end Go.Proofs.YtlenpifjkbcmdaaGreatDoor
