/-
  Bytes of an operation, there and back: the plain law. What is found on a disk: the records of its frames, and no more: the plain law. The opening of a log cuts what is behind the records: the plain law.
-/
import Derived.Test.YtgglheelhbfgiaaGreatDoorMg8
import Derived.Test.YtgglheelhbfgiaaGreatDoorMg10
import Derived.Test.YtgglheelhbfgiaaGreatDoorMg11
import Derived.Test.YtgglheelhbfgiaaGreatDoorMg2
namespace Go.Proofs.YtgglheelhbfgiaaGreatDoor
open Go Go.RowKit Go.Lib

theorem num_numL {n : Int} (h1 : -9223372036854775808 ≤ n) (h2 : n ≤ 9223372036854775807) (rest : List UInt8) : Rd.num ⟨0, numL n ++ rest⟩ = (n, ⟨0, rest⟩) := by
  unfold Rd.num numL
  rw [raw_natL (u64_bound n)]
  dsimp only
  rw [wrap_u64 h1 h2]
theorem text_textL {s : List UInt8} (hs : s.length < 18446744073709551616) (rest : List UInt8) : Rd.text ⟨0, textL s ++ rest⟩ = (s, ⟨0, rest⟩) := by
  unfold Rd.text textL
  rw [List.append_assoc, raw_natL hs]
  dsimp only
  rw [if_neg (fun h => h rfl), if_neg (by rw [List.length_append]; omega), List.take_left, List.drop_left]
theorem onum_back {r r' : Rd} {a : Int} (h : r.num = (a, r')) (he : r'.err = 0) : r.err = 0 ∧ r.rest = numL a ++ r'.rest := by
  obtain ⟨e, l⟩ := r
  unfold Rd.num at h
  have hb := raw_bound ⟨e, l⟩
  by_cases h0 : e = 0
  · subst h0
    refine ⟨rfl, ?_⟩
    obtain ⟨u, e', rest⟩ : ∃ u r2, Rd.raw ⟨0, l⟩ = (u, r2) := ⟨_, _, rfl⟩
    rw [rest] at h hb
    simp only [Prod.mk.injEq] at h
    obtain ⟨ha, rfl⟩ := h
    obtain ⟨e2, rs⟩ := e'
    dsimp only at he
    subst he
    have := raw_back rest
    show l = _
    rw [this, ← ha]
    unfold numL
    rw [u64_wrap u hb]
  · rw [raw_err h0] at h
    simp only [Prod.mk.injEq] at h
    obtain ⟨_, rfl⟩ := h
    exact absurd he h0
theorem otext_back {r r' : Rd} {s : List UInt8} (h : r.text = (s, r')) (he : r'.err = 0) : r.err = 0 ∧ r.rest = textL s ++ r'.rest := by
  obtain ⟨e, l⟩ := r
  unfold Rd.text at h
  by_cases h0 : e = 0
  · subst h0
    refine ⟨rfl, ?_⟩
    obtain ⟨u, r2, hr⟩ : ∃ u r2, Rd.raw ⟨0, l⟩ = (u, r2) := ⟨_, _, rfl⟩
    rw [hr] at h
    dsimp only at h
    obtain ⟨e2, rs⟩ := r2
    by_cases h1 : e2 = 0
    · subst h1
      rw [if_neg (fun h => h rfl)] at h
      dsimp only at h
      by_cases h2 : rs.length < u
      · rw [if_pos h2] at h
        simp only [Prod.mk.injEq] at h
        obtain ⟨_, rfl⟩ := h
        simp at he
      · rw [if_neg h2] at h
        simp only [Prod.mk.injEq] at h
        obtain ⟨rfl, rfl⟩ := h
        have := raw_back hr
        show l = _
        rw [this]
        unfold textL
        rw [List.length_take, Nat.min_eq_left (by omega), List.append_assoc, List.take_append_drop]
    · rw [if_pos h1] at h
      simp only [Prod.mk.injEq] at h
      obtain ⟨_, rfl⟩ := h
      exact absurd he h1
  · rw [raw_err h0] at h
    dsimp only at h
    rw [if_pos h0] at h
    simp only [Prod.mk.injEq] at h
    obtain ⟨_, rfl⟩ := h
    exact absurd he h0
theorem fin_back {r : Rd} (h : r.fin = 0) : r.err = 0 ∧ r.rest = [] := by
  unfold Rd.fin at h
  split at h
  · rename_i h1; exact absurd h h1
  · rename_i h1
    split at h
    · cases h
    · rename_i h2
      exact ⟨by simpa using h1, by simpa using h2⟩
theorem rightC_ok {c n : Int} (h : rightC c n = 0) : 1 ≤ c ∧ c ≤ 1099511627776 ∧ 0 ≤ n ∧ n < 15 := by
  unfold rightC at h
  split at h
  · assumption
  · cases h
theorem placeC_ok {c n : Int} (h : placeC c n = true) : 0 ≤ c ∧ c ≤ 1099511627776 ∧ 0 ≤ n ∧ n < 15 := by
  unfold placeC at h
  rw [Bool.or_eq_true] at h
  rcases h with h | h
  · simp at h; omega
  · have := rightC_ok (by simpa using h); omega
/-- What an operation that may be is like: its numbers are small. -/
theorem right_small {x : Opr} (h : rightO x = 0) : ∀ n ∈ numsO x, 0 ≤ n ∧ n ≤ 1099511627776 := by
  unfold rightO at h
  split at h
  · cases h
  · rename_i h1
    split at h
    · cases h
    · split at h
      · rename_i h3
        have hs : rightC x.cnt x.who = 0 := by
          by_cases h4 : rightC x.cnt x.who = 0
          · exact h4
          · exact absurd (.inl h4) h1
        have hst := rightC_ok hs
        have hd : 0 ≤ dirO x.dir ∧ dirO x.dir ≤ 1 := by unfold dirO; split <;> omega
        have key : 1 ≤ x.kind ∧ x.kind ≤ 4 ∧ (0 ≤ x.nc ∧ x.nc ≤ 1099511627776 ∧ 0 ≤ x.nw ∧ x.nw < 15) ∧ (0 ≤ x.pc ∧ x.pc ≤ 1099511627776 ∧ 0 ≤ x.pw ∧ x.pw < 15) := by
          unfold shapeO at h3
          split at h3
          · simp only [Bool.and_eq_true, decide_eq_true_eq] at h3
            have := placeC_ok h3.1.1.2
            obtain ⟨⟨⟨⟨e1, e2⟩, _⟩, _⟩, _⟩ := h3
            exact ⟨by omega, by omega, ⟨by omega, by omega, by omega, by omega⟩, this⟩
          · split at h3
            · simp only [Bool.and_eq_true] at h3
              have h5 := placeC_ok h3.1.2
              have h6 := rightC_ok (by simpa using h3.1.1.1)
              exact ⟨by omega, by omega, ⟨by omega, by omega, by omega, by omega⟩, h5⟩
            · split at h3
              · simp only [Bool.and_eq_true, decide_eq_true_eq] at h3
                have h6 := rightC_ok (by simpa using h3.1.1.1)
                obtain ⟨e1, e2⟩ := h3.1.2.1
                exact ⟨by omega, by omega, ⟨by omega, by omega, by omega, by omega⟩, by omega, by omega, by omega, by omega⟩
              · split at h3
                · simp only [Bool.and_eq_true, decide_eq_true_eq] at h3
                  have h6 := rightC_ok (by simpa using h3.1.1.1)
                  obtain ⟨e1, e2⟩ := h3.1.2.1
                  exact ⟨by omega, by omega, ⟨by omega, by omega, by omega, by omega⟩, by omega, by omega, by omega, by omega⟩
                · cases h3
        obtain ⟨k1, k2, ⟨n1, n2, n3, n4⟩, p1, p2, p3, p4⟩ := key
        intro n hn
        simp only [numsO, List.mem_cons, List.mem_nil_iff, or_false] at hn
        rcases hn with rfl | rfl | rfl | rfl | rfl | rfl | rfl | rfl | rfl <;> omega
      · cases h
theorem ba_self (s : ByteArray) : (⟨s.data.toList.toArray⟩ : ByteArray) = s := by
  cases s; simp
/-- Its bytes are read as it. -/
theorem dec_enc {x : Opr} (h : rightO x = 0) (hn : x.name.size ≤ 100000) (hm : x.man.size ≤ 100000) : decO (encL x) = (x, 0) := by
  have hb := right_small h
  have b : ∀ n ∈ numsO x, -9223372036854775808 ≤ n ∧ n ≤ 9223372036854775807 := fun n hn => by have := hb n hn; omega
  simp only [numsO, List.mem_cons, List.mem_nil_iff, or_false, forall_eq_or_imp, forall_eq] at b
  obtain ⟨b1, b2, b3, b4, b5, b6, b7, b8, b9⟩ := b
  have e : encL x = numL x.cnt ++ (numL x.who ++ (numL x.seq ++ (numL x.kind ++ (numL x.nc ++ (numL x.nw ++ (numL (dirO x.dir) ++ (numL x.pc ++ (numL x.pw ++ (textL x.name.data.toList ++ (textL x.man.data.toList ++ [])))))))))) := by
    simp [encL, flatN, numsO]
  have := decO_eq (l := encL x) (by rw [e]; exact num_numL b1.1 b1.2 _) (num_numL b2.1 b2.2 _) (num_numL b3.1 b3.2 _) (num_numL b4.1 b4.2 _) (num_numL b5.1 b5.2 _) (num_numL b6.1 b6.2 _) (num_numL b7.1 b7.2 _) (num_numL b8.1 b8.2 _) (num_numL b9.1 b9.2 _) (text_textL (by rw [← size_eq]; omega) _) (text_textL (by rw [← size_eq]; omega) [])
  obtain ⟨h1, h2, h3⟩ := this
  have hr : readO (encL x) = x := by
    rw [h1, ba_self, ba_self]
    have : (dirO x.dir == 1) = x.dir := by unfold dirO; cases x.dir <;> rfl
    rw [this]
  unfold decO
  rw [h3, if_neg (by simp [Rd.fin]), h2, hr, if_neg]
  rintro (h4 | h4 | h4)
  · unfold dirO at h4; split at h4 <;> omega
  · unfold dirO at h4; split at h4 <;> omega
  · exact h4 h
/-- Bytes that are read as an operation are its bytes, and it may be. -/
theorem enc_dec {l : List UInt8} {y : Opr} (h : decO l = (y, 0)) : rightO y = 0 ∧ encL y = l := by
  obtain ⟨a1, r1, h1⟩ := pair_of (Rd.num ⟨0, l⟩)
  obtain ⟨a2, r2, h2⟩ := pair_of r1.num
  obtain ⟨a3, r3, h3⟩ := pair_of r2.num
  obtain ⟨a4, r4, h4⟩ := pair_of r3.num
  obtain ⟨a5, r5, h5⟩ := pair_of r4.num
  obtain ⟨a6, r6, h6⟩ := pair_of r5.num
  obtain ⟨a7, r7, h7⟩ := pair_of r6.num
  obtain ⟨a8, r8, h8⟩ := pair_of r7.num
  obtain ⟨a9, r9, h9⟩ := pair_of r8.num
  obtain ⟨s1, r10, h10⟩ := pair_of r9.text
  obtain ⟨s2, r11, h11⟩ := pair_of r10.text
  obtain ⟨hR, hD, hF⟩ := decO_eq h1 h2 h3 h4 h5 h6 h7 h8 h9 h10 h11
  unfold decO at h
  rw [hF, hD] at h
  split at h
  · rename_i hf
    simp only [Prod.mk.injEq] at h
    exact absurd h.2 hf
  · rename_i hf
    split at h
    · simp at h
    · rename_i hc
      simp only [Prod.mk.injEq, and_true] at h
      subst h
      have hc1 : rightO (readO l) = 0 := by
        by_cases h4 : rightO (readO l) = 0
        · exact h4
        · exact absurd (.inr (.inr h4)) hc
      refine ⟨hc1, ?_⟩
      obtain ⟨e11, n11⟩ := fin_back (r := r11) (by by_cases h4 : r11.fin = 0; exact h4; exact absurd h4 hf)
      obtain ⟨e10, n10⟩ := otext_back h11 e11
      obtain ⟨e9, n9⟩ := otext_back h10 e10
      obtain ⟨e8, n8⟩ := onum_back h9 e9
      obtain ⟨e7, n7⟩ := onum_back h8 e8
      obtain ⟨e6, n6⟩ := onum_back h7 e7
      obtain ⟨e5, n5⟩ := onum_back h6 e6
      obtain ⟨e4, n4⟩ := onum_back h5 e5
      obtain ⟨e3, n3⟩ := onum_back h4 e4
      obtain ⟨e2, n2⟩ := onum_back h3 e3
      obtain ⟨e1, n1⟩ := onum_back h2 e2
      obtain ⟨_, n0⟩ := onum_back h1 e1
      have hd : dirO (a7 == 1) = a7 := by
        have : a7 = 0 ∨ a7 = 1 := by omega
        rcases this with rfl | rfl <;> rfl
      rw [hR]
      have e : l = numL a1 ++ (numL a2 ++ (numL a3 ++ (numL a4 ++ (numL a5 ++ (numL a6 ++ (numL a7 ++ (numL a8 ++ (numL a9 ++ (textL s1 ++ (textL s2 ++ [])))))))))) := by
        rw [← n11, ← n10, ← n9, ← n8, ← n7, ← n6, ← n5, ← n4, ← n3, ← n2, ← n1]
        exact n0
      rw [e]
      simp [encL, flatN, numsO, hd]
theorem dec_none {l : List UInt8} {y : Opr} {e : Int} (h : decO l = (y, e)) (he : e ≠ 0) : y = noOpr := by
  unfold decO at h
  split at h
  · simp only [Prod.mk.injEq] at h; exact h.1.symm
  · split at h
    · simp only [Prod.mk.injEq] at h; exact h.1.symm
    · simp only [Prod.mk.injEq] at h; exact absurd h.2.symm he
end Go.Proofs.YtgglheelhbfgiaaGreatDoor

namespace Go.Proofs.YtgglheelhbfgiaaGreatDoor
open Go Go.RowKit
theorem nameS_inj {i j : Nat} (h : nameS i = nameS j) : i = j := by
  refine decDigits_inj i j ?_
  have := congrArg (fun b : ByteArray => b.data.toList) h
  simpa [nameS, mkB] using this
theorem mkB_list (l : List UInt8) : (mkB l).data.toList = l := rfl
theorem mkB_of (s : ByteArray) : mkB s.data.toList = s := rfl
theorem mkB_size (l : List UInt8) : (mkB l).size = l.length := by simp [mkB, ByteArray.size]
def framesF : Nat → List (List UInt8) → List UInt8
  | _, [] => []
  | n, s :: r => frameL n s ++ framesF (n + 1) r
theorem framesF_append : ∀ (a b : List (List UInt8)) (n : Nat), framesF n (a ++ b) = framesF n a ++ framesF (n + a.length) b
  | [], b, n => by simp [framesF]
  | s :: r, b, n => by
    rw [List.cons_append, framesF, framesF, framesF_append r b (n + 1), List.append_assoc, List.length_cons, show n + 1 + r.length = n + (r.length + 1) by omega]
/-- What a file holds of records. -/
def fileL (R : List (List UInt8)) (k : Nat) : List UInt8 := framesF (8 * k) ((R.drop (8 * k)).take 8)
theorem file_none {R : List (List UInt8)} {k : Nat} (h : R.length ≤ 8 * k) : fileL R k = [] := by
  unfold fileL
  rw [List.drop_eq_nil_of_le h]
  rfl
theorem file_take_lt {R : List (List UInt8)} {i k : Nat} (h : 8 * k + 8 ≤ i) : fileL (R.take i) k = fileL R k := by
  unfold fileL
  rw [List.drop_take, List.take_take, Nat.min_eq_left (by omega)]
theorem file_take_ge {R : List (List UInt8)} {i k : Nat} (h : i ≤ 8 * k) : fileL (R.take i) k = [] := file_none (by rw [List.length_take]; omega)
/-- A file with one record more. -/
theorem file_snoc {R : List (List UInt8)} {i : Nat} {s : List UInt8} (h : R[i]? = some s) : fileL (R.take (i + 1)) (i / 8) = fileL (R.take i) (i / 8) ++ frameL i s := by
  have hi : i < R.length := by
    refine Classical.byContradiction fun hn => ?_
    rw [List.getElem?_eq_none (by omega)] at h
    cases h
  unfold fileL
  have e : ∀ j, j ≤ 8 * (i / 8) + 8 → ((R.take j).drop (8 * (i / 8))).take 8 = (R.drop (8 * (i / 8))).take (j - 8 * (i / 8)) := fun j hj => by
    rw [List.drop_take, List.take_take, Nat.min_eq_right (by omega)]
  rw [e (i + 1) (by omega), e i (by omega), show i + 1 - 8 * (i / 8) = (i - 8 * (i / 8)) + 1 by omega, List.take_add_one, List.getElem?_drop, show 8 * (i / 8) + (i - 8 * (i / 8)) = i by omega, h, Option.toList_some, framesF_append, List.length_take, List.length_drop, show 8 * (i / 8) + min (i - 8 * (i / 8)) (R.length - 8 * (i / 8)) = i by omega]
  simp [framesF]
theorem file_snoc_other {R : List (List UInt8)} {i k : Nat} (hk : k ≠ i / 8) : fileL (R.take (i + 1)) k = fileL (R.take i) k := by
  by_cases h : k < i / 8
  · rw [file_take_lt (by omega), file_take_lt (by omega)]
  · rw [file_take_ge (by omega), file_take_ge (by omega)]
/-- A file holds its first records, and then the others. -/
theorem file_pre {R : List (List UInt8)} {i : Nat} (k : Nat) : ∃ more, fileL R k = fileL (R.take i) k ++ more := by
  by_cases h1 : 8 * k + 8 ≤ i
  · exact ⟨[], by rw [file_take_lt h1, List.append_nil]⟩
  · refine ⟨framesF (8 * k + (((R.take i).drop (8 * k)).take 8).length) (((R.drop (8 * k)).take 8).drop ((((R.take i).drop (8 * k)).take 8).length)), ?_⟩
    unfold fileL
    rw [← framesF_append]
    congr 1
    have e : ((R.take i).drop (8 * k)).take 8 = (((R.drop (8 * k)).take 8)).take (i - 8 * k) := by
      rw [List.drop_take, List.take_take, List.take_take, Nat.min_comm]
    rw [e]
    conv => lhs; rw [← List.take_append_drop (i - 8 * k) ((R.drop (8 * k)).take 8)]
    rw [List.length_take]
    congr 1
    by_cases h2 : i - 8 * k ≤ ((R.drop (8 * k)).take 8).length
    · rw [Nat.min_eq_left h2]
    · rw [Nat.min_eq_right (by omega), List.drop_eq_nil_of_le (by omega), List.drop_eq_nil_of_le (Nat.le_refl _)]
theorem file_next {R : List (List UInt8)} {i : Nat} {s : List UInt8} (h : R[i]? = some s) : ∃ more, fileL R (i / 8) = fileL (R.take i) (i / 8) ++ (frameL i s ++ more) := by
  obtain ⟨more, e⟩ := file_pre (R := R) (i := i + 1) (i / 8)
  exact ⟨more, by rw [e, file_snoc h, List.append_assoc]⟩
/-- What may stand on a disk that has these records and no more. -/
structure DirtyF (now : Fls) (R : List (List UInt8)) : Prop where
  len : R.length ≤ 800
  right : ∀ s ∈ R, recOk s = true
  has : ∀ k, k < 100 → ∃ more, (hasD now (nameS k)).data.toList = fileL R k ++ more
  ends : R.length < 800 → firstL ((hasD now (nameS (R.length / 8))).data.toList.drop (fileL R (R.length / 8)).length) R.length = none
def EndsOf (R : List (List UInt8)) (E : Ends) : Prop := (E.map (·.1)).Nodup ∧ (∀ k, endOf E (nameS k) = (fileL R k).length) ∧ ∀ p, (∀ k, p ≠ nameS k) → endOf E p = 0
theorem ends_none (R : List (List UInt8)) : EndsOf (R.take 0) [] := ⟨List.nodup_nil, fun k => by rw [file_take_ge (Nat.zero_le _)]; rfl, fun _ _ => rfl⟩
theorem ends_snoc {R : List (List UInt8)} {i : Nat} {s : List UInt8} {E : Ends} (h : R[i]? = some s) (hE : EndsOf (R.take i) E) : EndsOf (R.take (i + 1)) (putK E (nameS (i / 8)) (endOf E (nameS (i / 8)) + (frameL i s).length)) := by
  obtain ⟨h1, h2, h3⟩ := hE
  refine ⟨keysK_put _ _ _ h1, fun k => ?_, fun p hp => ?_⟩
  · unfold endOf
    rw [findK_put h1]
    by_cases hk : k = i / 8
    · subst hk
      rw [if_pos rfl, file_snoc h, List.length_append]
      show endOf E (nameS (i / 8)) + ((frameL i s).length : Int) = _
      rw [h2]
      omega
    · rw [if_neg (fun e => hk (nameS_inj e)), file_snoc_other hk]
      exact h2 k
  · unfold endOf
    rw [findK_put h1, if_neg (hp _)]
    exact h3 p hp
theorem scan_from {now : Fls} {R : List (List UInt8)} (h : DirtyF now R) : ∀ (m i : Nat) (E : Ends), R.length - i = m → i ≤ R.length → EndsOf (R.take i) E →
    ∃ E', scanG now (800 - i) ((R.take i).map mkB) E = (R.map mkB, E') ∧ EndsOf R E' := by
  intro m
  induction m with
  | zero =>
    intro i E hm hi hE
    obtain rfl : i = R.length := by omega
    rw [List.take_length] at *
    refine ⟨E, ?_, hE⟩
    by_cases h8 : R.length = 800
    · rw [h8]
      rfl
    · have hl := h.len
      have hn := h.ends (by omega)
      obtain ⟨f, hf⟩ : ∃ f, 800 - R.length = f + 1 := ⟨800 - R.length - 1, by omega⟩
      rw [hf, scanG]
      simp only [List.length_map]
      rw [hE.2.1, Int.toNat_natCast, hn]
  | succ m ih =>
    intro i E hm hi hE
    have hl := h.len
    obtain ⟨s, hs⟩ : ∃ s, R[i]? = some s := ⟨_, List.getElem?_eq_getElem (by omega)⟩
    have hlen : ((R.take i).map mkB).length = i := by rw [List.length_map, List.length_take]; omega
    obtain ⟨f, hf⟩ : ∃ f, 800 - i = f + 1 := ⟨800 - i - 1, by omega⟩
    obtain ⟨more, hmo⟩ := h.has (i / 8) (by omega)
    obtain ⟨more2, hmo2⟩ := file_next hs
    have hfirst : firstL ((hasD now (nameS (i / 8))).data.toList.drop (endOf E (nameS (i / 8))).toNat) i = some (s, (frameL i s).length) := by
      rw [hE.2.1, Int.toNat_natCast, hmo, hmo2, List.append_assoc, List.drop_left', List.append_assoc]
      · exact first_frame (by omega) (h.right s (List.mem_of_getElem? hs)) _
      · rfl
    rw [hf, scanG, hlen, hfirst]
    dsimp only
    have e2 : (R.take i).map mkB ++ [mkB s] = (R.take (i + 1)).map mkB := by
      rw [List.take_add_one, hs, Option.toList_some, List.map_append]
      rfl
    rw [e2, show f = 800 - (i + 1) by omega]
    exact ih (i + 1) _ (by omega) (by omega) (ends_snoc hs hE)
/-- The records that are found. -/
theorem scan_dirty {now : Fls} {R : List (List UInt8)} (h : DirtyF now R) : ∃ E, scanG now 800 [] [] = (R.map mkB, E) ∧ EndsOf R E :=
  scan_from h _ 0 [] rfl (Nat.zero_le _) (ends_none R)
end Go.Proofs.YtgglheelhbfgiaaGreatDoor

namespace Go.Proofs.YtgglheelhbfgiaaGreatDoor
open Go Go.RowKit
theorem hasD_put {now : Fls} (hn : (now.map (·.1)).Nodup) (p s q : ByteArray) : hasD (putK now p s) q = if q = p then s else hasD now q := by
  unfold hasD
  rw [findK_put hn]
  split <;> rfl
structure NamesOK (now : Fls) : Prop where
  nodup : (now.map (·.1)).Nodup
  names : ∀ p, (findK now p).isSome = true → ∃ k, k < 100 ∧ p = nameS k
  small : ∀ p, (hasD now p).size ≤ 16300
theorem NamesOK.put {now : Fls} (h : NamesOK now) {k : Nat} (hk : k < 100) {s : ByteArray} (hs : s.size ≤ 16300) : NamesOK (putK now (nameS k) s) := by
  refine ⟨keysK_put _ _ _ h.nodup, fun p hp => ?_, fun p => ?_⟩
  · rw [findK_put h.nodup] at hp
    split at hp
    · exact ⟨k, hk, ‹_›⟩
    · exact h.names p hp
  · rw [hasD_put h.nodup]
    split
    · exact hs
    · exact h.small p
theorem hasD_none {now : Fls} {p : ByteArray} (h : findK now p = none) : hasD now p = noB := by
  unfold hasD
  rw [h]
  rfl
theorem hasD_some {now : Fls} {p s : ByteArray} (h : findK now p = some s) : hasD now p = s := by
  unfold hasD
  rw [h]
  rfl
theorem size_list (s : ByteArray) : s.size = s.data.toList.length := rfl
theorem short_list (s : ByteArray) (n : Nat) : (shortB s n).data.toList = s.data.toList.take n := by
  unfold shortB
  rw [ByteArray.data_extract, Array.toList_extract, List.extract_eq_take_drop, List.drop_zero, Nat.sub_zero, size_list]
  by_cases h : s.data.toList.length ≤ n
  · rw [Nat.min_eq_left h, List.take_of_length_le (Nat.le_refl _), List.take_of_length_le h]
  · rw [Nat.min_eq_right (by omega)]
theorem short_size (s : ByteArray) (n : Nat) : (shortB s n).size ≤ s.size := by
  unfold shortB
  rw [ByteArray.size_extract]
  omega
/-- All is there, and nothing else. -/
structure CleanF (now : Fls) (R : List (List UInt8)) : Prop where
  len : R.length ≤ 800
  right : ∀ s ∈ R, recOk s = true
  has : ∀ k, k < 100 → (hasD now (nameS k)).data.toList = fileL R k
theorem CleanF.dirty {now : Fls} {R : List (List UInt8)} (h : CleanF now R) : DirtyF now R := by
  refine ⟨h.len, h.right, fun k hk => ⟨[], by rw [h.has k hk, List.append_nil]⟩, fun hl => ?_⟩
  rw [h.has _ (by omega), List.drop_eq_nil_of_le (Nat.le_refl _)]
  exact first_nil _
def KeepsA (E : Ends) (a : ActD) : Prop := a.cut = true ∧ (a.n : Int) = endOf E a.name
theorem cut_dirty {now : Fls} {R : List (List UInt8)} {E : Ends} {a : ActD} (torn : Bool) (hN : NamesOK now) (hd : DirtyF now R) (hE : EndsOf R E) (ha : KeepsA E a) :
    DirtyF (doD now a torn) R ∧ NamesOK (doD now a torn) ∧ (∀ p, (findK (doD now a torn) p).isSome = (findK now p).isSome) ∧ (∀ p, p ≠ a.name → hasD (doD now a torn) p = hasD now p) ∧ (hasD (doD now a torn) a.name).size ≤ a.n := by
  obtain ⟨cut, name, n, data⟩ := a
  obtain ⟨rfl, hn⟩ := ha
  dsimp only at hn
  unfold doD
  rw [if_pos rfl]
  dsimp only
  cases hf : findK now name with
  | none =>
    refine ⟨hd, hN, fun _ => rfl, fun _ _ => rfl, ?_⟩
    dsimp only
    rw [hasD_none hf]
    exact Nat.zero_le _
  | some s =>
    dsimp only
    obtain ⟨k, hk, rfl⟩ := hN.names name (by rw [hf]; rfl)
    have hs := hasD_some hf
    have hss := hN.small (nameS k)
    rw [hs] at hss
    have hnk : n = (fileL R k).length := by
      have := hE.2.1 k
      omega
    have hsz := short_size s n
    refine ⟨⟨hd.len, hd.right, fun j hj => ?_, fun hl => ?_⟩, hN.put hk (by omega), fun p => ?_, fun p hp => ?_, ?_⟩
    · rw [hasD_put hN.nodup]
      split
      · rename_i e
        obtain rfl := nameS_inj e
        obtain ⟨more, hm⟩ := hd.has j hj
        rw [hs] at hm
        refine ⟨[], ?_⟩
        rw [short_list, hm, List.append_nil, hnk, List.take_left']
        rfl
      · exact hd.has j hj
    · rw [hasD_put hN.nodup]
      split
      · rename_i e
        have e2 := nameS_inj e
        rw [short_list, hnk, e2, List.drop_eq_nil_of_le (by rw [List.length_take]; omega)]
        exact first_nil _
      · exact hd.ends hl
    · rw [findK_put hN.nodup]
      split
      · rename_i e
        rw [e, hf]
        rfl
      · rfl
    · rw [hasD_put hN.nodup, if_neg hp]
    · rw [hasD_put hN.nodup, if_pos rfl, size_list, short_list, List.length_take]
      omega
theorem name_size {k : Nat} (hk : k < 10000) : 5 ≤ (nameS k).size ∧ (nameS k).size ≤ 24 := by
  have h1 := decDigits_small hk
  have h2 : (Lib.decDigits k).length ≠ 0 := fun e => decDigits_ne k (List.length_eq_zero_iff.1 e)
  have h3 : (nameS k).size = 4 + (Lib.decDigits k).length := by
    unfold nameS
    rw [mkB_size, List.length_append]
    rfl
  omega
theorem wrong_none {d : Dk} (hd : d.dead = false) {k : Nat} (hk : k < 10000) {n : Int} (h0 : 0 ≤ n) (h1 : n ≤ d.limit) : wrongD d (nameS k) n = 0 := by
  have := name_size hk
  unfold wrongD
  rw [hd, if_neg (by simp), if_neg (by omega)]
/-- What an act leaves: the disk has died, or it was done. -/
theorem does_cases (d : Dk) (a : ActD) (hd : d.dead = false) :
    ((doesD d a).2 = 42 ∧ (doesD d a).1.dead = true ∧ (doesD d a).1.firm = d.firm ∧ (doesD d a).1.limit = d.limit ∧ (doesD d a).1.acts = d.acts ++ [a] ∧ 0 < d.armed) ∨
    ((doesD d a).2 = 0 ∧ (doesD d a).1.dead = false ∧ (doesD d a).1.firm = d.firm ∧ (doesD d a).1.limit = d.limit ∧ (doesD d a).1.acts = d.acts ++ [a] ∧ (doesD d a).1.now = doD d.now a false ∧ (d.armed ≤ 0 → (doesD d a).1.armed = d.armed)) := by
  unfold doesD
  by_cases h : (diesD { d with acts := d.acts ++ [a] }).dead = true
  · rw [if_pos h]
    refine .inl ⟨rfl, h, ?_, ?_, ?_, ?_⟩
    · unfold diesD; split <;> rfl
    · unfold diesD; split <;> rfl
    · unfold diesD; split <;> rfl
    · unfold diesD at h
      split at h
      · assumption
      · dsimp only at h
        rw [hd] at h
        cases h
  · rw [if_neg h]
    refine .inr ⟨rfl, by simpa using h, ?_, ?_, ?_, rfl, fun h0 => ?_⟩
    · unfold diesD; split <;> rfl
    · unfold diesD; split <;> rfl
    · unfold diesD; split <;> rfl
    · unfold diesD
      rw [if_neg (by dsimp only; omega)]
theorem sync_cases (d : Dk) (hd : d.dead = false) :
    ((syncD d).2 = 42 ∧ (syncD d).1.dead = true ∧ (syncD d).1.firm = d.firm ∧ (syncD d).1.limit = d.limit ∧ (syncD d).1.acts = d.acts ∧ 0 < d.armed) ∨
    ((syncD d).2 = 0 ∧ (syncD d).1.dead = false ∧ (syncD d).1.firm = d.now ∧ (syncD d).1.now = d.now ∧ (syncD d).1.limit = d.limit ∧ (syncD d).1.acts = [] ∧ (d.armed ≤ 0 → (syncD d).1.armed = d.armed)) := by
  unfold syncD
  rw [if_neg (by rw [hd]; simp)]
  by_cases h : (diesD d).dead = true
  · rw [if_pos h]
    refine .inl ⟨rfl, h, ?_, ?_, ?_, ?_⟩
    · unfold diesD; split <;> rfl
    · unfold diesD; split <;> rfl
    · unfold diesD; split <;> rfl
    · unfold diesD at h
      split at h
      · assumption
      · rw [hd] at h
        cases h
  · rw [if_neg h]
    refine .inr ⟨rfl, by simpa using h, rfl, ?_, ?_, rfl, fun h0 => ?_⟩
    · unfold diesD; split <;> rfl
    · unfold diesD; split <;> rfl
    · unfold diesD
      rw [if_neg (by omega)]
/-- The cuts of an opening. -/
theorem cuts_cases {R : List (List UInt8)} {E : Ends} (hE : EndsOf R E) : ∀ (ps : List ByteArray) (d : Dk), d.dead = false → 16300 ≤ d.limit → NamesOK d.now → DirtyF d.now R → (∀ p ∈ ps, (findK d.now p).isSome = true) →
    ∃ cuts : List ActD, (∀ a ∈ cuts, KeepsA E a) ∧
      (((cutsD E ps d).2 = 42 ∧ (cutsD E ps d).1.dead = true ∧ (cutsD E ps d).1.firm = d.firm ∧ (cutsD E ps d).1.limit = d.limit ∧ (cutsD E ps d).1.acts = d.acts ++ cuts ∧ 0 < d.armed) ∨
       ((cutsD E ps d).2 = 0 ∧ (cutsD E ps d).1.dead = false ∧ (cutsD E ps d).1.firm = d.firm ∧ (cutsD E ps d).1.limit = d.limit ∧ (cutsD E ps d).1.acts = d.acts ++ cuts ∧ (d.armed ≤ 0 → (cutsD E ps d).1.armed = d.armed) ∧
         NamesOK (cutsD E ps d).1.now ∧ DirtyF (cutsD E ps d).1.now R ∧ (∀ p, (findK (cutsD E ps d).1.now p).isSome = (findK d.now p).isSome) ∧
         (∀ p, (hasD (cutsD E ps d).1.now p).size ≤ (hasD d.now p).size) ∧ ∀ p ∈ ps, ((hasD (cutsD E ps d).1.now p).size : Int) ≤ endOf E p))
  | [], d, hd, _, hN, hD, _ => ⟨[], by simp, .inr ⟨rfl, hd, rfl, rfl, by rw [List.append_nil]; rfl, fun _ => rfl, hN, hD, fun _ => rfl, fun _ => Nat.le_refl _, by simp⟩⟩
  | p :: r, d, hd, hl, hN, hD, hp => by
    rw [cutsD]
    by_cases hlt : endOf E p < ((hasD d.now p).size : Int)
    · rw [if_pos hlt]
      have hpk := hp p (by simp)
      obtain ⟨k, hk, hpe⟩ := hN.names p hpk
      have hend : endOf E p = ((fileL R k).length : Int) := by rw [hpe]; exact hE.2.1 k
      have hsm := hN.small p
      have hcut : cutD d p (endOf E p) = doesD d ⟨true, p, (endOf E p).toNat, noB⟩ := by
        unfold cutD
        rw [hpe, wrong_none hd (by omega) (by rw [← hpe]; omega) (by rw [← hpe]; omega), if_neg (by simp), ← hpe, if_neg (by cases h : findK d.now p with | none => rw [h] at hpk; cases hpk | some s => simp)]
      have ha : KeepsA E ⟨true, p, (endOf E p).toNat, noB⟩ := ⟨rfl, by dsimp only; omega⟩
      rw [hcut]
      rcases does_cases d ⟨true, p, (endOf E p).toNat, noB⟩ hd with ⟨e1, e2, e3, e4, e5, e6⟩ | ⟨e1, e2, e3, e4, e5, e6, e7⟩
      · rw [if_pos (by rw [e1]; decide)]
        exact ⟨[⟨true, p, (endOf E p).toNat, noB⟩], by simpa using ha, .inl ⟨e1, e2, e3, e4, e5, e6⟩⟩
      · rw [if_neg (by rw [e1]; decide)]
        obtain ⟨c1, c2, c3, c4, c5⟩ := cut_dirty false hN hD hE ha
        rw [← e6] at c1 c2 c3 c4 c5
        obtain ⟨cuts, q1, q2⟩ := cuts_cases hE r (doesD d ⟨true, p, (endOf E p).toNat, noB⟩).1 e2 (by rw [e4]; exact hl) c2 c1 (fun q hq => by rw [c3]; exact hp q (by simp [hq]))
        have hle : ∀ q, (hasD (doesD d ⟨true, p, (endOf E p).toNat, noB⟩).1.now q).size ≤ (hasD d.now q).size := fun q => by
          by_cases hq : q = p
          · subst hq
            dsimp only at c5
            omega
          · rw [c4 q hq]
            exact Nat.le_refl _
        refine ⟨⟨true, p, (endOf E p).toNat, noB⟩ :: cuts, ?_, ?_⟩
        · intro a haa
          rcases List.mem_cons.1 haa with rfl | haa
          · exact ha
          · exact q1 a haa
        · rcases q2 with ⟨f1, f2, f3, f4, f5, f6⟩ | ⟨f1, f2, f3, f4, f5, f6, f7, f8, f9, f10, f11⟩
          · refine .inl ⟨f1, f2, f3.trans e3, f4.trans e4, by rw [f5, e5, List.append_assoc]; rfl, ?_⟩
            refine Classical.byContradiction fun h0 => ?_
            rw [e7 (by omega)] at f6
            exact h0 f6
          · refine .inr ⟨f1, f2, f3.trans e3, f4.trans e4, by rw [f5, e5, List.append_assoc]; rfl, fun h => (by rw [f6 (by rw [e7 h]; exact h), e7 h]), f7, f8, fun q => (f9 q).trans (c3 q), fun q => Nat.le_trans (f10 q) (hle q), fun q hq => ?_⟩
            rcases List.mem_cons.1 hq with rfl | hq
            · have := f10 q
              dsimp only at c5
              omega
            · exact f11 q hq
    · rw [if_neg hlt]
      obtain ⟨cuts, q1, q2⟩ := cuts_cases hE r d hd hl hN hD (fun q hq => hp q (by simp [hq]))
      refine ⟨cuts, q1, ?_⟩
      rcases q2 with q2 | ⟨f1, f2, f3, f4, f5, f6, f7, f8, f9, f10, f11⟩
      · exact .inl q2
      · refine .inr ⟨f1, f2, f3, f4, f5, f6, f7, f8, f9, f10, fun q hq => ?_⟩
        rcases List.mem_cons.1 hq with rfl | hq
        · have := f10 q
          omega
        · exact f11 q hq
theorem clean_of {now : Fls} {R : List (List UInt8)} {E : Ends} (hD : DirtyF now R) (hE : EndsOf R E) (h : ∀ p, (findK now p).isSome = true → ((hasD now p).size : Int) ≤ endOf E p) : CleanF now R := by
  refine ⟨hD.len, hD.right, fun k hk => ?_⟩
  obtain ⟨more, hm⟩ := hD.has k hk
  rw [hm]
  have : more = [] := by
    cases hf : findK now (nameS k) with
    | none =>
      rw [hasD_none hf] at hm
      exact (List.append_eq_nil_iff.1 hm.symm).2
    | some s =>
      have h1 := h (nameS k) (by rw [hf]; rfl)
      rw [hE.2.1, size_list, hm, List.length_append] at h1
      exact List.length_eq_zero_iff.1 (by omega)
  rw [this, List.append_nil]
theorem isSome_of_mem {now : Fls} {p : ByteArray} (h : p ∈ namesD ⟨0, now, [], [], 0, false⟩) : (findK now p).isSome = true := mem_keysK.1 h
/-- What an opening does where such records are. -/
theorem open_dirty {d : Dk} {R : List (List UInt8)} (hd : d.dead = false) (hl : 16300 ≤ d.limit) (hN : NamesOK d.now) (hD : DirtyF d.now R) :
    ∃ (E : Ends) (cuts : List ActD), EndsOf R E ∧ (∀ a ∈ cuts, KeepsA E a) ∧
      (((openD d).log = none ∧ (openD d).out = [] ∧ (openD d).err = 42 ∧ (openD d).d.dead = true ∧ (openD d).d.firm = d.firm ∧ (openD d).d.limit = d.limit ∧ (openD d).d.acts = d.acts ++ cuts ∧ 0 < d.armed) ∨
       ((openD d).log = some ⟨R.length, (fileL R (R.length / 8)).length, false⟩ ∧ (openD d).out = R.map mkB ∧ (openD d).err = 0 ∧ (openD d).d.dead = false ∧ (openD d).d.firm = (openD d).d.now ∧ (openD d).d.limit = d.limit ∧ (openD d).d.acts = [] ∧ (d.armed ≤ 0 → (openD d).d.armed = d.armed) ∧
         NamesOK (openD d).d.now ∧ CleanF (openD d).d.now R ∧ ∀ p, (findK (openD d).d.now p).isSome = (findK d.now p).isSome)) := by
  obtain ⟨E, hs, hE⟩ := scan_dirty hD
  obtain ⟨cuts, q1, q2⟩ := cuts_cases hE (namesD d) d hd hl hN hD (fun p hp => mem_keysK.1 hp)
  refine ⟨E, cuts, hE, q1, ?_⟩
  unfold openD
  rw [if_neg (by rw [hd]; simp), hs]
  dsimp only
  rcases q2 with ⟨f1, f2, f3, f4, f5, f6⟩ | ⟨f1, f2, f3, f4, f5, f6, f7, f8, f9, f10, f11⟩
  · rw [if_pos (by rw [f1]; decide)]
    exact .inl ⟨rfl, rfl, f1, f2, f3, f4, f5, f6⟩
  · rw [if_neg (by rw [f1]; decide)]
    rcases sync_cases (cutsD E (namesD d) d).1 f2 with ⟨e1, e2, e3, e4, e5, e6⟩ | ⟨e1, e2, e3, e4, e5, e6, e7⟩
    · rw [if_pos (by rw [e1]; decide)]
      refine .inl ⟨rfl, rfl, e1, e2, e3.trans f3, e4.trans f4, e5.trans f5, ?_⟩
      refine Classical.byContradiction fun h0 => ?_
      rw [f6 (by omega)] at e6
      exact h0 e6
    · rw [if_neg (by rw [e1]; decide)]
      refine .inr ⟨by rw [List.length_map, hE.2.1], rfl, rfl, e2, e3.trans e4.symm, e5.trans f4, e6, fun h => (by rw [e7 (by rw [f6 h]; exact h), f6 h]), by rw [e4]; exact f7, ?_, fun p => by rw [e4]; exact f9 p⟩
      dsimp only
      rw [e4]
      exact clean_of f8 hE fun p hp => f11 p (mem_keysK.2 (by rw [← f9 p]; exact hp))
end Go.Proofs.YtgglheelhbfgiaaGreatDoor

