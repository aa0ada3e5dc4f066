/-
  Numbers and texts as bytes: the plain law. Of no program.
-/
import Derived.Test.YtgglheelhbfgiaaGreatDoorBasics
namespace Go.Proofs.YtgglheelhbfgiaaGreatDoor
open Go Go.RowKit Go.Lib

theorem snoc_ind {α : Type} {p : List α → Prop} (h0 : p []) (h1 : ∀ l b, p l → p (l ++ [b])) (l : List α) : p l := by
  have key : ∀ r : List α, p r.reverse := by
    intro r
    induction r with
    | nil => exact h0
    | cons b r ih => rw [List.reverse_cons]; exact h1 _ _ ih
  have := key l.reverse
  rwa [List.reverse_reverse] at this
/-- The last k bytes of a number, the greatest first. -/
def beF : Nat → Nat → List UInt8
  | 0, _ => []
  | k + 1, u => beF k (u / 256) ++ [UInt8.ofNat (u % 256)]
/-- How many bytes a number has. -/
def widF : Nat → Nat → Nat
  | 0, _ => 0
  | f + 1, u => if u = 0 then 0 else widF f (u / 256) + 1
def wid (u : Nat) : Nat := widF 8 u
def natL (u : Nat) : List UInt8 := UInt8.ofNat (wid u) :: beF (wid u) u
def valL (l : List UInt8) : Nat := l.foldl (fun a b => a * 256 + b.toNat) 0
/-- An int as 64 bits. -/
def u64 (n : Int) : Nat := (n % 18446744073709551616).toNat
def numL (n : Int) : List UInt8 := natL (u64 n)
def textL (s : List UInt8) : List UInt8 := natL s.length ++ s

theorem beF_len : ∀ k u, (beF k u).length = k
  | 0, _ => rfl
  | k + 1, u => by rw [beF, List.length_append, beF_len k]; rfl
theorem valL_snoc (l : List UInt8) (b : UInt8) : valL (l ++ [b]) = valL l * 256 + b.toNat := by
  unfold valL; rw [List.foldl_append]; rfl
theorem valL_beF : ∀ k u, valL (beF k u) = u % 256 ^ k
  | 0, u => by simp [beF, valL, Nat.mod_one]
  | k + 1, u => by
    rw [beF, valL_snoc, valL_beF k, Nat.pow_succ, Nat.mul_comm (256 ^ k) 256, Nat.mod_mul, UInt8.toNat_ofNat']
    omega
theorem valL_lt (l : List UInt8) : valL l < 256 ^ l.length := by
  refine snoc_ind (p := fun l => valL l < 256 ^ l.length) (by simp [valL]) (fun l b ih => ?_) l
  · rw [valL_snoc, List.length_append, List.length_singleton, Nat.pow_succ]
    have := b.toNat_lt
    omega
theorem widF_lt : ∀ f u, u < 256 ^ f → u < 256 ^ (widF f u)
  | 0, u, h => h
  | f + 1, u, h => by
    unfold widF
    split
    · omega
    · have := widF_lt f (u / 256) (by rw [Nat.pow_succ] at h; omega)
      rw [Nat.pow_succ]
      omega
theorem widF_ge : ∀ f u k, widF f u = k + 1 → 256 ^ k ≤ u
  | 0, u, k, h => by simp [widF] at h
  | f + 1, u, k, h => by
    unfold widF at h
    split at h
    · omega
    · cases k with
      | zero => omega
      | succ k =>
        have := widF_ge f (u / 256) k (by omega)
        rw [Nat.pow_succ]
        omega
theorem widF_le : ∀ f u, widF f u ≤ f
  | 0, _ => Nat.le_refl _
  | f + 1, u => by
    unfold widF
    have := widF_le f (u / 256)
    split <;> omega
theorem wid_le (u : Nat) : wid u ≤ 8 := widF_le 8 u
theorem wid_lt {u : Nat} (h : u < 18446744073709551616) : u < 256 ^ wid u := widF_lt 8 u h
theorem wid_ge {u k : Nat} (h : wid u = k + 1) : 256 ^ k ≤ u := widF_ge 8 u k h
/-- The width is the one k that fits. -/
theorem wid_eq {u k : Nat} (h1 : u < 256 ^ k) (h2 : ∀ j, k = j + 1 → 256 ^ j ≤ u) (hk : k ≤ 8) : wid u = k := by
  have hu : u < 18446744073709551616 := Nat.lt_of_lt_of_le h1 (Nat.pow_le_pow_right (by omega) hk)
  have h3 := wid_lt hu
  rcases Nat.lt_trichotomy (wid u) k with a | a | a
  · obtain ⟨j, rfl⟩ : ∃ j, k = j + 1 := ⟨k - 1, by omega⟩
    have := h2 j rfl
    have := Nat.pow_le_pow_right (show 0 < 256 by omega) (show wid u ≤ j by omega)
    omega
  · exact a
  · obtain ⟨j, hj⟩ : ∃ j, wid u = j + 1 := ⟨wid u - 1, by omega⟩
    have := wid_ge hj
    have := Nat.pow_le_pow_right (show 0 < 256 by omega) (show k ≤ j by omega)
    omega
theorem beF_get : ∀ k u t, t < k → (beF k u)[t]? = some (UInt8.ofNat (u / 256 ^ (k - 1 - t)))
  | 0, _, _, h => absurd h (Nat.not_lt_zero _)
  | k + 1, u, t, h => by
    rw [beF]
    by_cases ht : t < k
    · rw [List.getElem?_append_left (by rw [beF_len]; exact ht), beF_get k (u / 256) t ht, Nat.div_div_eq_div_mul]
      have : k + 1 - 1 - t = (k - 1 - t) + 1 := by omega
      rw [this, Nat.pow_succ, Nat.mul_comm]
    · obtain rfl : t = k := by omega
      rw [List.getElem?_append_right (by rw [beF_len]; exact Nat.le_refl _), beF_len]
      simp only [Nat.sub_self, List.getElem?_cons_zero, Nat.add_sub_cancel, Nat.pow_zero, Nat.div_one, Option.some.injEq]
      apply UInt8.toNat_inj.1
      rw [UInt8.toNat_ofNat', UInt8.toNat_ofNat']
      omega
theorem beF_succ_take (k u t : Nat) (h : t < k) : (beF k u).take (t + 1) = (beF k u).take t ++ [UInt8.ofNat (u / 256 ^ (k - 1 - t))] := by
  rw [List.take_add_one, beF_get k u t h]
  rfl
theorem beF_valL (l : List UInt8) : beF l.length (valL l) = l := by
  refine snoc_ind (p := fun l => beF l.length (valL l) = l) rfl (fun l b ih => ?_) l
  · rw [List.length_append, List.length_singleton, valL_snoc, beF]
    have hb := b.toNat_lt
    have e1 : (valL l * 256 + b.toNat) / 256 = valL l := by omega
    have e2 : (valL l * 256 + b.toNat) % 256 = b.toNat := by omega
    rw [e1, e2, ih, UInt8.ofNat_toNat]
theorem valL_first {l : List UInt8} {b : UInt8} {t : List UInt8} (h : l = b :: t) (hb : b ≠ 0) : 256 ^ t.length ≤ valL l := by
  subst h
  have key : ∀ (t : List UInt8) (a : Nat), t.foldl (fun a b => a * 256 + b.toNat) a ≥ a * 256 ^ t.length := by
    intro t
    induction t with
    | nil => intro a; simp
    | cons c t ih =>
      intro a
      rw [List.foldl_cons, List.length_cons, Nat.pow_succ]
      refine Nat.le_trans ?_ (ih _)
      rw [Nat.mul_comm (256 ^ t.length) 256, ← Nat.mul_assoc]
      exact Nat.mul_le_mul_right _ (Nat.le_add_right _ _)
  have h1 := key t b.toNat
  have h2 : 1 ≤ b.toNat := by
    rcases Nat.eq_zero_or_pos b.toNat with h | h
    · exact absurd (by rw [← UInt8.toNat_inj, h]; rfl) hb
    · exact h
  unfold valL
  rw [List.foldl_cons]
  simp only [Nat.zero_mul, Nat.zero_add]
  exact Nat.le_trans (Nat.le_mul_of_pos_left _ h2) h1

/-! ### Bytes that are read -/
structure Rd where
  err : Int
  rest : List UInt8
def Rd.raw (r : Rd) : Nat × Rd :=
  if r.err ≠ 0 then (0, r) else
  match r.rest with
  | [] => (0, ⟨10, []⟩)
  | h :: t => if 8 < h.toNat then (0, ⟨11, []⟩) else if t.length < h.toNat then (0, ⟨10, []⟩) else if h.toNat ≠ 0 ∧ t[0]? = some 0 then (0, ⟨11, []⟩) else (valL (t.take h.toNat), ⟨0, t.drop h.toNat⟩)
def Rd.num (r : Rd) : Int × Rd := (IntKind.i64.wrap r.raw.1, r.raw.2)
def Rd.text (r : Rd) : List UInt8 × Rd :=
  if r.raw.2.err ≠ 0 then ([], r.raw.2) else if r.raw.2.rest.length < r.raw.1 then ([], ⟨10, []⟩) else (r.raw.2.rest.take r.raw.1, ⟨0, r.raw.2.rest.drop r.raw.1⟩)
def Rd.fin (r : Rd) : Int := if r.err ≠ 0 then r.err else if r.rest ≠ [] then 12 else 0

theorem raw_err {r : Rd} (h : r.err ≠ 0) : r.raw = (0, r) := by unfold Rd.raw; rw [if_pos h]
theorem raw_none : Rd.raw ⟨0, []⟩ = (0, ⟨10, []⟩) := rfl
theorem raw_wide {h : UInt8} {t : List UInt8} (h1 : 8 < h.toNat) : Rd.raw ⟨0, h :: t⟩ = (0, ⟨11, []⟩) := by
  unfold Rd.raw; simp [h1]
theorem raw_short {h : UInt8} {t : List UInt8} (h1 : ¬ 8 < h.toNat) (h2 : t.length < h.toNat) : Rd.raw ⟨0, h :: t⟩ = (0, ⟨10, []⟩) := by
  unfold Rd.raw; simp [h1, h2]
theorem raw_zero {h : UInt8} {t : List UInt8} (h1 : ¬ 8 < h.toNat) (h2 : ¬ t.length < h.toNat) (h3 : h.toNat ≠ 0 ∧ t[0]? = some 0) : Rd.raw ⟨0, h :: t⟩ = (0, ⟨11, []⟩) := by
  unfold Rd.raw; simp only [ne_eq, not_true_eq_false, if_false, h1, h2]; rw [if_pos h3]
theorem raw_ok {h : UInt8} {t : List UInt8} (h1 : ¬ 8 < h.toNat) (h2 : ¬ t.length < h.toNat) (h3 : ¬ (h.toNat ≠ 0 ∧ t[0]? = some 0)) : Rd.raw ⟨0, h :: t⟩ = (valL (t.take h.toNat), ⟨0, t.drop h.toNat⟩) := by
  unfold Rd.raw; simp only [ne_eq, not_true_eq_false, if_false, h1, h2]; rw [if_neg h3]
theorem raw_bound (r : Rd) : r.raw.1 < 18446744073709551616 := by
  obtain ⟨e, l⟩ := r
  by_cases he : e = 0
  · subst he
    cases l with
    | nil => rw [raw_none]; decide
    | cons h t =>
      by_cases h1 : 8 < h.toNat
      · rw [raw_wide h1]; decide
      · by_cases h2 : t.length < h.toNat
        · rw [raw_short h1 h2]; decide
        · by_cases h3 : h.toNat ≠ 0 ∧ t[0]? = some 0
          · rw [raw_zero h1 h2 h3]; decide
          · rw [raw_ok h1 h2 h3]
            have := valL_lt (t.take h.toNat)
            have h5 : 256 ^ (t.take h.toNat).length ≤ 256 ^ 8 := Nat.pow_le_pow_right (by omega) (by rw [List.length_take]; omega)
            exact Nat.lt_of_lt_of_le this h5
  · rw [raw_err he]; exact Nat.zero_lt_succ _
/-- A number's bytes are read as it. -/
theorem raw_natL {u : Nat} (hu : u < 18446744073709551616) (rest : List UInt8) : Rd.raw ⟨0, natL u ++ rest⟩ = (u, ⟨0, rest⟩) := by
  unfold natL
  rw [List.cons_append]
  have hw := wid_le u
  have e : (UInt8.ofNat (wid u)).toNat = wid u := by rw [UInt8.toNat_ofNat']; omega
  rw [raw_ok (by omega) (by rw [List.length_append, beF_len]; omega)]
  · rw [e, List.take_left' (beF_len _ _), List.drop_left' (beF_len _ _), valL_beF, Nat.mod_eq_of_lt (wid_lt hu)]
  · rintro ⟨h1, h2⟩
    rw [e] at h1
    obtain ⟨k, hk⟩ : ∃ k, wid u = k + 1 := ⟨wid u - 1, by omega⟩
    rw [hk, List.getElem?_append_left (by rw [beF_len]; omega), beF_get _ _ _ (by omega)] at h2
    have h3 := wid_ge hk
    have h4 := wid_lt hu
    rw [hk, Nat.pow_succ] at h4
    have h5 : u / 256 ^ k < 256 := Nat.div_lt_of_lt_mul h4
    have h6 : 1 ≤ u / 256 ^ k := (Nat.le_div_iff_mul_le (Nat.pow_pos (by omega))).2 (by omega)
    have h7 := congrArg UInt8.toNat (Option.some.inj h2)
    rw [UInt8.toNat_ofNat'] at h7
    simp only [Nat.add_sub_cancel, Nat.sub_zero] at h7
    have h8 : (0 : UInt8).toNat = 0 := rfl
    rw [h8] at h7
    omega
/-- Bytes that are read as a number are its bytes. -/
theorem raw_back {l : List UInt8} {u : Nat} {rest : List UInt8} (h : Rd.raw ⟨0, l⟩ = (u, ⟨0, rest⟩)) : l = natL u ++ rest := by
  cases l with
  | nil => rw [raw_none] at h; simp at h
  | cons b t =>
    by_cases h1 : 8 < b.toNat
    · rw [raw_wide h1] at h; simp at h
    by_cases h2 : t.length < b.toNat
    · rw [raw_short h1 h2] at h; simp at h
    by_cases h3 : b.toNat ≠ 0 ∧ t[0]? = some 0
    · rw [raw_zero h1 h2 h3] at h; simp at h
    rw [raw_ok h1 h2 h3] at h
    simp only [Prod.mk.injEq, Rd.mk.injEq, true_and] at h
    obtain ⟨rfl, rfl⟩ := h
    have hl : (t.take b.toNat).length = b.toNat := by rw [List.length_take]; omega
    have hw : wid (valL (t.take b.toNat)) = b.toNat := by
      refine wid_eq (by have := valL_lt (t.take b.toNat); rwa [hl] at this) (fun j hj => ?_) (by omega)
      cases ht : t with
      | nil => rw [ht] at h2; simp at h2; omega
      | cons c t' =>
        have hc : c ≠ 0 := fun hc => h3 ⟨by omega, by rw [ht, hc]; rfl⟩
        have := valL_first (l := (c :: t').take b.toNat) (b := c) (t := t'.take j) (by rw [hj, List.take_succ_cons]) hc
        rw [List.length_take] at this
        have hl2 : j ≤ t'.length := by rw [ht] at h2; simp at h2; omega
        rwa [Nat.min_eq_left hl2] at this
    unfold natL
    rw [hw, UInt8.ofNat_toNat]
    have := beF_valL (t.take b.toNat)
    rw [hl] at this
    rw [this, List.cons_append, List.take_append_drop]
theorem u64_bound (n : Int) : u64 n < 18446744073709551616 := by unfold u64; omega
theorem u64_nat {n : Nat} (h : n < 18446744073709551616) : u64 n = n := by unfold u64; omega
theorem wrap_u64 {n : Int} (h1 : -9223372036854775808 ≤ n) (h2 : n ≤ 9223372036854775807) : IntKind.i64.wrap (u64 n : Int) = n := by
  simp only [IntKind.wrap, IntKind.signed, IntKind.bits, u64]
  simp
  omega
theorem u64_wrap (u : Nat) (h : u < 18446744073709551616) : u64 (IntKind.i64.wrap (u : Int)) = u := by
  simp only [IntKind.wrap, IntKind.signed, IntKind.bits, u64]
  simp
  omega
end Go.Proofs.YtgglheelhbfgiaaGreatDoor
