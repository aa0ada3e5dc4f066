/-
  Paths and what is in them; that a Remove and a Rename leave a file system in order: plain law.
-/
import Derived.Test.YtgjgeojhhglidaaDoorFsOps
namespace Go.Proofs.YtgjgeojhhglidaaDoor
open Go Go.RowKit Go.Lib

theorem slash_spec (p : ByteArray) : (slashI p < 0 ∧ ∀ x ∈ p.data.toList, x ≠ 47) ∨ ∃ a b, p.data.toList = a ++ 47 :: b ∧ (∀ x ∈ b, x ≠ 47) ∧ slashI p = (a.length : Nat) := by
  have hb : ∀ j (hj : j < p.data.toList.length), p.data[j]! = p.data.toList[j] := fun j hj => by
    rw [getElem!_pos p.data j (by simpa using hj)]
    simp
  unfold slashI
  rcases lastIndexByte_spec p 47 with ⟨e, hn⟩ | ⟨i, hi, e, hc, hn⟩
  · refine .inl ⟨by omega, fun x hx => ?_⟩
    obtain ⟨j, hj, rfl⟩ := List.mem_iff_getElem.1 hx
    have := hn j (by rw [size_eq]; exact hj)
    rw [hb j hj] at this
    intro e2
    rw [e2] at this
    exact this rfl
  · rw [size_eq] at hi hn
    rw [hb i hi] at hc
    have hc' : p.data.toList[i] = 47 := by
      rw [← UInt8.toNat_inj]
      exact Int.ofNat.inj hc
    refine .inr ⟨p.data.toList.take i, p.data.toList.drop (i + 1), ?_, fun x hx => ?_, ?_⟩
    · rw [← hc', ← List.drop_eq_getElem_cons hi, List.take_append_drop]
    · obtain ⟨j, hj, rfl⟩ := List.mem_iff_getElem.1 hx
      rw [List.length_drop] at hj
      have := hn (i + 1 + j) (by omega) (by omega)
      rw [hb (i + 1 + j) (by omega)] at this
      rw [List.getElem_drop]
      intro e2
      rw [e2] at this
      exact this rfl
    · rw [e, List.length_take, Nat.min_eq_left (by omega)]
theorem slash_split {p : ByteArray} {a b : List UInt8} (h : p.data.toList = a ++ 47 :: b) (hb : ∀ x ∈ b, x ≠ 47) : slashI p = (a.length : Nat) := by
  rcases slash_spec p with ⟨_, h2⟩ | ⟨a', b', h1, h2, h3⟩
  · exact absurd rfl (h2 47 (by rw [h]; simp))
  · rw [h3]
    rw [h] at h1
    have : a = a' := by
      rcases List.append_eq_append_iff.1 h1 with ⟨c, h4, h5⟩ | ⟨c, h4, h5⟩
      · cases c with
        | nil => simpa using h4.symm
        | cons y c =>
          simp only [List.cons_append, List.cons.injEq] at h5
          exact absurd rfl (hb 47 (by rw [h5.2]; simp))
      · cases c with
        | nil => simpa using h4
        | cons y c =>
          simp only [List.cons_append, List.cons.injEq] at h5
          exact absurd rfl (h2 47 (by rw [h5.2]; simp))
    rw [this]
theorem slash_neg {p : ByteArray} (h : ∀ x ∈ p.data.toList, x ≠ 47) : slashI p < 0 := by
  rcases slash_spec p with ⟨h1, _⟩ | ⟨a, b, h1, _, _⟩
  · exact h1
  · exact absurd rfl (h 47 (by rw [h1]; simp))
theorem dir_list {p : ByteArray} {a b : List UInt8} (h : p.data.toList = a ++ 47 :: b) (hs : slashI p = (a.length : Nat)) : (p.extract 0 (slashI p).toNat).data.toList = a := by
  rw [hs, Int.toNat_natCast, ← toList_data, extract_toList, h]
  simp

/-! ### right paths -/
def rightsL (l : List UInt8) : Bool := (splitL 47 l).all rightL
theorem path_parts (l : List UInt8) : pathG l = (decide ((splitL 47 l).length ≤ 16) && rightsL l) := by
  unfold pathG rightsL
  congr 1
  rw [Bool.eq_iff_iff, Bool.not_eq_true', List.any_eq_false, List.all_eq_true]
  constructor
  · intro h p hp
    have := h (ba p) (List.mem_map.2 ⟨p, hp, rfl⟩)
    unfold wrongP at this
    rw [ba_data] at this
    simpa using this
  · intro h q hq
    obtain ⟨p, hp, rfl⟩ := List.mem_map.1 hq
    unfold wrongP
    rw [ba_data, h p hp]
    simp
theorem splitL_join (c : UInt8) (b : List UInt8) : ∀ a, splitL c (a ++ c :: b) = splitL c a ++ splitL c b
  | [] => by simp [splitL]
  | x :: a => by
    rw [List.cons_append, splitL, splitL, splitL_join c b a]
    split
    · rfl
    · cases hs : splitL c a with
      | nil => exact absurd hs (splitL_ne c a)
      | cons p ps => rfl
theorem rights_join (a b : List UInt8) : rightsL (a ++ 47 :: b) = (rightsL a && rightsL b) := by
  unfold rightsL
  rw [splitL_join, List.all_append]
theorem rights_nil : rightsL [] = false := rfl
theorem rights_ne {l : List UInt8} (h : rightsL l = true) : l ≠ [] := fun e => by
  rw [e, rights_nil] at h
  cases h
theorem path_rights {l : List UInt8} (h : pathG l = true) : rightsL l = true := by
  rw [path_parts, Bool.and_eq_true] at h
  exact h.2
theorem right_size {l : List UInt8} (h : rightL l = true) : l.length ≤ 24 := by
  unfold rightL at h
  simp only [Bool.and_eq_true, decide_eq_true_eq] at h
  exact h.1.1.1.1.1.2
theorem split_size (c : UInt8) : ∀ l : List UInt8, (∀ p ∈ splitL c l, p.length ≤ 24) → l.length + 1 ≤ 25 * (splitL c l).length
  | [], _ => by simp [splitL]
  | x :: l, h => by
    by_cases hx : x = c
    · rw [splitL, if_pos hx] at h ⊢
      have := split_size c l (fun p hp => h p (List.mem_cons_of_mem _ hp))
      simp only [List.length_cons]
      omega
    · rw [splitL, if_neg hx] at h ⊢
      cases hs : splitL c l with
      | nil => exact absurd hs (splitL_ne c l)
      | cons p ps =>
        rw [hs] at h
        dsimp only at h ⊢
        have h1 := h (x :: p) List.mem_cons_self
        have key : ∀ (l : List UInt8) (p : List UInt8) (ps : List (List UInt8)), splitL c l = p :: ps → l.length = p.length + (ps.map fun q => q.length + 1).sum := by
          intro l
          induction l with
          | nil =>
            intro p ps e
            simp only [splitL, List.cons.injEq] at e
            obtain ⟨rfl, rfl⟩ := e
            rfl
          | cons y l ih =>
            intro p ps e
            rw [splitL] at e
            split at e
            · simp only [List.cons.injEq] at e
              obtain ⟨rfl, e⟩ := e
              cases hl : splitL c l with
              | nil => exact absurd hl (splitL_ne c l)
              | cons q qs =>
                rw [hl] at e
                subst e
                have := ih q qs hl
                simp only [List.length_cons, List.length_nil, List.map_cons, List.sum_cons]
                omega
            · cases hl : splitL c l with
              | nil => exact absurd hl (splitL_ne c l)
              | cons q qs =>
                rw [hl] at e
                simp only [List.cons.injEq] at e
                obtain ⟨rfl, rfl⟩ := e
                have := ih q qs hl
                simp only [List.length_cons]
                omega
        have h2 := key l p ps hs
        have h3 : ∀ ps : List (List UInt8), (∀ q ∈ ps, q.length ≤ 24) → (ps.map fun q => q.length + 1).sum ≤ 25 * ps.length := by
          intro ps
          induction ps with
          | nil => intro _; exact Nat.le_refl _
          | cons q qs ih =>
            intro hq
            have a1 := ih (fun r hr => hq r (List.mem_cons_of_mem _ hr))
            have a2 := hq q List.mem_cons_self
            simp only [List.map_cons, List.sum_cons, List.length_cons]
            omega
        have h4 := h3 ps (fun q hq => h q (List.mem_cons_of_mem _ hq))
        simp only [List.length_cons] at h1 ⊢
        omega
theorem path_size {p : ByteArray} (h : pathG p.data.toList = true) : p.size ≤ 400 := by
  rw [path_parts, Bool.and_eq_true, decide_eq_true_eq] at h
  have := split_size 47 p.data.toList (fun q hq => right_size (List.all_eq_true.1 h.2 q hq))
  rw [size_eq]
  omega
theorem underE_iff {p d : ByteArray} : underB p d = true ↔ ∃ r, r ≠ [] ∧ p.data.toList = d.data.toList ++ 47 :: r := by
  unfold underB
  simp only [Bool.and_eq_true, decide_eq_true_eq]
  constructor
  · rintro ⟨⟨h1, h2⟩, h3⟩
    rw [size_eq, size_eq] at h1
    rw [size_eq] at h2 h3
    refine ⟨p.data.toList.drop (d.data.toList.length + 1), ?_, ?_⟩
    · intro e
      have := List.drop_eq_nil_iff.1 e
      omega
    · have h4 := (List.take_append_drop d.data.toList.length p.data.toList).symm
      rw [h2] at h4
      obtain ⟨hk, e⟩ := List.getElem?_eq_some_iff.1 h3
      rw [List.drop_eq_getElem_cons hk, e] at h4
      exact h4
  · rintro ⟨r, hr, e⟩
    rw [size_eq, size_eq, e]
    have := List.length_pos_iff.2 hr
    refine ⟨⟨?_, ?_⟩, ?_⟩
    · simp only [List.length_append, List.length_cons]
      omega
    · rw [List.take_left]
    · simp
theorem inE_iff {d q : ByteArray} : inE d q = true ↔ q = d ∨ ∃ r, r ≠ [] ∧ q.data.toList = d.data.toList ++ 47 :: r := by
  unfold inE
  rw [Bool.or_eq_true, decide_eq_true_eq, underE_iff]
/-- A right path whose directory is in another is in it. -/
theorem in_up {d q z : ByteArray} (hq : rightsL q.data.toList = true) {b : List UInt8} (h : q.data.toList = z.data.toList ++ 47 :: b) (hz : inE d z = true) : inE d q = true := by
  have hb : b ≠ [] := by
    rw [h, rights_join, Bool.and_eq_true] at hq
    exact rights_ne hq.2
  rw [inE_iff] at hz ⊢
  rcases hz with rfl | ⟨r, hr, e⟩
  · exact .inr ⟨b, hb, h⟩
  · refine .inr ⟨r ++ 47 :: b, by simp, ?_⟩
    rw [h, e]
    simp
/-- A right path's directory, where it has one. -/
theorem up_split {es : List Ent} (hr : Rising es) {p : ByteArray} (h : standsE es p = true) : (∀ x ∈ p.data.toList, x ≠ 47) ∨ ∃ z ∈ es, z.dir = true ∧ ∃ b, p.data.toList = z.path.data.toList ++ 47 :: b ∧ ∀ x ∈ b, x ≠ 47 := by
  rcases (stands_of hr).1 h with h1 | ⟨z, hz, h1, h2⟩
  · rcases slash_spec p with ⟨_, h3⟩ | ⟨a, b, h3, h4, h5⟩
    · exact .inl h3
    · omega
  · rcases slash_spec p with ⟨_, h3⟩ | ⟨a, b, h3, h4, h5⟩
    · exact .inl h3
    · refine .inr ⟨z, hz, h2, b, ?_, h4⟩
      rw [h1, dir_list h3 h5]
      exact h3
theorem up_of {es : List Ent} (hr : Rising es) {p : ByteArray} (h : (∀ x ∈ p.data.toList, x ≠ 47) ∨ ∃ z ∈ es, z.dir = true ∧ ∃ b, p.data.toList = z.path.data.toList ++ 47 :: b ∧ ∀ x ∈ b, x ≠ 47) : standsE es p = true := by
  rw [stands_of hr]
  rcases h with h | ⟨z, hz, hd, b, h1, h2⟩
  · exact .inl (slash_neg h)
  · refine .inr ⟨z, hz, ?_, hd⟩
    rw [← pB_inj, dir_list h1 (slash_split h1 h2)]
theorem ok_remove {f : Fs} (h : FsOK f) (p : ByteArray) : FsOK (removeF f p).1 := by
  unfold removeF
  split
  · exact h
  have hr := rising_filter h.rise fun x => !inE p x.path
  refine ⟨hr, fun x hx => h.path x (List.mem_filter.1 hx).1, fun y hy => ?_, Nat.le_trans (List.length_filter_le _ _) h.few⟩
  obtain ⟨hy1, hy2⟩ := List.mem_filter.1 hy
  refine up_of hr ?_
  rcases up_split h.rise (h.up y hy1) with h1 | ⟨z, hz, hd, b, h1, h2⟩
  · exact .inl h1
  · refine .inr ⟨z, List.mem_filter.2 ⟨hz, ?_⟩, hd, b, h1, h2⟩
    cases hi : inE p z.path with
    | false => rfl
    | true =>
      rw [in_up (path_rights (h.path y hy1)) h1 hi] at hy2
      cases hy2
/-- What a path is within stands. -/
theorem anc {f : Fs} (h : FsOK f) {d : ByteArray} (hd : rightsL d.data.toList = true) : ∀ (n : Nat) (y : Ent), y ∈ f.es → ∀ r, r.length ≤ n → y.path.data.toList = d.data.toList ++ 47 :: r → ∃ z ∈ f.es, z.path = d
  | n, y, hy, r, hn, e => by
    rcases up_split h.rise (h.up y hy) with h1 | ⟨z, hz, _, b, h1, h2⟩
    · exact absurd rfl (h1 47 (by rw [e]; simp))
    · rw [e] at h1
      rcases List.append_eq_append_iff.1 h1 with ⟨c, h4, h5⟩ | ⟨c, h4, h5⟩
      · cases c with
        | nil => exact ⟨z, hz, pB_inj.1 (by simpa using h4)⟩
        | cons x c =>
          simp only [List.cons_append, List.cons.injEq] at h5
          obtain ⟨rfl, h5⟩ := h5
          cases n with
          | zero =>
            rw [h5] at hn
            simp at hn
          | succ n =>
            refine anc h hd n z hz c ?_ h4
            rw [h5] at hn
            simp only [List.length_append, List.length_cons] at hn
            omega
      · cases c with
        | nil => exact ⟨z, hz, pB_inj.1 (by simpa using h4.symm)⟩
        | cons x c =>
          simp only [List.cons_append, List.cons.injEq] at h5
          exact absurd rfl (h2 47 (by rw [h5.2]; simp))
end Go.Proofs.YtgjgeojhhglidaaDoor
