/-
  Which manifests rules need: the plain law.
-/
import Derived.Test.YtmhfficfojfknaaProjPure
import Derived.Lib.SlicesCompact
namespace Go.Proofs.Ytmhfficfojfknaa
open Go Go.RowKit Go.Lib

def keyB (b : ByteArray) : List UInt8 := b.data.toList
theorem keyB_inj {a b : ByteArray} (h : keyB a = keyB b) : a = b := ba_ext h
def wantsG (l : List Rul) (x : Itm) : Bool := inG l x && !x.dir && decide (x.man ≠ ⟨#[]⟩)
def needK (l : List Rul) (xs : List Itm) (k : Nat) : List ByteArray := (xs.take k).filterMap fun x => if wantsG l x then some x.man else none
theorem needK_step {l : List Rul} {xs : List Itm} {k : Nat} {x : Itm} (h : xs[k]? = some x) : needK l xs (k + 1) = needK l xs k ++ (if wantsG l x then [x.man] else []) := by
  unfold needK
  rw [List.take_add_one, h, Option.toList_some, List.filterMap_append]
  simp only [List.filterMap_cons, List.filterMap_nil]
  cases wantsG l x <;> rfl
theorem needK_len (l : List Rul) (xs : List Itm) (k : Nat) : (needK l xs k).length ≤ k := by
  unfold needK
  exact Nat.le_trans (List.length_filterMap_le _ _) (by simp; omega)
theorem needK_mem {l : List Rul} {xs : List Itm} {k : Nat} {z : ByteArray} (h : z ∈ needK l xs k) : ∃ x ∈ xs, x.man = z := by
  unfold needK at h
  obtain ⟨x, hx, e⟩ := List.mem_filterMap.1 h
  split at e
  · exact ⟨x, List.mem_of_mem_take hx, by simpa using e⟩
  · cases e
/-- Rising texts, none twice. -/
def Rising (xs : List ByteArray) : Prop := xs.Pairwise fun a b => keyB a < keyB b
theorem rising_one {xs ys : List ByteArray} (hx : Rising xs) (hy : Rising ys) (h : ∀ z, z ∈ xs ↔ z ∈ ys) : xs = ys := by
  have nd : ∀ {l : List ByteArray}, Rising l → l.Nodup := fun {l} hl => List.Pairwise.imp (fun {a b} h e => by subst e; exact List.lt_irrefl _ h) hl
  refine List.Perm.eq_of_pairwise (le := fun a b => keyB a < keyB b) (fun a b _ _ h1 h2 => absurd (List.lt_trans h1 h2) (List.lt_irrefl _)) hx hy ?_
  exact (List.perm_ext_iff_of_nodup (nd hx) (nd hy)).2 h

/-- One more, at its place. -/
theorem rising_put {out : List ByteArray} {m : ByteArray} {at' : Nat} (h : Rising out) (h1 : ∀ y ∈ out.take at', keyB y < keyB m) (h2 : ∀ y, out[at']? = some y → ¬ keyB y < keyB m ∧ y ≠ m) : Rising (out.take at' ++ [m] ++ out.drop at') ∧ ∀ z, z ∈ out.take at' ++ [m] ++ out.drop at' ↔ z ∈ out ∨ z = m := by
  have hgt : ∀ y ∈ out.drop at', keyB m < keyB y := by
    intro y hy
    have hne : at' < out.length := by
      rcases Nat.lt_or_ge at' out.length with h | h
      · exact h
      · rw [List.drop_eq_nil_of_le h] at hy; cases hy
    obtain ⟨h3, h4⟩ := h2 _ (List.getElem?_eq_getElem hne)
    have h0 : keyB m < keyB out[at'] := by
      rcases List.le_total (keyB m) (keyB out[at']) with h5 | h5
      · rcases Decidable.em (keyB m < keyB out[at']) with h6 | h6
        · exact h6
        · exact absurd (keyB_inj (List.le_antisymm (List.not_lt.1 h6) h5)) h4
      · exact absurd (keyB_inj (List.le_antisymm h5 (List.not_lt.1 h3))) h4
    rw [List.drop_eq_getElem_cons hne] at hy
    rcases List.mem_cons.1 hy with rfl | hy
    · exact h0
    · have hp : Rising (out.drop at') := List.Pairwise.drop h
      rw [List.drop_eq_getElem_cons hne] at hp
      exact List.lt_trans h0 ((List.pairwise_cons.1 hp).1 y hy)
  refine ⟨?_, fun z => ?_⟩
  · unfold Rising
    rw [List.append_assoc, List.pairwise_append]
    refine ⟨List.Pairwise.take h, ?_, ?_⟩
    · rw [List.singleton_append, List.pairwise_cons]
      exact ⟨hgt, List.Pairwise.drop h⟩
    · intro a ha b hb
      rw [List.singleton_append, List.mem_cons] at hb
      rcases hb with rfl | hb
      · exact h1 a ha
      · exact List.lt_trans (h1 a ha) (hgt b hb)
  · constructor
    · intro hz
      rw [List.mem_append, List.mem_append, List.mem_singleton] at hz
      rcases hz with (hz | hz) | hz
      · exact .inl (List.mem_of_mem_take hz)
      · exact .inr hz
      · exact .inl (List.mem_of_mem_drop hz)
    · rintro (hz | rfl)
      · rw [← List.take_append_drop at' out, List.mem_append] at hz
        rw [List.mem_append, List.mem_append]
        rcases hz with hz | hz
        · exact .inl (.inl hz)
        · exact .inr hz
      · simp

/-! ### Sorted, then compacted -/
theorem compact_mem (zs : List (List UInt8)) (z : List UInt8) : z ∈ Lib.compact zs ↔ z ∈ zs := by
  unfold Lib.compact compactUpTo
  rw [List.mem_map]
  constructor
  · rintro ⟨j, hj, rfl⟩
    have hj' : j < zs.length := List.mem_range.1 (List.mem_filter.1 hj).1
    simp [getElem!_pos, hj']
  · intro hz
    obtain ⟨j, hj, e⟩ := List.getElem_of_mem hz
    have key : ∀ j, ∀ hj : j < zs.length, ∃ a, a ∈ (List.range zs.length).filter (keeps zs.toArray) ∧ zs.toArray[a]! = zs[j] := by
      intro j
      induction j with
      | zero => intro hj; exact ⟨0, List.mem_filter.2 ⟨List.mem_range.2 hj, by simp [keeps]⟩, by simp [getElem!_pos, hj]⟩
      | succ j ih =>
        intro hj
        by_cases hk : keeps zs.toArray (j + 1) = true
        · exact ⟨j + 1, List.mem_filter.2 ⟨List.mem_range.2 hj, hk⟩, by simp [getElem!_pos, hj]⟩
        · obtain ⟨a, ha, e⟩ := ih (by omega)
          refine ⟨a, ha, e.trans ?_⟩
          have hj2 : j < zs.length := by omega
          have hk' : zs[j + 1] = zs[j] := by simpa [keeps, getElem!_pos, hj, hj2] using hk
          exact hk'.symm
    obtain ⟨a, ha, e2⟩ := key j hj
    exact ⟨a, ha, e2.trans e⟩
theorem compact_rising (zs : List (List UInt8)) (h : zs.Pairwise (· ≤ ·)) : (Lib.compact zs).Pairwise (· < ·) := by
  unfold Lib.compact compactUpTo
  rw [List.pairwise_map, List.pairwise_filter]
  rw [List.pairwise_iff_getElem]
  intro i j hi hj hij _ hk
  simp only [List.length_range] at hi hj
  simp only [List.getElem_range] at hk ⊢
  have hle := List.pairwise_iff_getElem.1 h
  have hj0 : j ≠ 0 := by omega
  have hj1 : j - 1 < zs.length := by omega
  have h1 : zs[i] ≤ zs[j - 1] := by
    by_cases e : i = j - 1
    · subst e; exact List.le_refl _
    · exact hle i (j - 1) hi hj1 (by omega)
  have h2 : zs[j - 1] ≤ zs[j] := hle (j - 1) j hj1 hj (by omega)
  have h3 : zs[j] ≠ zs[j - 1] := by simpa [keeps, hj0, getElem!_pos, hj, hj1] using hk
  have h4 := List.le_trans h1 h2
  simp only [List.getElem!_toArray, getElem!_pos, hi, hj]
  rcases Decidable.em (zs[i] < zs[j]) with h5 | h5
  · exact h5
  · exfalso
    have h6 := List.not_lt.1 h5
    have h7 : zs[i] = zs[j] := List.le_antisymm h4 h6
    rw [h7] at h1
    exact h3 (List.le_antisymm h1 h2)
/-- What slices.Sort and slices.Compact make of texts: rising, and the same ones. -/
theorem sorted_rising (ms : List ByteArray) : ∃ out : List ByteArray, out.map keyB = Lib.compact ((ms.map keyB).mergeSort fun x y => decide (x ≤ y)) ∧ Rising out ∧ ∀ z, z ∈ out ↔ z ∈ ms := by
  have tr : ∀ a b c : List UInt8, decide (a ≤ b) = true → decide (b ≤ c) = true → decide (a ≤ c) = true := fun a b c h1 h2 => by rw [decide_eq_true_eq] at *; exact List.le_trans h1 h2
  have to : ∀ a b : List UInt8, (decide (a ≤ b) || decide (b ≤ a)) = true := fun a b => by rw [Bool.or_eq_true, decide_eq_true_eq, decide_eq_true_eq]; exact List.le_total a b
  have hs : ((ms.map keyB).mergeSort fun x y => decide (x ≤ y)).Pairwise (· ≤ ·) := (List.pairwise_mergeSort tr to (ms.map keyB)).imp fun h => by simpa using h
  have hr := compact_rising _ hs
  have hm := compact_mem ((ms.map keyB).mergeSort fun x y => decide (x ≤ y))
  generalize hcs : Lib.compact ((ms.map keyB).mergeSort fun x y => decide (x ≤ y)) = cs at *
  refine ⟨cs.map fun l => ⟨l.toArray⟩, ?_, ?_, fun z => ?_⟩
  · rw [List.map_map]
    conv => rhs; rw [← List.map_id cs]
    apply List.map_congr_left
    intro l _
    simp [keyB]
  · unfold Rising
    rw [List.pairwise_map]
    exact hr.imp fun h => by simpa [keyB] using h
  · rw [List.mem_map]
    constructor
    · rintro ⟨l, hl, rfl⟩
      have := (hm l).1 hl
      rw [List.mem_mergeSort, List.mem_map] at this
      obtain ⟨a, ha, rfl⟩ := this
      simpa [keyB] using ha
    · intro hz
      refine ⟨keyB z, (hm _).2 ?_, by simp [keyB]⟩
      rw [List.mem_mergeSort]
      exact List.mem_map.2 ⟨z, hz, rfl⟩
end Go.Proofs.Ytmhfficfojfknaa
