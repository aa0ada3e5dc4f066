/-
  Which names are given, that no two are the same: the plain law.
-/
import Derived.Test.YtopoheggngclaaaDoorNamesPure
import Derived.Test.YtopoheggngclaaaDoorSlices
namespace Go.Proofs.YtopoheggngclaaaDoor
open Go.Lib

def hasB (ss : List ByteArray) (s : ByteArray) : Bool := ss.any fun x => decide (x = s)
theorem hasB_iff {ss : List ByteArray} {s : ByteArray} : hasB ss s = true ↔ s ∈ ss := by
  unfold hasB
  rw [List.any_eq_true]
  exact ⟨fun ⟨x, hx, e⟩ => by rw [← of_decide_eq_true e]; exact hx, fun h => ⟨s, h, decide_eq_true rfl⟩⟩
theorem hasB_not {ss : List ByteArray} {s : ByteArray} : hasB ss s = false ↔ s ∉ ss := by rw [← Bool.not_eq_true, hasB_iff]

def bcopy (s : ByteArray) (n : Nat) : ByteArray := ⟨(copyL s.data.toList n).toArray⟩
def bright (s : ByteArray) : Bool := rightL s.data.toList

theorem decDigits_unf (u : Nat) : decDigits u = if u < 10 then [UInt8.ofNat (48 + u)] else decDigits (u / 10) ++ [UInt8.ofNat (48 + u % 10)] := by
  conv => lhs; rw [decDigits]
  split <;> rfl
theorem decDigits_inj : ∀ (u v : Nat), decDigits u = decDigits v → u = v := by
  intro u
  induction u using Nat.strongRecOn with
  | _ u ih =>
    intro v h
    have hlen : ∀ u, 1 ≤ (decDigits u).length := fun u => by rw [decDigits]; split <;> simp
    have hdig : ∀ a b : Nat, a < 10 → b < 10 → UInt8.ofNat (48 + a) = UInt8.ofNat (48 + b) → a = b := by
      intro a b ha hb e
      have := congrArg UInt8.toNat e
      simp only [UInt8.toNat_ofNat'] at this
      omega
    rw [decDigits_unf u, decDigits_unf v] at h
    split at h
    · split at h
      · simp only [List.cons.injEq, and_true] at h
        exact hdig _ _ (by omega) (by omega) h
      · have h1 := congrArg List.length h
        have h2 := hlen (v / 10)
        simp only [List.length_append, List.length_cons, List.length_nil] at h1
        omega
    · split at h
      · have h1 := congrArg List.length h
        have h2 := hlen (u / 10)
        simp only [List.length_append, List.length_cons, List.length_nil] at h1
        omega
      · obtain ⟨h1, h2⟩ := List.append_inj' h rfl
        simp only [List.cons.injEq, and_true] at h2
        have e1 := ih (u / 10) (by omega) (v / 10) h1
        have e2 := hdig _ _ (Nat.mod_lt _ (by omega)) (Nat.mod_lt _ (by omega)) h2
        omega
theorem decDigits_range : ∀ (u : Nat) (c : UInt8), c ∈ decDigits u → 48 ≤ c.toNat ∧ c.toNat ≤ 57 := by
  intro u
  induction u using Nat.strongRecOn with
  | _ u ih =>
    intro c hc
    rw [decDigits] at hc
    have hd : ∀ k, k < 10 → (UInt8.ofNat (48 + k)).toNat = 48 + k := fun k hk => by rw [UInt8.toNat_ofNat']; omega
    split at hc
    · simp only [List.mem_singleton] at hc
      rw [hc, hd u (by assumption)]
      omega
    · simp only [List.mem_append, List.mem_singleton] at hc
      rcases hc with hc | hc
      · exact ih (u / 10) (by omega) c hc
      · rw [hc, hd (u % 10) (by omega)]
        omega
theorem split_last {x : UInt8} : ∀ (A B D E : List UInt8), x ∉ D → x ∉ E → A ++ x :: D = B ++ x :: E → D = E ∧ A = B := by
  intro A
  induction A with
  | nil =>
    intro B D E hD hE h
    cases B with
    | nil => simp at h; exact ⟨h, rfl⟩
    | cons b B =>
      simp only [List.nil_append, List.cons_append, List.cons.injEq] at h
      exact absurd (by rw [h.2]; simp) hD
  | cons a A ih =>
    intro B D E hD hE h
    cases B with
    | nil =>
      simp only [List.nil_append, List.cons_append, List.cons.injEq] at h
      exact absurd (by rw [← h.2]; simp) hE
    | cons b B =>
      simp only [List.cons_append, List.cons.injEq] at h
      obtain ⟨h1, h2⟩ := ih B D E hD hE h.2
      exact ⟨h1, by rw [h.1, h2]⟩
theorem copyOk_inj {l : List UInt8} {m n : Nat} (h : copyOk l m = copyOk l n) : m = n := by
  unfold copyOk tailL at h
  have hnot : ∀ u : Nat, (126 : UInt8) ∉ decDigits u := fun u hu => by
    have := decDigits_range u 126 hu
    simp at this
  have h' : ∀ k : Nat, List.take (24 - (126 :: (decDigits (k : Int).toNat ++ behindL l)).length) (stemL l) ++ 126 :: (decDigits (k : Int).toNat ++ behindL l) = (List.take (24 - (126 :: (decDigits (k : Int).toNat ++ behindL l)).length) (stemL l) ++ 126 :: decDigits k) ++ behindL l := fun k => by simp
  rw [h', h'] at h
  have h2 := List.append_cancel_right h
  exact decDigits_inj _ _ (split_last _ _ _ _ (hnot _) (hnot _) h2).1
theorem bcopy_ok {s : ByteArray} {n : Nat} (h : bright s = true) (h1 : 1 ≤ n) (h2 : n ≤ 9999) : (bcopy s n).data.toList = copyOk s.data.toList n := by
  unfold bcopy
  rw [(copy_right (n := (n : Int)) h (by omega)).1]
theorem bcopy_inj {s : ByteArray} {m n : Nat} (h : bright s = true) (hm1 : 1 ≤ m) (hm2 : m ≤ 9999) (hn1 : 1 ≤ n) (hn2 : n ≤ 9999) (e : bcopy s m = bcopy s n) : m = n := by
  have := congrArg (fun b : ByteArray => b.data.toList) e
  simp only [bcopy_ok h hm1 hm2, bcopy_ok h hn1 hn2] at this
  exact copyOk_inj this

/-- Distinct members of a list are no more than it has. -/
theorem length_le_of_sub {α : Type} [DecidableEq α] : ∀ (l T : List α), l.Nodup → (∀ x ∈ l, x ∈ T) → l.length ≤ T.length := by
  intro l
  induction l with
  | nil => intro T _ _; simp
  | cons a l ih =>
    intro T hn hs
    have hn' := List.nodup_cons.1 hn
    have h1 := ih (T.filter fun x => decide (x ≠ a)) hn'.2 (fun x hx => by
      rw [List.mem_filter]
      exact ⟨hs x (.tail _ hx), decide_eq_true (fun e => hn'.1 (e ▸ hx))⟩)
    have h2 : (T.filter fun x => decide (x ≠ a)).length < T.length := by
      rw [List.length_filter_lt_length_iff_exists]
      exact ⟨a, hs a (.head _), by simp⟩
    simp only [List.length_cons]
    omega

/-- The first copy from k on that T has not, within so many. -/
def nextFrom (T : List ByteArray) (s : ByteArray) : Nat → Nat → Nat
  | 0, k => k
  | f + 1, k => if hasB T (bcopy s k) then nextFrom T s f (k + 1) else k
def nextN (T : List ByteArray) (s : ByteArray) : Nat := nextFrom T s T.length 1
theorem nextFrom_spec (T : List ByteArray) (s : ByteArray) : ∀ f k, k ≤ nextFrom T s f k ∧ nextFrom T s f k ≤ k + f ∧ (∀ j, k ≤ j → j < nextFrom T s f k → bcopy s j ∈ T) ∧ (nextFrom T s f k < k + f → bcopy s (nextFrom T s f k) ∉ T) := by
  intro f
  induction f with
  | zero => intro k; exact ⟨Nat.le_refl _, Nat.le_refl _, fun j h1 h2 => by simp [nextFrom] at h2; omega, fun h => by simp [nextFrom] at h⟩
  | succ f ih =>
    intro k
    unfold nextFrom
    split
    · rename_i hb
      obtain ⟨a, b, c, d⟩ := ih (k + 1)
      refine ⟨by omega, by omega, fun j h1 h2 => ?_, fun h => d (by omega)⟩
      by_cases e : j = k
      · subst e; exact hasB_iff.1 hb
      · exact c j (by omega) h2
    · rename_i hb
      exact ⟨Nat.le_refl _, by omega, fun j h1 h2 => by omega, fun _ => hasB_not.1 (by simpa using hb)⟩
theorem nextN_spec {T : List ByteArray} {s : ByteArray} (hr : bright s = true) (hT : T.length < 9999) :
    1 ≤ nextN T s ∧ nextN T s ≤ T.length + 1 ∧ bcopy s (nextN T s) ∉ T ∧ ∀ j, 1 ≤ j → j < nextN T s → bcopy s j ∈ T := by
  obtain ⟨a, b, c, d⟩ := nextFrom_spec T s T.length 1
  refine ⟨a, by unfold nextN; omega, ?_, c⟩
  intro hm
  have hlast : nextFrom T s T.length 1 = T.length + 1 := by
    rcases Nat.lt_or_ge (nextFrom T s T.length 1) (1 + T.length) with h | h
    · exact absurd hm (d h)
    · omega
  have hall : ∀ j, 1 ≤ j → j ≤ T.length + 1 → bcopy s j ∈ T := fun j h1 h2 => by
    rcases Nat.lt_or_ge j (T.length + 1) with h | h
    · exact c j h1 (by omega)
    · have : j = nextN T s := by unfold nextN; omega
      rw [this]; exact hm
  have hle := length_le_of_sub ((List.range' 1 (T.length + 1)).map (bcopy s)) T (by
    rw [List.nodup_iff_pairwise_ne, List.pairwise_map]
    refine List.Pairwise.imp_of_mem ?_ (List.pairwise_lt_range' (s := 1) (n := T.length + 1))
    intro x y hx hy hxy e
    simp only [List.mem_range'_1] at hx hy
    have := bcopy_inj hr (by omega) (by omega) (by omega) (by omega) e
    omega) (fun x hx => by
      obtain ⟨j, hj, rfl⟩ := List.mem_map.1 hx
      simp only [List.mem_range'_1] at hj
      exact hall j (by omega) (by omega))
  simp at hle
  omega

/-- What is given for the k-th of the names, where O has been given so far. -/
def pickU (ss O : List ByteArray) (k : Nat) : ByteArray :=
  if hasB (ss.take k) (ss.getD k ByteArray.empty) then bcopy (ss.getD k ByteArray.empty) (nextN (ss ++ O) (ss.getD k ByteArray.empty)) else ss.getD k ByteArray.empty
def outU (ss : List ByteArray) : Nat → List ByteArray
  | 0 => []
  | k + 1 => outU ss k ++ [pickU ss (outU ss k) k]
/-- The copies among them. -/
def outG (ss : List ByteArray) : Nat → List ByteArray
  | 0 => []
  | k + 1 => if hasB (ss.take k) (ss.getD k ByteArray.empty) then outG ss k ++ [pickU ss (outU ss k) k] else outG ss k
theorem outU_length (ss : List ByteArray) : ∀ k, (outU ss k).length = k
  | 0 => rfl
  | k + 1 => by simp [outU, outU_length ss k]
theorem outG_length (ss : List ByteArray) : ∀ k, (outG ss k).length ≤ k
  | 0 => Nat.le_refl _
  | k + 1 => by
    have := outG_length ss k
    unfold outG
    split <;> simp <;> omega
theorem mem_outU (ss : List ByteArray) : ∀ k, k ≤ ss.length → ∀ x, (x ∈ ss ++ outU ss k ↔ x ∈ ss ++ outG ss k)
  | 0, _, _ => Iff.rfl
  | k + 1, hk, x => by
    have ih := mem_outU ss k (by omega) x
    unfold outU outG
    split
    · rename_i h
      simp only [List.mem_append, List.mem_singleton] at ih ⊢
      constructor
      · rintro (h | h | h)
        · exact .inl h
        · rcases ih.1 (.inr h) with h | h
          · exact .inl h
          · exact .inr (.inl h)
        · exact .inr (.inr h)
      · rintro (h | h | h)
        · exact .inl h
        · rcases ih.2 (.inr h) with h | h
          · exact .inl h
          · exact .inr (.inl h)
        · exact .inr (.inr h)
    · rename_i h
      have hp : pickU ss (outU ss k) k ∈ ss := by
        unfold pickU
        rw [if_neg h, List.getD_eq_getElem?_getD, List.getElem?_eq_getElem (by omega)]
        exact List.getElem_mem _
      simp only [List.mem_append, List.mem_singleton] at ih ⊢
      constructor
      · rintro (h | h | h)
        · exact .inl h
        · exact ih.1 (.inr h)
        · exact .inl (h ▸ hp)
      · rintro (h | h)
        · exact .inl h
        · rcases ih.2 (.inr h) with h | h
          · exact .inl h
          · exact .inr (.inl h)
def allRight (ss : List ByteArray) : Bool := ss.all bright
def uniqueN (ss : List ByteArray) : Int := if 1000 < ss.length then 40 else if allRight ss then 0 else 23
def uniqueL (ss : List ByteArray) : List ByteArray := if 1000 < ss.length then [] else if allRight ss then outU ss ss.length else []
theorem unique_big {ss : List ByteArray} (h : 1000 < ss.length) : uniqueN ss = 40 ∧ uniqueL ss = [] := by simp [uniqueN, uniqueL, h]
theorem unique_wrong {ss : List ByteArray} (h : ¬ 1000 < ss.length) (h2 : allRight ss = false) : uniqueN ss = 23 ∧ uniqueL ss = [] := by simp [uniqueN, uniqueL, h, h2]
theorem unique_right {ss : List ByteArray} (h : ¬ 1000 < ss.length) (h2 : allRight ss = true) : uniqueN ss = 0 ∧ uniqueL ss = outU ss ss.length := by simp [uniqueN, uniqueL, h, h2]
theorem allRight_bad {ss : List ByteArray} {k : Nat} (hk : k < ss.length) (h : bright (ss.getD k ByteArray.empty) = false) : allRight ss = false := by
  unfold allRight
  rw [List.all_eq_false]
  rw [List.getD_eq_getElem?_getD, List.getElem?_eq_getElem hk] at h
  exact ⟨ss[k], List.getElem_mem hk, by simpa using h⟩
theorem allRight_ok {ss : List ByteArray} (h : ∀ k, k < ss.length → bright (ss.getD k ByteArray.empty) = true) : allRight ss = true := by
  unfold allRight
  rw [List.all_eq_true]
  intro x hx
  obtain ⟨k, hk, e⟩ := List.getElem_of_mem hx
  have := h k hk
  rw [List.getD_eq_getElem?_getD, List.getElem?_eq_getElem hk] at this
  rw [← e]
  simpa using this
theorem allRight_at {ss : List ByteArray} (h : allRight ss = true) {k : Nat} (hk : k < ss.length) : bright (ss.getD k ByteArray.empty) = true := by
  unfold allRight at h
  rw [List.all_eq_true] at h
  rw [List.getD_eq_getElem?_getD, List.getElem?_eq_getElem hk]
  exact h _ (List.getElem_mem hk)
end Go.Proofs.YtopoheggngclaaaDoor
