/-
  The library's stable sort in plain Lean: runs of exchanges, rotations, the merge. Of no program.
-/
import Derived.Sort.LotA
import Derived.Sort.Statements
namespace Go.Proofs.YtlenpifjkbcmdaaGreatDoor
open Go.Sort

section
variable {α : Type} [Inhabited α]
/-- n exchanges, from a and from b on. -/
def swpR (d : Array α) (a b : Nat) : Nat → Array α
  | 0 => d
  | n + 1 => swp (swpR d a b n) (a + n) (b + n)
theorem size_swpR (d : Array α) (a b : Nat) : ∀ n, (swpR d a b n).size = d.size
  | 0 => rfl
  | n + 1 => by
    show (swp _ _ _).size = _
    rw [size_swp, size_swpR d a b n]
theorem perm_swpR {d : Array α} {a b lo hi : Nat} : ∀ n, lo ≤ a → a ≤ b → b + n ≤ hi → hi ≤ d.size → PermIn lo hi d (swpR d a b n)
  | 0, _, _, _, _ => permIn_refl _ _ _
  | n + 1, h1, h2, h3, h4 => permIn_trans _ _ _ _ _ (perm_swpR n h1 h2 (by omega) h4) (swp_permIn _ _ _ _ _ (by omega) (by omega) (by omega) (by omega) (by rw [size_swpR]; exact h4))
theorem get_swpR {d : Array α} {a b : Nat} : ∀ n, a + n ≤ b → b + n ≤ d.size → ∀ x, (swpR d a b n)[x]! = if a ≤ x ∧ x < a + n then d[x + (b - a)]! else if b ≤ x ∧ x < b + n then d[x - (b - a)]! else d[x]!
  | 0, _, _, x => by
    rw [if_neg (by omega), if_neg (by omega)]
    rfl
  | n + 1, h1, h2, x => by
    have ih := get_swpR (d := d) (a := a) (b := b) n (by omega) (by omega)
    show (swp _ _ _)[x]! = _
    rw [swp_get _ (by rw [size_swpR]; omega) (by rw [size_swpR]; omega)]
    by_cases e1 : x = b + n
    · rw [if_pos e1, ih, if_neg (by omega), if_neg (by omega), if_neg (by omega), if_pos (by omega)]
      congr 1 <;> omega
    · rw [if_neg e1]
      by_cases e2 : x = a + n
      · rw [if_pos e2, ih, if_neg (by omega), if_neg (by omega), if_pos (by omega)]
        congr 1 <;> omega
      · rw [if_neg e2, ih]
        have i1 : (a ≤ x ∧ x < a + n) ↔ (a ≤ x ∧ x < a + (n + 1)) := by omega
        have i2 : (b ≤ x ∧ x < b + n) ↔ (b ≤ x ∧ x < b + (n + 1)) := by omega
        simp only [i1, i2]
/-- What lies at x behind a rotation of [a, b) about m. -/
def rotF (a m b : Nat) (d : Array α) (x : Nat) : α := if a ≤ x ∧ x < a + (b - m) then d[x + (m - a)]! else if a + (b - m) ≤ x ∧ x < b then d[x - (b - m)]! else d[x]!
theorem rot_gt {d : Array α} {m i j : Nat} (h1 : j < i) (h2 : i ≤ m) (h3 : m + j ≤ d.size) (x : Nat) : rotF (m - i) m (m + j) d x = rotF (m - i + j) m (m + j) (swpR d (m - i) m j) x := by
  have g := get_swpR (d := d) (a := m - i) (b := m) j (by omega) (by omega)
  unfold rotF
  by_cases c1 : x < m - i
  · rw [if_neg (by omega), if_neg (by omega), if_neg (by omega), if_neg (by omega), g, if_neg (by omega), if_neg (by omega)]
  by_cases c2 : x < m - i + j
  · rw [if_pos (by omega), if_neg (by omega), if_neg (by omega), g, if_pos (by omega)]
  by_cases c3 : x < m - i + j + j
  · rw [if_neg (by omega), if_pos (by omega), if_pos (by omega), g]
    by_cases c4 : x + (m - (m - i + j)) < m
    · omega
    · rw [if_neg (by omega), if_pos (by omega)]
      congr 1 <;> omega
  by_cases c5 : x < m + j
  · rw [if_neg (by omega), if_pos (by omega), if_neg (by omega), if_pos (by omega), g]
    rw [if_neg (by omega), if_neg (by omega)]
  · rw [if_neg (by omega), if_neg (by omega), if_neg (by omega), if_neg (by omega), g, if_neg (by omega), if_neg (by omega)]
theorem rot_lt {d : Array α} {m i j : Nat} (h1 : i < j) (h2 : i ≤ m) (h3 : m + j ≤ d.size) (x : Nat) : rotF (m - i) m (m + j) d x = rotF (m - i) m (m + (j - i)) (swpR d (m - i) (m + j - i) i) x := by
  have g := get_swpR (d := d) (a := m - i) (b := m + j - i) i (by omega) (by omega)
  unfold rotF
  by_cases c1 : x < m - i
  · rw [if_neg (by omega), if_neg (by omega), if_neg (by omega), if_neg (by omega), g, if_neg (by omega), if_neg (by omega)]
  by_cases c2 : x < m - i + (j - i)
  · rw [if_pos (by omega), if_pos (by omega), g, if_neg (by omega), if_neg (by omega)]
  by_cases c3 : x < m - i + j
  · rw [if_pos (by omega), if_neg (by omega), if_pos (by omega), g, if_pos (by omega)]
    congr 1 <;> omega
  by_cases c5 : x < m + j
  · rw [if_neg (by omega), if_pos (by omega), if_neg (by omega), if_neg (by omega), g, if_neg (by omega), if_pos (by omega)]
    congr 1 <;> omega
  · rw [if_neg (by omega), if_neg (by omega), if_neg (by omega), if_neg (by omega), g, if_neg (by omega), if_neg (by omega)]
theorem rot_eq {d : Array α} {m i : Nat} (h2 : i ≤ m) (h3 : m + i ≤ d.size) (x : Nat) : rotF (m - i) m (m + i) d x = (swpR d (m - i) m i)[x]! := by
  rw [get_swpR (d := d) (a := m - i) (b := m) i (by omega) (by omega)]
  unfold rotF
  by_cases c1 : x < m - i
  · rw [if_neg (by omega), if_neg (by omega), if_neg (by omega), if_neg (by omega)]
  by_cases c2 : x < m
  · rw [if_pos (by omega), if_pos (by omega)]
  by_cases c3 : x < m + i
  · rw [if_neg (by omega), if_pos (by omega), if_neg (by omega), if_pos (by omega)]
    congr 1 <;> omega
  · rw [if_neg (by omega), if_neg (by omega), if_neg (by omega), if_neg (by omega)]
/-- d' is d with [a, b) rotated about m. -/
structure Rot (a m b : Nat) (d d' : Array α) : Prop where
  perm : PermIn a b d d'
  at_ : ∀ x, d'[x]! = rotF a m b d x

variable {lt : α → α → Bool}
omit [Inhabited α] in
theorem SWO.le_trans (hS : SWO lt) {x y z : α} (h1 : lt y x = false) (h2 : lt z y = false) : lt z x = false := hS.ntrans _ _ _ h2 h1
omit [Inhabited α] in
theorem SWO.lt_of_lt_le (hS : SWO lt) {x y z : α} (h1 : lt x y = true) (h2 : lt z y = false) : lt x z = true := by
  cases h : lt x z with
  | true => rfl
  | false => rw [hS.ntrans _ _ _ h h2] at h1; cases h1
omit [Inhabited α] in
theorem SWO.lt_of_le_lt (hS : SWO lt) {x y z : α} (h1 : lt y x = false) (h2 : lt y z = true) : lt x z = true := by
  cases h : lt x z with
  | true => rfl
  | false => rw [hS.ntrans _ _ _ h1 h] at h2; cases h2
theorem sorted_at {a b : Nat} {d : Array α} (hS : SWO lt) (h : SortedIn lt a b d) {i j : Nat} (h1 : a ≤ i) (h2 : i ≤ j) (h3 : j < b) : lt d[j]! d[i]! = false := by
  by_cases e : i = j
  · rw [e]
    exact hS.irrefl _
  · exact h i j h1 (by omega) h3
theorem sorted_join {a s b : Nat} {d : Array α} (h1 : SortedIn lt a s d) (h2 : SortedIn lt s b d) (h3 : ∀ i j, a ≤ i → i < s → s ≤ j → j < b → lt d[j]! d[i]! = false) : SortedIn lt a b d := fun i j hi hij hj => by
  by_cases e1 : j < s
  · exact h1 i j hi hij e1
  · by_cases e2 : s ≤ i
    · exact h2 i j e2 hij hj
    · exact h3 i j hi (by omega) (by omega) hj
theorem sorted_none {a b : Nat} {d : Array α} (h : b ≤ a + 1) : SortedIn lt a b d := fun i j hi hij hj => by omega
/-- Two ascending parts, of which the ends of the first and the beginning of the second are exchanged. -/
theorem rot_parts (hS : SWO lt) {a s m t b : Nat} {d d' : Array α} (h1 : SortedIn lt a m d) (h2 : SortedIn lt m b d) (ha : a ≤ s) (hs : s ≤ m) (hm : m ≤ t) (ht : t ≤ b) (hr : Rot s m t d d')
    (low : ∀ x y, a ≤ x → x < s → t ≤ y → y < b → lt d[y]! d[x]! = false) (high : ∀ x y, s ≤ x → x < m → m ≤ y → y < t → lt d[x]! d[y]! = false) :
    SortedIn lt a s d' ∧ SortedIn lt s (s + (t - m)) d' ∧ SortedIn lt (s + (t - m)) t d' ∧ SortedIn lt t b d' ∧ ∀ x y, a ≤ x → x < s + (t - m) → s + (t - m) ≤ y → y < b → lt d'[y]! d'[x]! = false := by
  have g1 : ∀ x, x < s → d'[x]! = d[x]! := fun x hx => by
    rw [hr.at_]
    unfold rotF
    rw [if_neg (by omega), if_neg (by omega)]
  have g2 : ∀ x, s ≤ x → x < s + (t - m) → d'[x]! = d[x + (m - s)]! := fun x hx hx2 => by
    rw [hr.at_]
    unfold rotF
    rw [if_pos (by omega)]
  have g3 : ∀ x, s + (t - m) ≤ x → x < t → d'[x]! = d[x - (t - m)]! := fun x hx hx2 => by
    rw [hr.at_]
    unfold rotF
    rw [if_neg (by omega), if_pos (by omega)]
  have g4 : ∀ x, t ≤ x → d'[x]! = d[x]! := fun x hx => by
    rw [hr.at_]
    unfold rotF
    rw [if_neg (by omega), if_neg (by omega)]
  refine ⟨fun i j hi hij hj => ?_, fun i j hi hij hj => ?_, fun i j hi hij hj => ?_, fun i j hi hij hj => ?_, fun x y hx hx2 hy hy2 => ?_⟩
  · rw [g1 i (by omega), g1 j (by omega)]
    exact h1 i j hi hij (by omega)
  · rw [g2 i hi (by omega), g2 j (by omega) hj]
    exact h2 _ _ (by omega) (by omega) (by omega)
  · rw [g3 i hi (by omega), g3 j (by omega) hj]
    exact h1 _ _ (by omega) (by omega) (by omega)
  · rw [g4 i hi, g4 j (by omega)]
    exact h2 i j (by omega) hij hj
  · by_cases c1 : x < s
    · rw [g1 x c1]
      by_cases c2 : y < t
      · rw [g3 y hy c2]
        exact sorted_at hS h1 hx (by omega) (by omega)
      · rw [g4 y (by omega)]
        exact low x y hx c1 (by omega) hy2
    · rw [g2 x (by omega) hx2]
      by_cases c2 : y < t
      · rw [g3 y hy c2]
        exact high _ _ (by omega) (by omega) (by omega) (by omega)
      · rw [g4 y (by omega)]
        exact sorted_at hS h2 (by omega) (by omega) hy2
theorem sorted_all {a b : Nat} {d d' : Array α} (hb : b ≤ d.size) (hP : PermIn a b d d') {p : α → Prop} (h : ∀ i, a ≤ i → i < b → p d[i]!) : ∀ i, a ≤ i → i < b → p d'[i]! := permIn_all d d' a b p hb hP h
/-- Both halves put in order, each within itself. -/
theorem halves {a s b : Nat} {d d1 d2 : Array α} (ha : a ≤ s) (hs : s ≤ b) (hb : b ≤ d.size) (hx : ∀ x y, a ≤ x → x < s → s ≤ y → y < b → lt d[y]! d[x]! = false)
    (hp1 : PermIn a s d d1) (hs1 : SortedIn lt a s d1) (hp2 : PermIn s b d1 d2) (hs2 : SortedIn lt s b d2) : PermIn a b d d2 ∧ SortedIn lt a b d2 := by
  have hz1 : d1.size = d.size := hp1.1
  refine ⟨permIn_trans _ _ _ _ _ (permIn_mono _ _ _ _ _ _ (Nat.le_refl _) hs hb hp1) (permIn_mono _ _ _ _ _ _ ha (Nat.le_refl _) (by omega) hp2), sorted_join (s := s) (fun i j hi hij hj => ?_) hs2 (fun i j hi hi2 hj hj2 => ?_)⟩
  · rw [hp2.2.1 i (.inl (by omega)), hp2.2.1 j (.inl hj)]
    exact hs1 i j hi hij hj
  · rw [hp2.2.1 i (.inl (by omega))]
    have e1 : ∀ y, s ≤ y → y < b → lt d[y]! d1[i]! = false := fun y hy hy2 => sorted_all (p := fun v => lt d[y]! v = false) (by omega) hp1 (fun x hx1 hx2 => hx x y hx1 hx2 hy hy2) i hi hi2
    refine sorted_all (p := fun v => lt v d1[i]! = false) (by omega) hp2 (fun y hy hy2 => ?_) j hj hj2
    rw [hp1.2.1 y (.inr hy)]
    exact e1 y hy hy2
/-- What the search of a merge has found: from p - c on the second part, c from s on. -/
structure Sought (lt : α → α → Bool) (d : Array α) (p lo hi s r : Nat) : Prop where
  le : lo ≤ s ∧ s ≤ r ∧ r ≤ hi
  below : ∀ c, lo ≤ c → c < s → lt d[p - c]! d[c]! = false
  above : ∀ c, r ≤ c → c < hi → lt d[p - c]! d[c]! = true
theorem Sought.start (d : Array α) (p lo hi : Nat) (h : lo ≤ hi) : Sought lt d p lo hi lo hi := ⟨⟨Nat.le_refl _, h, Nat.le_refl _⟩, fun c h1 h2 => by omega, fun c h1 h2 => by omega⟩
theorem Sought.up (hS : SWO lt) {d : Array α} {a m b p lo hi s r c : Nat} (h1 : SortedIn lt a m d) (h2 : SortedIn lt m b d) (hlo : a ≤ lo) (hhi : hi ≤ m) (hp : m + hi ≤ p + 1) (hp2 : p < b + lo) (h : Sought lt d p lo hi s r) (hc1 : s ≤ c) (hc2 : c < r) (hl : lt d[p - c]! d[c]! = false) : Sought lt d p lo hi (c + 1) r := by
  obtain ⟨l1, l2, l3⟩ := h.le
  refine ⟨⟨by omega, by omega, l3⟩, fun x hx hx2 => ?_, h.above⟩
  exact SWO.le_trans hS (sorted_at hS h1 (by omega) (show x ≤ c by omega) (by omega)) (SWO.le_trans hS hl (sorted_at hS h2 (by omega) (show p - c ≤ p - x by omega) (by omega)))
theorem Sought.down (hS : SWO lt) {d : Array α} {a m b p lo hi s r c : Nat} (h1 : SortedIn lt a m d) (h2 : SortedIn lt m b d) (hlo : a ≤ lo) (hhi : hi ≤ m) (hp : m + hi ≤ p + 1) (hp2 : p < b + lo) (h : Sought lt d p lo hi s r) (hc1 : s ≤ c) (hc2 : c < r) (hl : lt d[p - c]! d[c]! = true) : Sought lt d p lo hi s c := by
  obtain ⟨l1, l2, l3⟩ := h.le
  refine ⟨⟨l1, hc1, by omega⟩, h.below, fun x hx hx2 => ?_⟩
  exact SWO.lt_of_le_lt hS (sorted_at hS h2 (by omega) (show p - x ≤ p - c by omega) (by omega)) (SWO.lt_of_lt_le hS hl (sorted_at hS h1 (by omega) hx (by omega)))
/-- Where it ends. -/
theorem Sought.done (hS : SWO lt) {d : Array α} {a m b n lo hi s : Nat} (h1 : SortedIn lt a m d) (h2 : SortedIn lt m b d) (hlo : a ≤ lo) (hhi : hi ≤ m) (hp : m + hi ≤ n) (hp2 : n ≤ b + lo) (hn : 0 < n) (h : Sought lt d (n - 1) lo hi s s)
    (hl : lo = a ∨ n = b + lo) (hh : hi = m ∨ n = m + hi) : (∀ x y, a ≤ x → x < s → n - s ≤ y → y < b → lt d[y]! d[x]! = false) ∧ ∀ x y, s ≤ x → x < m → m ≤ y → y < n - s → lt d[x]! d[y]! = false := by
  obtain ⟨l1, _, l3⟩ := h.le
  constructor
  · intro x y hx hx2 hy hy2
    by_cases e : s = lo
    · omega
    · have hb := h.below (s - 1) (by omega) (by omega)
      rw [show n - 1 - (s - 1) = n - s by omega] at hb
      exact SWO.le_trans hS (sorted_at hS h1 hx (show x ≤ s - 1 by omega) (by omega)) (SWO.le_trans hS hb (sorted_at hS h2 (by omega) hy hy2))
  · intro x y hx hx2 hy hy2
    by_cases e : s = hi
    · omega
    · have hb := h.above s (Nat.le_refl _) (by omega)
      have h3 := SWO.lt_of_le_lt hS (sorted_at hS h2 hy (show y ≤ n - 1 - s by omega) (by omega)) (SWO.lt_of_lt_le hS hb (sorted_at hS h1 (by omega) hx hx2))
      exact hS.asymmA h3
end
end Go.Proofs.YtlenpifjkbcmdaaGreatDoor

