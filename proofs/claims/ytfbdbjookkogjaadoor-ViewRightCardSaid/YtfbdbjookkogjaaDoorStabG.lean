/-
  The library's stable sort in plain Lean: runs of exchanges, rotations, the merge. Of no program. The library's stable sort, walked: exchanges and rotations. The library's stable sort, walked: the merge.
-/
import Derived.Sort.LotA
import Derived.Test.YtfbdbjookkogjaaDoorItems
import Derived.Test.YtfbdbjookkogjaaDoorShelf
import Derived.Test.YtfbdbjookkogjaaDoorBasics
import Derived.Shelf.SlSortCmp.KitK
import Derived.Deep.LoopGhost
import Derived.IntWalk
import Derived.Lib.Hide
import Derived.Deep.CutRange
namespace Go.Proofs.YtfbdbjookkogjaaDoor
open Go.Sort

section
variable {α : Type} [Inhabited α]
/-- n exchanges, from a and from b on. -/
def swpR (d : Array α) (a b : Nat) : Nat → Array α
  | 0 => d
  | n + 1 => swp (swpR d a b n) (a + n) (b + n)
theorem size_swpR (d : Array α) (a b : Nat) : ∀ n, (swpR d a b n).size = d.size
  | 0 => rfl
  | n + 1 => by
    show (swp _ _ _).size = _
    rw [size_swp, size_swpR d a b n]
theorem perm_swpR {d : Array α} {a b lo hi : Nat} : ∀ n, lo ≤ a → a ≤ b → b + n ≤ hi → hi ≤ d.size → PermIn lo hi d (swpR d a b n)
  | 0, _, _, _, _ => permIn_refl _ _ _
  | n + 1, h1, h2, h3, h4 => permIn_trans _ _ _ _ _ (perm_swpR n h1 h2 (by omega) h4) (swp_permIn _ _ _ _ _ (by omega) (by omega) (by omega) (by omega) (by rw [size_swpR]; exact h4))
theorem get_swpR {d : Array α} {a b : Nat} : ∀ n, a + n ≤ b → b + n ≤ d.size → ∀ x, (swpR d a b n)[x]! = if a ≤ x ∧ x < a + n then d[x + (b - a)]! else if b ≤ x ∧ x < b + n then d[x - (b - a)]! else d[x]!
  | 0, _, _, x => by
    rw [if_neg (by omega), if_neg (by omega)]
    rfl
  | n + 1, h1, h2, x => by
    have ih := get_swpR (d := d) (a := a) (b := b) n (by omega) (by omega)
    show (swp _ _ _)[x]! = _
    rw [swp_get _ (by rw [size_swpR]; omega) (by rw [size_swpR]; omega)]
    by_cases e1 : x = b + n
    · rw [if_pos e1, ih, if_neg (by omega), if_neg (by omega), if_neg (by omega), if_pos (by omega)]
      congr 1 <;> omega
    · rw [if_neg e1]
      by_cases e2 : x = a + n
      · rw [if_pos e2, ih, if_neg (by omega), if_neg (by omega), if_pos (by omega)]
        congr 1 <;> omega
      · rw [if_neg e2, ih]
        have i1 : (a ≤ x ∧ x < a + n) ↔ (a ≤ x ∧ x < a + (n + 1)) := by omega
        have i2 : (b ≤ x ∧ x < b + n) ↔ (b ≤ x ∧ x < b + (n + 1)) := by omega
        simp only [i1, i2]
/-- What lies at x behind a rotation of [a, b) about m. -/
def rotF (a m b : Nat) (d : Array α) (x : Nat) : α := if a ≤ x ∧ x < a + (b - m) then d[x + (m - a)]! else if a + (b - m) ≤ x ∧ x < b then d[x - (b - m)]! else d[x]!
theorem rot_gt {d : Array α} {m i j : Nat} (h1 : j < i) (h2 : i ≤ m) (h3 : m + j ≤ d.size) (x : Nat) : rotF (m - i) m (m + j) d x = rotF (m - i + j) m (m + j) (swpR d (m - i) m j) x := by
  have g := get_swpR (d := d) (a := m - i) (b := m) j (by omega) (by omega)
  unfold rotF
  by_cases c1 : x < m - i
  · rw [if_neg (by omega), if_neg (by omega), if_neg (by omega), if_neg (by omega), g, if_neg (by omega), if_neg (by omega)]
  by_cases c2 : x < m - i + j
  · rw [if_pos (by omega), if_neg (by omega), if_neg (by omega), g, if_pos (by omega)]
  by_cases c3 : x < m - i + j + j
  · rw [if_neg (by omega), if_pos (by omega), if_pos (by omega), g]
    by_cases c4 : x + (m - (m - i + j)) < m
    · omega
    · rw [if_neg (by omega), if_pos (by omega)]
      congr 1 <;> omega
  by_cases c5 : x < m + j
  · rw [if_neg (by omega), if_pos (by omega), if_neg (by omega), if_pos (by omega), g]
    rw [if_neg (by omega), if_neg (by omega)]
  · rw [if_neg (by omega), if_neg (by omega), if_neg (by omega), if_neg (by omega), g, if_neg (by omega), if_neg (by omega)]
theorem rot_lt {d : Array α} {m i j : Nat} (h1 : i < j) (h2 : i ≤ m) (h3 : m + j ≤ d.size) (x : Nat) : rotF (m - i) m (m + j) d x = rotF (m - i) m (m + (j - i)) (swpR d (m - i) (m + j - i) i) x := by
  have g := get_swpR (d := d) (a := m - i) (b := m + j - i) i (by omega) (by omega)
  unfold rotF
  by_cases c1 : x < m - i
  · rw [if_neg (by omega), if_neg (by omega), if_neg (by omega), if_neg (by omega), g, if_neg (by omega), if_neg (by omega)]
  by_cases c2 : x < m - i + (j - i)
  · rw [if_pos (by omega), if_pos (by omega), g, if_neg (by omega), if_neg (by omega)]
  by_cases c3 : x < m - i + j
  · rw [if_pos (by omega), if_neg (by omega), if_pos (by omega), g, if_pos (by omega)]
    congr 1 <;> omega
  by_cases c5 : x < m + j
  · rw [if_neg (by omega), if_pos (by omega), if_neg (by omega), if_neg (by omega), g, if_neg (by omega), if_pos (by omega)]
    congr 1 <;> omega
  · rw [if_neg (by omega), if_neg (by omega), if_neg (by omega), if_neg (by omega), g, if_neg (by omega), if_neg (by omega)]
theorem rot_eq {d : Array α} {m i : Nat} (h2 : i ≤ m) (h3 : m + i ≤ d.size) (x : Nat) : rotF (m - i) m (m + i) d x = (swpR d (m - i) m i)[x]! := by
  rw [get_swpR (d := d) (a := m - i) (b := m) i (by omega) (by omega)]
  unfold rotF
  by_cases c1 : x < m - i
  · rw [if_neg (by omega), if_neg (by omega), if_neg (by omega), if_neg (by omega)]
  by_cases c2 : x < m
  · rw [if_pos (by omega), if_pos (by omega)]
  by_cases c3 : x < m + i
  · rw [if_neg (by omega), if_pos (by omega), if_neg (by omega), if_pos (by omega)]
    congr 1 <;> omega
  · rw [if_neg (by omega), if_neg (by omega), if_neg (by omega), if_neg (by omega)]
/-- d' is d with [a, b) rotated about m. -/
structure Rot (a m b : Nat) (d d' : Array α) : Prop where
  perm : PermIn a b d d'
  at_ : ∀ x, d'[x]! = rotF a m b d x

variable {lt : α → α → Bool}
omit [Inhabited α] in
theorem SWO.le_trans (hS : SWO lt) {x y z : α} (h1 : lt y x = false) (h2 : lt z y = false) : lt z x = false := hS.ntrans _ _ _ h2 h1
omit [Inhabited α] in
theorem SWO.lt_of_lt_le (hS : SWO lt) {x y z : α} (h1 : lt x y = true) (h2 : lt z y = false) : lt x z = true := by
  cases h : lt x z with
  | true => rfl
  | false => rw [hS.ntrans _ _ _ h h2] at h1; cases h1
omit [Inhabited α] in
theorem SWO.lt_of_le_lt (hS : SWO lt) {x y z : α} (h1 : lt y x = false) (h2 : lt y z = true) : lt x z = true := by
  cases h : lt x z with
  | true => rfl
  | false => rw [hS.ntrans _ _ _ h1 h] at h2; cases h2
theorem sorted_at {a b : Nat} {d : Array α} (hS : SWO lt) (h : SortedIn lt a b d) {i j : Nat} (h1 : a ≤ i) (h2 : i ≤ j) (h3 : j < b) : lt d[j]! d[i]! = false := by
  by_cases e : i = j
  · rw [e]
    exact hS.irrefl _
  · exact h i j h1 (by omega) h3
theorem sorted_join {a s b : Nat} {d : Array α} (h1 : SortedIn lt a s d) (h2 : SortedIn lt s b d) (h3 : ∀ i j, a ≤ i → i < s → s ≤ j → j < b → lt d[j]! d[i]! = false) : SortedIn lt a b d := fun i j hi hij hj => by
  by_cases e1 : j < s
  · exact h1 i j hi hij e1
  · by_cases e2 : s ≤ i
    · exact h2 i j e2 hij hj
    · exact h3 i j hi (by omega) (by omega) hj
theorem sorted_none {a b : Nat} {d : Array α} (h : b ≤ a + 1) : SortedIn lt a b d := fun i j hi hij hj => by omega
/-- Two ascending parts, of which the ends of the first and the beginning of the second are exchanged. -/
theorem rot_parts (hS : SWO lt) {a s m t b : Nat} {d d' : Array α} (h1 : SortedIn lt a m d) (h2 : SortedIn lt m b d) (ha : a ≤ s) (hs : s ≤ m) (hm : m ≤ t) (ht : t ≤ b) (hr : Rot s m t d d')
    (low : ∀ x y, a ≤ x → x < s → t ≤ y → y < b → lt d[y]! d[x]! = false) (high : ∀ x y, s ≤ x → x < m → m ≤ y → y < t → lt d[x]! d[y]! = false) :
    SortedIn lt a s d' ∧ SortedIn lt s (s + (t - m)) d' ∧ SortedIn lt (s + (t - m)) t d' ∧ SortedIn lt t b d' ∧ ∀ x y, a ≤ x → x < s + (t - m) → s + (t - m) ≤ y → y < b → lt d'[y]! d'[x]! = false := by
  have g1 : ∀ x, x < s → d'[x]! = d[x]! := fun x hx => by
    rw [hr.at_]
    unfold rotF
    rw [if_neg (by omega), if_neg (by omega)]
  have g2 : ∀ x, s ≤ x → x < s + (t - m) → d'[x]! = d[x + (m - s)]! := fun x hx hx2 => by
    rw [hr.at_]
    unfold rotF
    rw [if_pos (by omega)]
  have g3 : ∀ x, s + (t - m) ≤ x → x < t → d'[x]! = d[x - (t - m)]! := fun x hx hx2 => by
    rw [hr.at_]
    unfold rotF
    rw [if_neg (by omega), if_pos (by omega)]
  have g4 : ∀ x, t ≤ x → d'[x]! = d[x]! := fun x hx => by
    rw [hr.at_]
    unfold rotF
    rw [if_neg (by omega), if_neg (by omega)]
  refine ⟨fun i j hi hij hj => ?_, fun i j hi hij hj => ?_, fun i j hi hij hj => ?_, fun i j hi hij hj => ?_, fun x y hx hx2 hy hy2 => ?_⟩
  · rw [g1 i (by omega), g1 j (by omega)]
    exact h1 i j hi hij (by omega)
  · rw [g2 i hi (by omega), g2 j (by omega) hj]
    exact h2 _ _ (by omega) (by omega) (by omega)
  · rw [g3 i hi (by omega), g3 j (by omega) hj]
    exact h1 _ _ (by omega) (by omega) (by omega)
  · rw [g4 i hi, g4 j (by omega)]
    exact h2 i j (by omega) hij hj
  · by_cases c1 : x < s
    · rw [g1 x c1]
      by_cases c2 : y < t
      · rw [g3 y hy c2]
        exact sorted_at hS h1 hx (by omega) (by omega)
      · rw [g4 y (by omega)]
        exact low x y hx c1 (by omega) hy2
    · rw [g2 x (by omega) hx2]
      by_cases c2 : y < t
      · rw [g3 y hy c2]
        exact high _ _ (by omega) (by omega) (by omega) (by omega)
      · rw [g4 y (by omega)]
        exact sorted_at hS h2 (by omega) (by omega) hy2
theorem sorted_all {a b : Nat} {d d' : Array α} (hb : b ≤ d.size) (hP : PermIn a b d d') {p : α → Prop} (h : ∀ i, a ≤ i → i < b → p d[i]!) : ∀ i, a ≤ i → i < b → p d'[i]! := permIn_all d d' a b p hb hP h
/-- Both halves put in order, each within itself. -/
theorem halves {a s b : Nat} {d d1 d2 : Array α} (ha : a ≤ s) (hs : s ≤ b) (hb : b ≤ d.size) (hx : ∀ x y, a ≤ x → x < s → s ≤ y → y < b → lt d[y]! d[x]! = false)
    (hp1 : PermIn a s d d1) (hs1 : SortedIn lt a s d1) (hp2 : PermIn s b d1 d2) (hs2 : SortedIn lt s b d2) : PermIn a b d d2 ∧ SortedIn lt a b d2 := by
  have hz1 : d1.size = d.size := hp1.1
  refine ⟨permIn_trans _ _ _ _ _ (permIn_mono _ _ _ _ _ _ (Nat.le_refl _) hs hb hp1) (permIn_mono _ _ _ _ _ _ ha (Nat.le_refl _) (by omega) hp2), sorted_join (s := s) (fun i j hi hij hj => ?_) hs2 (fun i j hi hi2 hj hj2 => ?_)⟩
  · rw [hp2.2.1 i (.inl (by omega)), hp2.2.1 j (.inl hj)]
    exact hs1 i j hi hij hj
  · rw [hp2.2.1 i (.inl (by omega))]
    have e1 : ∀ y, s ≤ y → y < b → lt d[y]! d1[i]! = false := fun y hy hy2 => sorted_all (p := fun v => lt d[y]! v = false) (by omega) hp1 (fun x hx1 hx2 => hx x y hx1 hx2 hy hy2) i hi hi2
    refine sorted_all (p := fun v => lt v d1[i]! = false) (by omega) hp2 (fun y hy hy2 => ?_) j hj hj2
    rw [hp1.2.1 y (.inr hy)]
    exact e1 y hy hy2
/-- What the search of a merge has found: from p - c on the second part, c from s on. -/
structure Sought (lt : α → α → Bool) (d : Array α) (p lo hi s r : Nat) : Prop where
  le : lo ≤ s ∧ s ≤ r ∧ r ≤ hi
  below : ∀ c, lo ≤ c → c < s → lt d[p - c]! d[c]! = false
  above : ∀ c, r ≤ c → c < hi → lt d[p - c]! d[c]! = true
theorem Sought.start (d : Array α) (p lo hi : Nat) (h : lo ≤ hi) : Sought lt d p lo hi lo hi := ⟨⟨Nat.le_refl _, h, Nat.le_refl _⟩, fun c h1 h2 => by omega, fun c h1 h2 => by omega⟩
theorem Sought.up (hS : SWO lt) {d : Array α} {a m b p lo hi s r c : Nat} (h1 : SortedIn lt a m d) (h2 : SortedIn lt m b d) (hlo : a ≤ lo) (hhi : hi ≤ m) (hp : m + hi ≤ p + 1) (hp2 : p < b + lo) (h : Sought lt d p lo hi s r) (hc1 : s ≤ c) (hc2 : c < r) (hl : lt d[p - c]! d[c]! = false) : Sought lt d p lo hi (c + 1) r := by
  obtain ⟨l1, l2, l3⟩ := h.le
  refine ⟨⟨by omega, by omega, l3⟩, fun x hx hx2 => ?_, h.above⟩
  exact SWO.le_trans hS (sorted_at hS h1 (by omega) (show x ≤ c by omega) (by omega)) (SWO.le_trans hS hl (sorted_at hS h2 (by omega) (show p - c ≤ p - x by omega) (by omega)))
theorem Sought.down (hS : SWO lt) {d : Array α} {a m b p lo hi s r c : Nat} (h1 : SortedIn lt a m d) (h2 : SortedIn lt m b d) (hlo : a ≤ lo) (hhi : hi ≤ m) (hp : m + hi ≤ p + 1) (hp2 : p < b + lo) (h : Sought lt d p lo hi s r) (hc1 : s ≤ c) (hc2 : c < r) (hl : lt d[p - c]! d[c]! = true) : Sought lt d p lo hi s c := by
  obtain ⟨l1, l2, l3⟩ := h.le
  refine ⟨⟨l1, hc1, by omega⟩, h.below, fun x hx hx2 => ?_⟩
  exact SWO.lt_of_le_lt hS (sorted_at hS h2 (by omega) (show p - x ≤ p - c by omega) (by omega)) (SWO.lt_of_lt_le hS hl (sorted_at hS h1 (by omega) hx (by omega)))
/-- Where it ends. -/
theorem Sought.done (hS : SWO lt) {d : Array α} {a m b n lo hi s : Nat} (h1 : SortedIn lt a m d) (h2 : SortedIn lt m b d) (hlo : a ≤ lo) (hhi : hi ≤ m) (hp : m + hi ≤ n) (hp2 : n ≤ b + lo) (hn : 0 < n) (h : Sought lt d (n - 1) lo hi s s)
    (hl : lo = a ∨ n = b + lo) (hh : hi = m ∨ n = m + hi) : (∀ x y, a ≤ x → x < s → n - s ≤ y → y < b → lt d[y]! d[x]! = false) ∧ ∀ x y, s ≤ x → x < m → m ≤ y → y < n - s → lt d[x]! d[y]! = false := by
  obtain ⟨l1, _, l3⟩ := h.le
  constructor
  · intro x y hx hx2 hy hy2
    by_cases e : s = lo
    · omega
    · have hb := h.below (s - 1) (by omega) (by omega)
      rw [show n - 1 - (s - 1) = n - s by omega] at hb
      exact SWO.le_trans hS (sorted_at hS h1 hx (show x ≤ s - 1 by omega) (by omega)) (SWO.le_trans hS hb (sorted_at hS h2 (by omega) hy hy2))
  · intro x y hx hx2 hy hy2
    by_cases e : s = hi
    · omega
    · have hb := h.above s (Nat.le_refl _) (by omega)
      have h3 := SWO.lt_of_le_lt hS (sorted_at hS h2 hy (show y ≤ n - 1 - s by omega) (by omega)) (SWO.lt_of_lt_le hS hb (sorted_at hS h1 (by omega) hx hx2))
      exact hS.asymmA h3
end
end Go.Proofs.YtfbdbjookkogjaaDoor

namespace Go.Proofs.YtfbdbjookkogjaaDoor
open Go Go.RowKit Go.Lib Go.Sort Go.Shelf Go.Proofs

instance : Inhabited Itm := ⟨⟨⟨#[]⟩, 0, 0, false, false, ⟨#[]⟩⟩⟩
theorem aggI : ∀ w, (isAgg 34).run Tryd.prog w = .ok true w := fun w => by kernel_rfl
theorem sizeI {k6 : Nat} (h : k6 = 6) : ∀ w, (Go.sizeOf 34).run Tryd.prog w = .ok k6 w := fun w => by subst h; kernel_rfl
set_option maxRecDepth 1000000 in
set_option maxHeartbeats 4000000 in
theorem swapR_k (k6 : Nat) (h6 : k6 = 6) (fv : Value) (blk off cap a b n : Nat) (d0 d : Array Itm) (w0 w : World) (R : RowK Itm.cells k6 w0 blk off d0) (hs : d0.size = d.size) (S : SWK Itm.cells k6 w0 blk off d w) (hab : a + n ≤ b) (hb : b + n ≤ d.size) (hsz : d.size < 4611686018427387904) :
    Calls Tryd.prog 97 #[.slice (some ⟨blk, off, none⟩) d.size cap, .int .i64 a, .int .i64 b, .int .i64 n, fv] w fun e w' => e = .returned (.tuple #[]) ∧ SWK Itm.cells k6 w0 blk off (swpR d a b n) w' := by
  have aE := aggI
  have zE := sizeI h6
  have mixed : Tryd.prog.follows .mixedOrders = true := by kernel_rfl
  clear h6
  have S0 : Aside (SWK Itm.cells k6 w0 blk off d w) := S
  clear S
  go_enter Tryd.func97, Tryd.ntmps97
  go_wp2_with fail
  go_loopw [10] (fun i wr => ∃ k : Nat, k ≤ n ∧ i = .int .i64 k ∧ Aside (SWK Itm.cells k6 w0 blk off (swpR d a b k) wr)) (fun i _ => n - (RowKit.intOf i).toNat)
  case atStart => exact ⟨0, Nat.zero_le _, rfl, S0⟩
  case round =>
    clear S0
    obtain ⟨k, hk, rfl, S1⟩ := hrel
    by_cases hlt : k < n
    · have hlti : (k : Int) < (n : Int) := by omega
      obtain ⟨dk, hdk⟩ : ∃ dk, swpR d a b k = dk := ⟨_, rfl⟩
      have hds : dk.size = d.size := by rw [← hdk]; exact size_swpR _ _ _ _
      have HN := Lib.hid (show swpR d a b (k + 1) = swp dk (a + k) (b + k) by rw [← hdk]; rfl)
      rw [hdk] at S1
      clear hdk
      have ra : IntKind.i64.wrap ((a : Int) + (k : Int)) = (a : Int) + (k : Int) := by rw [IntKind.wrap_i64]; omega
      have rb : IntKind.i64.wrap ((b : Int) + (k : Int)) = (b : Int) + (k : Int) := by rw [IntKind.wrap_i64]; omega
      have ta : ((a : Int) + (k : Int)).toNat = a + k := by omega
      have tb : ((b : Int) + (k : Int)).toNat = b + k := by omega
      have pa : (0 : Int) ≤ (a : Int) + (k : Int) := by omega
      have pb : (0 : Int) ≤ (b : Int) + (k : Int) := by omega
      have la : (a : Int) + (k : Int) < (d.size : Int) := by omega
      have lb : (b : Int) + (k : Int) < (d.size : Int) := by omega
      have S2 : Aside (SWK Itm.cells k6 w0 blk off (swp dk (a + k) (b + k)) ((wr.drew.setCells blk (off + (a + k) * k6) (Itm.cells dk[b + k]!)).setCells blk (off + (b + k) * k6) (Itm.cells dk[a + k]!))) := S1.out.swapped R (a + k) (b + k) (by omega) (by omega)
      have l1 := S1.out.ld1 R (by omega) Tryd.prog (a + k) (by omega)
      have l2 := S1.out.ld1 R (by omega) Tryd.prog (b + k) (by omega)
      have s1 := S1.out.st1 R (by omega) Tryd.prog (a + k) (by omega) dk[b + k]!
      have s2 := S1.out.st2 R (by omega) Tryd.prog (a + k) (b + k) (by omega) (by omega) dk[b + k]! dk[a + k]!
      have n1 : (Itm.cells dk[a + k]!).length = k6 := R.hk _
      have n2 : (Itm.cells dk[b + k]!).length = k6 := R.hk _
      generalize Itm.cells dk[a + k]! = cI at S2 l1 s2 n1
      generalize Itm.cells dk[b + k]! = cJ at S2 l2 s1 s2 n2
      clear S1
      go_wp2_with fail
      go_big_region_o
      clear l1 l2 s1 s2
      generalize (wr.drew.setCells blk (off + (a + k) * k6) cJ).setCells blk (off + (b + k) * k6) cI = w2 at S2 ⊢
      go_wp2_with fail
      go_roundw
      case rel => exact ⟨k + 1, by omega, by go_num, by rw [HN.out]; exact S2⟩
      case measure => simp [RowKit.intOf]; omega
    · obtain rfl : k = n := by omega
      go_wp2_with fail
      go_end0
      exact ⟨rfl, S1.out⟩
set_option maxRecDepth 1000000 in
set_option maxHeartbeats 4000000 in
theorem rotR_k (k6 : Nat) (h6 : k6 = 6) (fv : Value) (blk off cap a m b : Nat) (d0 d : Array Itm) (w0 w : World) (R : RowK Itm.cells k6 w0 blk off d0) (hs : d0.size = d.size) (S : SWK Itm.cells k6 w0 blk off d w) (ham : a < m) (hmb : m < b) (hb : b ≤ d.size) (hsz : d.size < 4611686018427387904) :
    Calls Tryd.prog 81 #[.slice (some ⟨blk, off, none⟩) d.size cap, .int .i64 a, .int .i64 m, .int .i64 b, fv] w fun e w' => e = .returned (.tuple #[]) ∧ ∃ d', Rot a m b d d' ∧ SWK Itm.cells k6 w0 blk off d' w' := by
  have S0 : Aside (SWK Itm.cells k6 w0 blk off d w) := S
  have H6 := Lib.hid h6
  clear S h6
  go_enter Tryd.func81, Tryd.ntmps81
  go_wp2_with fail
  go_loopw [10, 11] (fun i j wr => ∃ (x y : Nat) (dk : Array Itm), i = .int .i64 x ∧ j = .int .i64 y ∧ 0 < x ∧ 0 < y ∧ a + x ≤ m ∧ m + y ≤ b ∧ dk.size = d.size ∧ Hid (PermIn a b d dk ∧ ∀ z, rotF a m b d z = rotF (m - x) m (m + y) dk z) ∧ Aside (SWK Itm.cells k6 w0 blk off dk wr)) (fun i j _ => (RowKit.intOf i).toNat + (RowKit.intOf j).toNat)
  case atStart => exact ⟨m - a, b - m, d, by congr 1; omega, by congr 1; omega, by omega, by omega, by omega, by omega, rfl, Lib.hid ⟨permIn_refl _ _ _, fun z => by rw [show m - (m - a) = a by omega, show m + (b - m) = b by omega]⟩, S0⟩
  case round =>
    clear S0
    obtain ⟨x, y, dk, rfl, rfl, hx0, hy0, hax, hyb, hds, HP, S1⟩ := hrel
    by_cases hxy : x = y
    · subst hxy
      have HC := swapR_k k6 H6.out fv blk off cap (m - x) m x d0 dk w0 wr R (by omega) S1.out (by omega) (by omega) (by omega)
      rw [show ((m - x : Nat) : Int) = (m : Int) - (x : Int) by omega, hds] at HC
      have HE := Lib.hid (show Rot a m b d (swpR dk (m - x) m x) from ⟨permIn_trans _ _ _ _ _ HP.out.1 (perm_swpR x (by omega) (by omega) (by omega) (by omega)), fun z => by rw [HP.out.2 z, rot_eq (by omega) (by omega)]⟩)
      replace HC := Lib.hid HC
      clear S1 HP
      go_wp2_with fail
      refine HC.out.mono ?_
      rintro e w2 ⟨rfl, S2⟩
      have S2 : Aside _ := S2
      go_wp2_with fail
      go_end0
      exact ⟨rfl, _, HE.out, S2.out⟩
    · have hne : ¬ (x : Int) = (y : Int) := by omega
      by_cases hgt : y < x
      · have hg : (x : Int) > (y : Int) := by omega
        have HC := swapR_k k6 H6.out fv blk off cap (m - x) m y d0 dk w0 wr R (by omega) S1.out (by omega) (by omega) (by omega)
        rw [show ((m - x : Nat) : Int) = (m : Int) - (x : Int) by omega, hds] at HC
        have HE := Lib.hid (show PermIn a b d (swpR dk (m - x) m y) ∧ ∀ z, rotF a m b d z = rotF (m - (x - y)) m (m + y) (swpR dk (m - x) m y) z from ⟨permIn_trans _ _ _ _ _ HP.out.1 (perm_swpR y (by omega) (by omega) (by omega) (by omega)), fun z => by rw [HP.out.2 z, rot_gt hgt (by omega) (by omega), show m - (x - y) = m - x + y by omega]⟩)
        replace HC := Lib.hid HC
        have hz2 : (swpR dk (m - x) m y).size = d.size := by rw [size_swpR]; exact hds
        generalize swpR dk (m - x) m y = d2 at *
        clear S1 HP
        go_wp2_with fail
        refine HC.out.mono ?_
        rintro e w2 ⟨rfl, S2⟩
        have S2 : Aside _ := S2
        clear HC
        go_wp2_with fail
        go_roundw
        case rel => exact ⟨x - y, y, d2, by congr 1; omega, rfl, by omega, hy0, by omega, hyb, hz2, HE, S2⟩
        case measure => simp [RowKit.intOf]; omega
      · have hg : ¬ (x : Int) > (y : Int) := by omega
        have HC := swapR_k k6 H6.out fv blk off cap (m - x) (m + y - x) x d0 dk w0 wr R (by omega) S1.out (by omega) (by omega) (by omega)
        rw [show ((m - x : Nat) : Int) = (m : Int) - (x : Int) by omega, show ((m + y - x : Nat) : Int) = (m : Int) + (y : Int) - (x : Int) by omega, hds] at HC
        have HE := Lib.hid (show PermIn a b d (swpR dk (m - x) (m + y - x) x) ∧ ∀ z, rotF a m b d z = rotF (m - x) m (m + (y - x)) (swpR dk (m - x) (m + y - x) x) z from ⟨permIn_trans _ _ _ _ _ HP.out.1 (perm_swpR x (by omega) (by omega) (by omega) (by omega)), fun z => by rw [HP.out.2 z, rot_lt (by omega) (by omega) (by omega)]⟩)
        replace HC := Lib.hid HC
        have hz2 : (swpR dk (m - x) (m + y - x) x).size = d.size := by rw [size_swpR]; exact hds
        generalize swpR dk (m - x) (m + y - x) x = d2 at *
        clear S1 HP
        go_wp2_with fail
        refine HC.out.mono ?_
        rintro e w2 ⟨rfl, S2⟩
        have S2 : Aside _ := S2
        clear HC
        go_wp2_with fail
        go_roundw
        case rel => exact ⟨x, y - x, d2, rfl, by congr 1; omega, hx0, by omega, hax, by omega, hz2, HE, S2⟩
        case measure => simp [RowKit.intOf]; omega
end Go.Proofs.YtfbdbjookkogjaaDoor

namespace Go.Proofs.YtfbdbjookkogjaaDoor
open Go Go.RowKit Go.Lib Go.Sort Go.Shelf Go.Proofs

theorem ltOf_t {cf : Itm → Itm → Int} {x y : Itm} (h : cf x y < 0) : ltOf cf x y = true := decide_eq_true h
theorem ltOf_f {cf : Itm → Itm → Int} {x y : Itm} (h : ¬ cf x y < 0) : ltOf cf x y = false := decide_eq_false h
theorem rot_up {d dz : Array Itm} {a z : Nat} (h : a ≤ z) (hz : z + 1 < dz.size) (hd : ∀ p, dz[p]! = rotF a (a + 1) (z + 1) d p) : ∀ p, (swp dz z (z + 1))[p]! = rotF a (a + 1) (z + 1 + 1) d p := by
  intro p
  rw [swp_get _ (by omega) hz, hd, hd, hd]
  unfold rotF
  by_cases c1 : p = z + 1
  · rw [if_pos c1, if_neg (by omega), if_pos (by omega), if_neg (by omega), if_pos (by omega)]
    congr 1
    omega
  rw [if_neg c1]
  by_cases c2 : p = z
  · rw [if_pos c2, if_neg (by omega), if_neg (by omega), if_pos (by omega)]
    congr 1
    omega
  rw [if_neg c2]
  by_cases c3 : a ≤ p ∧ p < z
  · rw [if_pos (by omega), if_pos (by omega)]
  · rw [if_neg (by omega), if_neg (by omega), if_neg (by omega), if_neg (by omega)]
theorem rot_down {d dz : Array Itm} {m z : Nat} (h : z + 1 ≤ m) (hz : m < dz.size) (hd : ∀ p, dz[p]! = rotF (z + 1) m (m + 1) d p) : ∀ p, (swp dz (z + 1) z)[p]! = rotF z m (m + 1) d p := by
  intro p
  rw [swp_get _ (by omega) (by omega), hd, hd, hd]
  unfold rotF
  by_cases c1 : p = z
  · rw [if_pos c1, if_pos (by omega), if_pos (by omega)]
    congr 1
    omega
  rw [if_neg c1]
  by_cases c2 : p = z + 1
  · rw [if_pos c2, if_neg (by omega), if_neg (by omega), if_neg (by omega), if_pos (by omega)]
    congr 1
    omega
  rw [if_neg c2]
  by_cases c3 : z + 1 + 1 ≤ p ∧ p < m + 1
  · rw [if_neg (by omega), if_pos (by omega), if_neg (by omega), if_pos (by omega)]
  · rw [if_neg (by omega), if_neg (by omega), if_neg (by omega), if_neg (by omega)]
theorem one_done {lt : Itm → Itm → Bool} (hS : SWO lt) {d d' : Array Itm} {a x b : Nat} (h1 : a + 1 ≤ x) (h2 : x ≤ b) (hs : SortedIn lt (a + 1) b d) (hr : Rot a (a + 1) x d d') (below : ∀ c, a + 1 ≤ c → c < x → lt d[c]! d[a]! = true) (above : ∀ c, x ≤ c → c < b → lt d[c]! d[a]! = false) : SortedIn lt a b d' := by
  obtain ⟨_, p2, p3, p4, p5⟩ := rot_parts hS (a := a) (b := b) (sorted_none (Nat.le_refl _)) hs (Nat.le_refl a) (Nat.le_succ a) h1 h2 hr (fun p q hp hp2 => by omega) (fun p q hp hp2 hq hq2 => by
    obtain rfl : p = a := by omega
    exact hS.asymmA (below q hq hq2))
  refine sorted_join p2 (sorted_join p3 p4 fun i j hi hi2 hj hj2 => ?_) p5
  obtain rfl : i = x - 1 := by omega
  rw [hr.at_, hr.at_]
  unfold rotF
  rw [if_neg (by omega), if_neg (by omega), if_neg (by omega), if_pos (by omega), show x - 1 - (x - (a + 1)) = a by omega]
  exact above j hj hj2
theorem last_done {lt : Itm → Itm → Bool} (hS : SWO lt) {d d' : Array Itm} {a x m : Nat} (h1 : a ≤ x) (h2 : x ≤ m) (hs : SortedIn lt a m d) (hr : Rot x m (m + 1) d d') (below : ∀ c, a ≤ c → c < x → lt d[m]! d[c]! = false) (above : ∀ c, x ≤ c → c < m → lt d[m]! d[c]! = true) : SortedIn lt a (m + 1) d' := by
  obtain ⟨p1, p2, p3, _, p5⟩ := rot_parts hS (a := a) (b := m + 1) hs (sorted_none (Nat.le_refl _)) h1 h2 (Nat.le_succ m) (Nat.le_refl _) hr (fun p q hp hp2 hq hq2 => by omega) (fun p q hp hp2 hq hq2 => by
    obtain rfl : q = m := by omega
    exact hS.asymmA (above p hp hp2))
  refine sorted_join (sorted_join p1 p2 fun i j hi hi2 hj hj2 => ?_) p3 p5
  obtain rfl : j = x := by omega
  rw [hr.at_, hr.at_]
  unfold rotF
  rw [if_pos (by omega), if_neg (by omega), if_neg (by omega), show j + (m - j) = m by omega]
  exact below i hi hi2
set_option maxRecDepth 1000000 in
set_option maxHeartbeats 4000000 in
theorem sym_one (k6 : Nat) (h6 : k6 = 6) (cf : Itm → Itm → Int) (hO : SWO (ltOf cf)) (blk off cap a b : Nat) (d0 d : Array Itm) (w0 w : World) (hcmp : CmpLays Tryd.prog 31 #[] Itm.cells k6 cf blk off d0.size w0) (R : RowK Itm.cells k6 w0 blk off d0) (hs : d0.size = d.size) (S : SWK Itm.cells k6 w0 blk off d w) (hab : a + 1 < b) (hb : b ≤ d.size) (hsz : d.size < 4611686018427387904) (h2 : SortedIn (ltOf cf) (a + 1) b d) :
    Calls Tryd.prog 66 #[.slice (some ⟨blk, off, none⟩) d.size cap, .int .i64 a, .int .i64 ((a : Int) + 1), .int .i64 b, .func (.func 31) #[] #[]] w fun e w' => e = .returned (.tuple #[]) ∧ ∃ d', PermIn a b d d' ∧ SortedIn (ltOf cf) a b d' ∧ SWK Itm.cells k6 w0 blk off d' w' := by
  have aE := aggI
  have zE := sizeI h6
  have mixed : Tryd.prog.follows .mixedOrders = true := by kernel_rfl
  have S0 : Aside (SWK Itm.cells k6 w0 blk off d w) := S
  have HC := Lib.hid hcmp
  have H2 := Lib.hid h2
  have hq1 : (((a : Int) + 1 - (a : Int)) == 1) = true := by rw [beq_iff_eq]; omega
  clear h6 S hcmp h2
  go_enter Tryd.func66, Tryd.ntmps66
  go_wp2_with fail
  go_loopw [10, 11] (fun i j wr => ∃ (x y : Nat), i = .int .i64 x ∧ j = .int .i64 y ∧ a + 1 ≤ x ∧ x ≤ y ∧ y ≤ b ∧ Hid ((∀ c, a + 1 ≤ c → c < x → ltOf cf d[c]! d[a]! = true) ∧ ∀ c, y ≤ c → c < b → ltOf cf d[c]! d[a]! = false) ∧ Aside (SWK Itm.cells k6 w0 blk off d wr)) (fun i j _ => (RowKit.intOf j).toNat - (RowKit.intOf i).toNat)
  case atStart => exact ⟨a + 1, b, rfl, rfl, by omega, by omega, by omega, Lib.hid ⟨fun c h1 h2 => by omega, fun c h1 h2 => by omega⟩, S0⟩
  case round =>
    clear S0
    obtain ⟨x, y, rfl, rfl, hax, hxy, hyb, HP, S1⟩ := hrel
    by_cases hlt : x < y
    · have hlti : (x : Int) < (y : Int) := by omega
      go_upto_region 5 with fail
      obtain ⟨h, hh⟩ : ∃ h : Nat, h = (x + y) / 2 := ⟨_, rfl⟩
      rw [show ((x : Int) + (y : Int)) / 2 = (h : Int) by omega]
      have hh1 : x ≤ h := by omega
      have hh2 : h < y := by omega
      have hhi : (h : Int) < (d.size : Int) := by omega
      have hhi0 : (0 : Int) ≤ (h : Int) := by omega
      have hai : (a : Int) < (d.size : Int) := by omega
      have hai0 : (0 : Int) ≤ (a : Int) := by omega
      clear hh
      obtain ⟨xi, hxi⟩ : ∃ q, d[h]! = q := ⟨_, rfl⟩
      obtain ⟨xj, hxj⟩ : ∃ q, d[a]! = q := ⟨_, rfl⟩
      have li := fun n' os' => S1.out.ld R (by omega) Tryd.prog (h) (by omega) n' os'
      have lj := fun n' os' => S1.out.ld R (by omega) Tryd.prog (a) (by omega) n' os'
      have hcg : ∀ n' os', Calls Tryd.prog 31 #[.agg (Itm.cells xi).toArray, .agg (Itm.cells xj).toArray] (grow (wr.drewN n') os') fun e w' => e = .returned (.int .i64 (cf xi xj)) ∧ ∃ q os'', w' = grow ((grow (wr.drewN n') os').drewN q) os'' := fun n' os' => by
        have := S1.out.cmp HC.out (by omega) xi xj n' os'
        rwa [Array.append_empty] at this
      rw [hxi] at li
      rw [hxj] at lj
      have Hxi := Lib.hid hxi
      have Hxj := Lib.hid hxj
      clear hxi hxj
      by_cases hlv : cf xi xj < 0
      · have HP2 := Lib.hid (show (∀ c, a + 1 ≤ c → c < h + 1 → ltOf cf d[c]! d[a]! = true) ∧ ∀ c, y ≤ c → c < b → ltOf cf d[c]! d[a]! = false from ⟨fun c h1 h2 => by
          have e1 : ltOf cf d[h]! d[a]! = true := by rw [Hxi.out, Hxj.out]; exact ltOf_t hlv
          exact SWO.lt_of_le_lt hO (sorted_at hO H2.out h1 (show c ≤ h by omega) (by omega)) e1, HP.out.2⟩)
        go_wp2_with fail
        go_quiet_grown (first | (go_at_call 31; refine Calls.grown_of (hcg _ _)))
        have S2 : Aside _ := S1.out.grown nq osq
        generalize grow (wr.drewN nq) osq = w2 at S2 ⊢
        clear hcg li lj S1 HP
        go_wp2_with fail
        go_roundw
        case rel => exact ⟨h + 1, y, by go_num, rfl, by omega, by omega, hyb, HP2, S2⟩
        case measure => simp [RowKit.intOf]; omega
      · have HP2 := Lib.hid (show (∀ c, a + 1 ≤ c → c < x → ltOf cf d[c]! d[a]! = true) ∧ ∀ c, h ≤ c → c < b → ltOf cf d[c]! d[a]! = false from ⟨HP.out.1, fun c h1 h2 => by
          have e1 : ltOf cf d[h]! d[a]! = false := by rw [Hxi.out, Hxj.out]; exact ltOf_f hlv
          exact SWO.le_trans hO e1 (sorted_at hO H2.out (by omega) h1 h2)⟩)
        go_wp2_with fail
        go_quiet_grown (first | (go_at_call 31; refine Calls.grown_of (hcg _ _)))
        have S2 : Aside _ := S1.out.grown nq osq
        generalize grow (wr.drewN nq) osq = w2 at S2 ⊢
        clear hcg li lj S1 HP
        go_wp2_with fail
        go_roundw
        case rel => exact ⟨x, h, rfl, rfl, by omega, by omega, by omega, HP2, S2⟩
        case measure => simp [RowKit.intOf]; omega
    · obtain rfl : x = y := by omega
      obtain ⟨W1, rfl⟩ : ∃ W : World, W = wr := ⟨_, rfl⟩
      go_wp2_with fail
      go_loopw [13] (fun i wr => ∃ (z : Nat) (dz : Array Itm), i = .int .i64 z ∧ a ≤ z ∧ z + 1 ≤ x ∧ dz.size = d.size ∧ Hid (PermIn a x d dz ∧ ∀ p, dz[p]! = rotF a (a + 1) (z + 1) d p) ∧ Aside (SWK Itm.cells k6 w0 blk off dz wr)) (fun i _ => x - (RowKit.intOf i).toNat)
      case atStart => exact ⟨a, d, rfl, Nat.le_refl _, hax, rfl, Lib.hid ⟨permIn_refl _ _ _, fun p => by
        unfold rotF
        by_cases c1 : p = a
        · rw [if_neg (by omega), if_pos (by omega)]
          congr 1
          omega
        · rw [if_neg (by omega), if_neg (by omega)]⟩, S1⟩
      case round =>
        clear S1
        obtain ⟨z, dz, rfl, haz, hzx, hds, HR, S1⟩ := hrel
        by_cases hlt2 : z + 1 < x
        · have hlti : (z : Int) < (x : Int) - 1 := by omega
          have HR2 := Lib.hid (show PermIn a x d (swp dz z (z + 1)) ∧ ∀ p, (swp dz z (z + 1))[p]! = rotF a (a + 1) (z + 1 + 1) d p from ⟨permIn_trans _ _ _ _ _ HR.out.1 (swp_permIn _ _ _ _ _ haz (by omega) (by omega) (by omega) (by omega)), rot_up haz (by omega) HR.out.2⟩)
          have ra : IntKind.i64.wrap ((z : Int) + 1) = (z : Int) + 1 := by rw [IntKind.wrap_i64]; omega
          have ta : ((z : Int) + 1).toNat = z + 1 := by omega
          have pa : (0 : Int) ≤ (z : Int) + 1 := by omega
          have la : (z : Int) + 1 < (d.size : Int) := by omega
          have pb : (0 : Int) ≤ (z : Int) := by omega
          have lb : (z : Int) < (d.size : Int) := by omega
          have hz2 : (swp dz z (z + 1)).size = d.size := by rw [size_swp]; exact hds
          have S2 : Aside (SWK Itm.cells k6 w0 blk off (swp dz (z) (z + 1)) ((wr.drew.setCells blk (off + (z) * k6) (Itm.cells dz[z + 1]!)).setCells blk (off + (z + 1) * k6) (Itm.cells dz[z]!))) := S1.out.swapped R (z) (z + 1) (by omega) (by omega)
          have l1 := S1.out.ld1 R (by omega) Tryd.prog (z) (by omega)
          have l2 := S1.out.ld1 R (by omega) Tryd.prog (z + 1) (by omega)
          have s1 := S1.out.st1 R (by omega) Tryd.prog (z) (by omega) dz[z + 1]!
          have s2 := S1.out.st2 R (by omega) Tryd.prog (z) (z + 1) (by omega) (by omega) dz[z + 1]! dz[z]!
          have n1 : (Itm.cells dz[z]!).length = k6 := R.hk _
          have n2 : (Itm.cells dz[z + 1]!).length = k6 := R.hk _
          generalize Itm.cells dz[z]! = cI at S2 l1 s2 n1
          generalize Itm.cells dz[z + 1]! = cJ at S2 l2 s1 s2 n2
          clear S1
          go_wp2_with fail
          go_big_region_o
          clear l1 l2 s1 s2
          generalize (wr.drew.setCells blk (off + (z) * k6) cJ).setCells blk (off + (z + 1) * k6) cI = w2 at S2 ⊢
          go_wp2_with fail
          go_roundw
          case rel => exact ⟨z + 1, _, by go_num, by omega, by omega, hz2, HR2, S2⟩
          case measure => simp [RowKit.intOf]; omega
        · obtain rfl : x = z + 1 := by omega
          have hnl : ¬ (z : Int) < ((z + 1 : Nat) : Int) - 1 := by omega
          go_wp2_with fail
          refine bodyPost_ret (v := .tuple #[]) (results_none rfl _ _ _) rfl ?_
          exact ⟨rfl, dz, permIn_mono _ _ _ _ _ _ (Nat.le_refl a) hyb (by omega) HR.out.1, one_done hO hax hyb H2.out ⟨HR.out.1, HR.out.2⟩ HP.out.1 HP.out.2, S1.out⟩
set_option maxRecDepth 1000000 in
set_option maxHeartbeats 4000000 in
theorem sym_last (k6 : Nat) (h6 : k6 = 6) (cf : Itm → Itm → Int) (hO : SWO (ltOf cf)) (blk off cap a m : Nat) (d0 d : Array Itm) (w0 w : World) (hcmp : CmpLays Tryd.prog 31 #[] Itm.cells k6 cf blk off d0.size w0) (R : RowK Itm.cells k6 w0 blk off d0) (hs : d0.size = d.size) (S : SWK Itm.cells k6 w0 blk off d w) (ham : a + 1 < m) (hb : m + 1 ≤ d.size) (hsz : d.size < 4611686018427387904) (h2 : SortedIn (ltOf cf) a m d) :
    Calls Tryd.prog 66 #[.slice (some ⟨blk, off, none⟩) d.size cap, .int .i64 a, .int .i64 m, .int .i64 ((m : Int) + 1), .func (.func 31) #[] #[]] w fun e w' => e = .returned (.tuple #[]) ∧ ∃ d', PermIn a (m + 1) d d' ∧ SortedIn (ltOf cf) a (m + 1) d' ∧ SWK Itm.cells k6 w0 blk off d' w' := by
  have aE := aggI
  have zE := sizeI h6
  have mixed : Tryd.prog.follows .mixedOrders = true := by kernel_rfl
  have S0 : Aside (SWK Itm.cells k6 w0 blk off d w) := S
  have HC := Lib.hid hcmp
  have H2 := Lib.hid h2
  have hq1 : (((m : Int) - (a : Int)) == 1) = false := by rw [beq_eq_false_iff_ne]; omega
  have hq2 : (((m : Int) + 1 - (m : Int)) == 1) = true := by rw [beq_iff_eq]; omega
  clear h6 S hcmp h2
  go_enter Tryd.func66, Tryd.ntmps66
  go_wp2_with fail
  go_loopw [14, 15] (fun i j wr => ∃ (x y : Nat), i = .int .i64 x ∧ j = .int .i64 y ∧ a ≤ x ∧ x ≤ y ∧ y ≤ m ∧ Hid ((∀ c, a ≤ c → c < x → ltOf cf d[m]! d[c]! = false) ∧ ∀ c, y ≤ c → c < m → ltOf cf d[m]! d[c]! = true) ∧ Aside (SWK Itm.cells k6 w0 blk off d wr)) (fun i j _ => (RowKit.intOf j).toNat - (RowKit.intOf i).toNat)
  case atStart => exact ⟨a, m, rfl, rfl, by omega, by omega, by omega, Lib.hid ⟨fun c h1 h2 => by omega, fun c h1 h2 => by omega⟩, S0⟩
  case round =>
    clear S0
    obtain ⟨x, y, rfl, rfl, hax, hxy, hyb, HP, S1⟩ := hrel
    by_cases hlt : x < y
    · have hlti : (x : Int) < (y : Int) := by omega
      go_upto_region 17 with fail
      obtain ⟨h, hh⟩ : ∃ h : Nat, h = (x + y) / 2 := ⟨_, rfl⟩
      rw [show ((x : Int) + (y : Int)) / 2 = (h : Int) by omega]
      have hh1 : x ≤ h := by omega
      have hh2 : h < y := by omega
      have hhi : (h : Int) < (d.size : Int) := by omega
      have hhi0 : (0 : Int) ≤ (h : Int) := by omega
      have hai : (m : Int) < (d.size : Int) := by omega
      have hai0 : (0 : Int) ≤ (m : Int) := by omega
      clear hh
      obtain ⟨xi, hxi⟩ : ∃ q, d[m]! = q := ⟨_, rfl⟩
      obtain ⟨xj, hxj⟩ : ∃ q, d[h]! = q := ⟨_, rfl⟩
      have li := fun n' os' => S1.out.ld R (by omega) Tryd.prog (m) (by omega) n' os'
      have lj := fun n' os' => S1.out.ld R (by omega) Tryd.prog (h) (by omega) n' os'
      have hcg : ∀ n' os', Calls Tryd.prog 31 #[.agg (Itm.cells xi).toArray, .agg (Itm.cells xj).toArray] (grow (wr.drewN n') os') fun e w' => e = .returned (.int .i64 (cf xi xj)) ∧ ∃ q os'', w' = grow ((grow (wr.drewN n') os').drewN q) os'' := fun n' os' => by
        have := S1.out.cmp HC.out (by omega) xi xj n' os'
        rwa [Array.append_empty] at this
      rw [hxi] at li
      rw [hxj] at lj
      have Hxi := Lib.hid hxi
      have Hxj := Lib.hid hxj
      clear hxi hxj
      by_cases hlv : cf xi xj < 0
      · have HP2 := Lib.hid (show (∀ c, a ≤ c → c < x → ltOf cf d[m]! d[c]! = false) ∧ ∀ c, h ≤ c → c < m → ltOf cf d[m]! d[c]! = true from ⟨HP.out.1, fun c h1 h2 => by
          have e1 : ltOf cf d[m]! d[h]! = true := by rw [Hxi.out, Hxj.out]; exact ltOf_t hlv
          exact SWO.lt_of_lt_le hO e1 (sorted_at hO H2.out (by omega) h1 h2)⟩)
        have hlb : decide (cf xi xj < 0) = true := decide_eq_true hlv
        go_wp2_with fail
        go_quiet_grown (first | (go_at_call 31; refine Calls.grown_of (hcg _ _)))
        have S2 : Aside _ := S1.out.grown nq osq
        generalize grow (wr.drewN nq) osq = w2 at S2 ⊢
        clear hcg li lj S1 HP
        go_wp2_with fail
        go_roundw
        case rel => exact ⟨x, h, rfl, rfl, by omega, by omega, by omega, HP2, S2⟩
        case measure => simp [RowKit.intOf]; omega
      · have HP2 := Lib.hid (show (∀ c, a ≤ c → c < h + 1 → ltOf cf d[m]! d[c]! = false) ∧ ∀ c, y ≤ c → c < m → ltOf cf d[m]! d[c]! = true from ⟨fun c h1 h2 => by
          have e1 : ltOf cf d[m]! d[h]! = false := by rw [Hxi.out, Hxj.out]; exact ltOf_f hlv
          exact SWO.le_trans hO (sorted_at hO H2.out h1 (show c ≤ h by omega) (by omega)) e1, HP.out.2⟩)
        have hlb : decide (cf xi xj < 0) = false := decide_eq_false hlv
        have hlc : (0 : Int) ≤ cf xi xj := by omega
        have hld : decide ((0 : Int) ≤ cf xi xj) = true := decide_eq_true hlc
        have hle : (!decide (cf xi xj < 0)) = true := by rw [hlb]; rfl
        go_wp2_with fail
        go_quiet_grown (first | (go_at_call 31; refine Calls.grown_of (hcg _ _)))
        have S2 : Aside _ := S1.out.grown nq osq
        generalize grow (wr.drewN nq) osq = w2 at S2 ⊢
        clear hcg li lj S1 HP
        go_wp2_with fail
        go_roundw
        case rel => exact ⟨h + 1, y, by go_num, rfl, by omega, by omega, hyb, HP2, S2⟩
        case measure => simp [RowKit.intOf]; omega
    · obtain rfl : x = y := by omega
      obtain ⟨W1, rfl⟩ : ∃ W : World, W = wr := ⟨_, rfl⟩
      go_wp2_with fail
      go_loopw [17] (fun i wr => ∃ (z : Nat) (dz : Array Itm), i = .int .i64 z ∧ x ≤ z ∧ z ≤ m ∧ dz.size = d.size ∧ Hid (PermIn x (m + 1) d dz ∧ ∀ p, dz[p]! = rotF z m (m + 1) d p) ∧ Aside (SWK Itm.cells k6 w0 blk off dz wr)) (fun i _ => (RowKit.intOf i).toNat)
      case atStart => exact ⟨m, d, rfl, hyb, Nat.le_refl _, rfl, Lib.hid ⟨permIn_refl _ _ _, fun p => by
        unfold rotF
        by_cases c1 : p = m
        · rw [if_pos (by omega)]
          congr 1
          omega
        · rw [if_neg (by omega), if_neg (by omega)]⟩, S1⟩
      case round =>
        clear S1
        obtain ⟨z, dz, rfl, haz, hzx, hds, HR, S1⟩ := hrel
        by_cases hlt2 : x < z
        · obtain ⟨zp, rfl⟩ : ∃ zp, z = zp + 1 := ⟨z - 1, by omega⟩
          have hlti : ((zp + 1 : Nat) : Int) > (x : Int) := by omega
          have hlti2 : (x : Int) < (zp : Int) + 1 := by omega
          have HR2 := Lib.hid (show PermIn x (m + 1) d (swp dz (zp + 1) zp) ∧ ∀ p, (swp dz (zp + 1) zp)[p]! = rotF zp m (m + 1) d p from ⟨permIn_trans _ _ _ _ _ HR.out.1 (swp_permIn _ _ _ _ _ (by omega) (by omega) (by omega) (by omega) (by omega)), rot_down (by omega) (by omega) HR.out.2⟩)
          have ra : IntKind.i64.wrap ((zp : Int) + 1 - 1) = (zp : Int) := by rw [IntKind.wrap_i64]; omega
          have ra2 : IntKind.i64.wrap ((zp : Int)) = (zp : Int) := by rw [IntKind.wrap_i64]; omega
          have ta : ((zp : Int) + 1).toNat = zp + 1 := by omega
          have ta2 : ((zp : Int)).toNat = zp := by omega
          have pa : (0 : Int) ≤ (zp : Int) + 1 := by omega
          have la : (zp : Int) + 1 < (d.size : Int) := by omega
          have pb : (0 : Int) ≤ (zp : Int) := by omega
          have lb : (zp : Int) < (d.size : Int) := by omega
          have hz2 : (swp dz (zp + 1) zp).size = d.size := by rw [size_swp]; exact hds
          have S2 : Aside (SWK Itm.cells k6 w0 blk off (swp dz (zp + 1) (zp)) ((wr.drew.setCells blk (off + (zp + 1) * k6) (Itm.cells dz[zp]!)).setCells blk (off + (zp) * k6) (Itm.cells dz[zp + 1]!))) := S1.out.swapped R (zp + 1) (zp) (by omega) (by omega)
          have l1 := S1.out.ld1 R (by omega) Tryd.prog (zp + 1) (by omega)
          have l2 := S1.out.ld1 R (by omega) Tryd.prog (zp) (by omega)
          have s1 := S1.out.st1 R (by omega) Tryd.prog (zp + 1) (by omega) dz[zp]!
          have s2 := S1.out.st2 R (by omega) Tryd.prog (zp + 1) (zp) (by omega) (by omega) dz[zp]! dz[zp + 1]!
          have n1 : (Itm.cells dz[zp + 1]!).length = k6 := R.hk _
          have n2 : (Itm.cells dz[zp]!).length = k6 := R.hk _
          generalize Itm.cells dz[zp + 1]! = cI at S2 l1 s2 n1
          generalize Itm.cells dz[zp]! = cJ at S2 l2 s1 s2 n2
          clear S1
          go_wp2_with fail
          go_big_region_o
          clear l1 l2 s1 s2
          generalize (wr.drew.setCells blk (off + (zp + 1) * k6) cJ).setCells blk (off + (zp) * k6) cI = w2 at S2 ⊢
          go_wp2_with fail
          go_roundw
          case rel => exact ⟨zp, _, by first | rfl | go_num | (congr 1; omega), by omega, by omega, hz2, HR2, S2⟩
          case measure => simp [RowKit.intOf]
        · obtain rfl : x = z := by omega
          have hnl : ¬ (x : Int) > (x : Int) := by omega
          go_wp2_with fail
          refine bodyPost_ret (v := .tuple #[]) (results_none rfl _ _ _) rfl ?_
          exact ⟨rfl, dz, permIn_mono _ _ _ _ _ _ hax (Nat.le_refl _) (by omega) HR.out.1, last_done hO hax hyb H2.out ⟨HR.out.1, HR.out.2⟩ HP.out.1 HP.out.2, S1.out⟩
end Go.Proofs.YtfbdbjookkogjaaDoor

