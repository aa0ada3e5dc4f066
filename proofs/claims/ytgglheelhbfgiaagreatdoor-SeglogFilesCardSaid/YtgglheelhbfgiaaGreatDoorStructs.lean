/-
  Slices of structs, as lists: what is read, what is appended to. Of no program.
-/
import Derived.Test.YtgglheelhbfgiaaGreatDoorSlices
import Derived.Test.YtgglheelhbfgiaaGreatDoorMaps
import Derived.Maps.AppendAt
import Derived.OwnWalk
namespace Go.Proofs.YtgglheelhbfgiaaGreatDoor
open Go Go.RowKit

/-- How a struct lies in memory: its cells. -/
structure Lay (α : Type) where
  sz : Nat
  cells : α → List Value
  len : ∀ x, (cells x).length = sz
  one : ∀ x, ∀ v ∈ cells x, v.oneCell' = true

section
variable {α : Type}
/-- The cells from a on are those of xs (where there are any). -/
def RowsAt (L : Lay α) (w : World) (a : Option Addr) (xs : List α) : Prop :=
  ∀ j x, xs[j]? = some x → ∃ b off, a = some ⟨b, off, none⟩ ∧ b < w.heap.size ∧ ∀ f v, (L.cells x)[f]? = some v → w.cell? ⟨b, off + j * L.sz + f, none⟩ = some v
theorem RowsAt.keeps {L : Lay α} {w w' : World} {a : Option Addr} {xs : List α} (h : RowsAt L w a xs) (hb : Below w.heap.size w w') : RowsAt L w' a xs := by
  intro j x hj
  obtain ⟨b, off, e, hlt, hc⟩ := h j x hj
  exact ⟨b, off, e, Nat.lt_of_lt_of_le hlt hb.size, fun f v hf => by rw [hb.cell (p := ⟨b, _, none⟩) hlt]; exact hc f v hf⟩
theorem RowsAt.nil (L : Lay α) (w : World) (a : Option Addr) : RowsAt L w a [] := fun j x hj => by simp at hj
theorem RowsAt.of_prefix {L : Lay α} {w : World} {a : Option Addr} {xs ys : List α} (h : RowsAt L w a xs) (hp : ys <+: xs) : RowsAt L w a ys := by
  intro j x hj
  obtain ⟨t, rfl⟩ := hp
  exact h j x (by rw [List.getElem?_append_left (List.getElem?_eq_some_iff.1 hj).1]; exact hj)

def flat (L : Lay α) (xs : List α) : List Value := xs.flatMap L.cells
theorem flat_nil (L : Lay α) : flat L [] = [] := rfl
theorem flat_snoc (L : Lay α) (xs : List α) (x : α) : flat L (xs ++ [x]) = flat L xs ++ L.cells x := by simp [flat]
theorem flat_append (L : Lay α) (xs ys : List α) : flat L (xs ++ ys) = flat L xs ++ flat L ys := by simp [flat]
theorem flat_length (L : Lay α) (xs : List α) : (flat L xs).length = xs.length * L.sz := by
  induction xs with
  | nil => simp [flat]
  | cons x xs ih =>
    have : flat L (x :: xs) = L.cells x ++ flat L xs := by simp [flat]
    rw [this, List.length_append, L.len, ih, List.length_cons, Nat.succ_mul]
    omega
theorem flat_at (L : Lay α) : ∀ (xs : List α) (j : Nat) (x : α), xs[j]? = some x → ∀ f v, (L.cells x)[f]? = some v → (flat L xs)[j * L.sz + f]? = some v := by
  intro xs
  induction xs with
  | nil => intro j x hj; simp at hj
  | cons y xs ih =>
    intro j x hj f v hf
    have e : flat L (y :: xs) = L.cells y ++ flat L xs := by simp [flat]
    rw [e]
    cases j with
    | zero =>
      simp only [List.getElem?_cons_zero, Option.some.injEq] at hj
      subst hj
      have := (List.getElem?_eq_some_iff.1 hf).1
      rw [Nat.zero_mul, Nat.zero_add, List.getElem?_append_left this]
      exact hf
    | succ j =>
      simp only [List.getElem?_cons_succ] at hj
      rw [List.getElem?_append_right (by rw [L.len, Nat.succ_mul]; omega), L.len, show (j + 1) * L.sz + f - L.sz = j * L.sz + f from by rw [Nat.succ_mul]; omega]
      exact ih j x hj f v hf
theorem flat_one (L : Lay α) (xs : List α) : ∀ v ∈ flat L xs, v.oneCell' = true := fun v hv => by
  obtain ⟨x, _, hx⟩ := List.mem_flatMap.1 hv
  exact L.one x v hx

theorem flat_of_at (L : Lay α) (hsz : 0 < L.sz) : ∀ (xs : List α) (j : Nat) (v : Value), (flat L xs)[j]? = some v → ∃ x, xs[j / L.sz]? = some x ∧ (L.cells x)[j % L.sz]? = some v := by
  intro xs
  induction xs with
  | nil => intro j v h; simp [flat] at h
  | cons y xs ih =>
    intro j v h
    have e : flat L (y :: xs) = L.cells y ++ flat L xs := by simp [flat]
    rw [e] at h
    by_cases hj : j < L.sz
    · rw [List.getElem?_append_left (by rw [L.len]; exact hj)] at h
      rw [Nat.div_eq_of_lt hj, Nat.mod_eq_of_lt hj]
      exact ⟨y, rfl, h⟩
    · rw [List.getElem?_append_right (by rw [L.len]; omega), L.len] at h
      obtain ⟨x, h1, h2⟩ := ih _ _ h
      refine ⟨x, ?_, ?_⟩
      · rw [Nat.div_eq_sub_div hsz (by omega)]
        simpa using h1
      · rw [Nat.mod_eq_sub_mod (by omega)]
        exact h2
theorem rows_flat {L : Lay α} {w : World} {ad : Addr} {xs : List α} (hsz : 0 < L.sz) (h : RowsAt L w (some ad) xs) : ∀ j u, (flat L xs)[j]? = some u → w.cell? (ad.add j) = some u := by
  intro j u hj
  obtain ⟨x, h1, h2⟩ := flat_of_at L hsz xs j u hj
  obtain ⟨b, off, e, _, hc⟩ := h _ _ h1
  have := hc _ _ h2
  cases e
  have e2 : (⟨b, off, none⟩ : Addr).add j = ⟨b, off + j / L.sz * L.sz + j % L.sz, none⟩ := by
    have := Nat.div_add_mod j L.sz
    rw [Nat.mul_comm] at this
    unfold Addr.add
    split
    · simp only [Addr.mk.injEq, true_and, and_true]; omega
    · simp only [Addr.mk.injEq, true_and, and_true]; omega
  rw [e2]
  exact this
theorem RowsAt.take {L : Lay α} {w : World} {a : Option Addr} {xs : List α} (h : RowsAt L w a xs) (k : Nat) : RowsAt L w a (xs.take k) := h.of_prefix (List.take_prefix _ _)
theorem RowsAt.drop {L : Lay α} {w : World} {b off : Nat} {xs : List α} (h : RowsAt L w (some ⟨b, off, none⟩) xs) (k : Nat) : RowsAt L w (some ⟨b, off + k * L.sz, none⟩) (xs.drop k) := by
  intro j x hj
  rw [List.getElem?_drop] at hj
  obtain ⟨b', off', e, hlt, hc⟩ := h _ _ hj
  cases e
  refine ⟨b, off + k * L.sz, rfl, hlt, fun f v hf => ?_⟩
  have := hc f v hf
  rwa [show off + (k + j) * L.sz + f = off + k * L.sz + j * L.sz + f by rw [Nat.add_mul]; omega] at this

/-- What the call itself appends to: the slice v is xs. -/
def OwnRows (L : Lay α) (w : World) (base : Nat) (e : TypeId) (v : Value) (xs : List α) : Prop := w.ownsRow base e L.sz v xs.length (flat L xs)
theorem OwnRows.nil (L : Lay α) (w : World) (base : Nat) (e : TypeId) : OwnRows L w base e (.slice none 0 0) [] := World.ownsRow_nil _ _ _ _
theorem OwnRows.below {L : Lay α} {w w' : World} {base : Nat} {e : TypeId} {v : Value} {xs : List α} (h : OwnRows L w base e v xs) (hb : Below w.heap.size w w') : OwnRows L w' base e v xs := by
  refine ⟨h.1, ?_⟩
  rcases h.2 with hn | ⟨g, cap, cur, rfl, hg, hgg, rest⟩
  · exact .inl hn
  · refine .inr ⟨g, cap, cur, rfl, hg, ?_, rest⟩
    rw [hb.block g (Array.getElem?_eq_some_iff.1 hgg).1]
    exact hgg
theorem OwnRows.kept {L : Lay α} {w w' : World} {base : Nat} {e : TypeId} {v : Value} {xs : List α} {row : Option Nat} (h : OwnRows L w base e v xs) (hg : w.grownBy w' row) (hne : v.ownBlock = none ∨ v.ownBlock ≠ row) : OwnRows L w' base e v xs := World.ownsRow.kept h hg hne
theorem OwnRows.alloc {L : Lay α} {w : World} {base : Nat} {e : TypeId} {v : Value} {xs : List α} (h : OwnRows L w base e v xs) (o : Obj) : OwnRows L (w.alloc o) base e v xs := World.ownsRow.alloc h o
theorem OwnRows.lt {L : Lay α} {w : World} {base : Nat} {e : TypeId} {v : Value} {xs : List α} (h : OwnRows L w base e v xs) {k : Nat} (hk : v.ownBlock = some k) : base ≤ k ∧ k < w.heap.size := World.ownsRow.lt h k hk
theorem OwnRows.lower {L : Lay α} {w : World} {base base' : Nat} {e : TypeId} {v : Value} {xs : List α} (h : OwnRows L w base e v xs) (hb : base' ≤ base) : OwnRows L w base' e v xs := by
  refine ⟨h.1, ?_⟩
  rcases h.2 with hn | ⟨g, cap, cur, rfl, hg, rest⟩
  · exact .inl hn
  · exact .inr ⟨g, cap, cur, rfl, Nat.le_trans hb hg, rest⟩
/-- As a slice that is read. -/
theorem OwnRows.read {L : Lay α} {w : World} {base : Nat} {e : TypeId} {v : Value} {xs : List α} (h : OwnRows L w base e v xs) : ∃ a cap, v = .slice a xs.length cap ∧ RowsAt L w a xs ∧ xs.length ≤ cap := by
  rcases h.2 with ⟨rfl, hx⟩ | ⟨g, cap, cur, rfl, hg, hgg, hcap, rest⟩
  · have : xs = [] := List.length_eq_zero_iff.1 (by simpa using hx)
    subst this
    exact ⟨none, 0, rfl, RowsAt.nil _ _ _, Nat.le_refl _⟩
  · refine ⟨some ⟨g, 0, none⟩, cap, rfl, fun j x hj => ⟨g, 0, rfl, (World.ownsRow.lt h g rfl).2, fun f v hf => ?_⟩, hcap⟩
    have := World.ownsRow.cells h (g := g) rfl (j * L.sz + f) v (flat_at L xs j x hj f v hf)
    have e : ((⟨g, 0, none⟩ : Addr).add (j * L.sz + f)) = ⟨g, 0 + j * L.sz + f, none⟩ := by
      unfold Addr.add
      split
      · simp only [Addr.mk.injEq, true_and, and_true]; omega
      · simp only [Addr.mk.injEq, true_and, and_true]; omega
    rwa [e] at this
theorem OwnRows.read_nil {L : Lay α} {w : World} {base : Nat} {e : TypeId} {v : Value} {xs : List α} (h : OwnRows L w base e v xs) : ∃ a cap, v = .slice a xs.length cap ∧ RowsAt L w a xs ∧ xs.length ≤ cap ∧ (a = none → cap = 0) ∧ cap ≤ maxLen := by
  obtain ⟨a, cap, rfl, h1, h2⟩ := h.read
  refine ⟨a, cap, rfl, h1, h2, ?_⟩
  rcases h.2 with ⟨h3, _⟩ | ⟨g, cap', cur, h3, _, _, _, h4, _⟩
  · injection h3 with _ _ h5
    exact ⟨fun _ => h5, by rw [h5]; exact Nat.zero_le _⟩
  · injection h3 with h4' _ h5
    exact ⟨fun h => (by rw [h] at h4'; cases h4'), by rw [h5]; exact h4⟩
/-- A map's block and a row's are never one. -/
theorem OwnRows.ne_map {L : Lay α} {w : World} {base : Nat} {e : TypeId} {v : Value} {xs : List α} (h : OwnRows L w base e v xs) {κ : Type} {inj : κ → Value} {b n : Nat} {g : κ → Option Value} (hm : MapOf inj w b n g) : some b ≠ v.ownBlock := by
  intro he
  rcases h.2 with ⟨rfl, _⟩ | ⟨q, cap, cur, rfl, hq, hqq, _⟩
  · cases he
  · simp only [Value.ownBlock, Option.some.injEq] at he
    subst he
    obtain ⟨es, clock, hb, _⟩ := hm
    rw [hqq] at hb
    cases hb

/-- Cells in a block that has just been laid. -/
theorem cells_new (w : World) (cs : Array Value) (t : TypeId) : ∀ j u, cs.toList[j]? = some u → (w.alloc (.cells cs t)).cell? ((⟨w.heap.size, 0, none⟩ : Addr).add j) = some u := by
  intro j u hj
  have hc : cs[j]? = some u := by simpa using hj
  unfold Addr.add
  split
  · rename_i h0; subst h0; simpa using hc
  · simpa using hc
end

theorem cells_new_at (w : World) (b : Nat) (cs : Array Value) (t : TypeId) (hb : b = w.heap.size) : ∀ j u, cs.toList[j]? = some u → (w.alloc (.cells cs t)).cell? ((⟨b, 0, none⟩ : Addr).add j) = some u := by
  subst hb; exact cells_new w cs t
/-- A slice that has just been laid. -/
theorem rows_new {α : Type} (L : Lay α) (w : World) (b : Nat) (cs : Array Value) (t : TypeId) (xs : List α) (hb : b = w.heap.size) (hcs : cs.toList = flat L xs) : RowsAt L (w.alloc (.cells cs t)) (some ⟨b, 0, none⟩) xs := by
  subst hb
  intro j x hj
  refine ⟨_, 0, rfl, by simp, fun f v hf => ?_⟩
  have := flat_at L xs j x hj f v hf
  rw [← hcs] at this
  have := cells_new w cs t _ v this
  have e : ((⟨w.heap.size, 0, none⟩ : Addr).add (j * L.sz + f)) = ⟨w.heap.size, 0 + j * L.sz + f, none⟩ := by
    unfold Addr.add
    split
    · simp only [Addr.mk.injEq, true_and, and_true]; omega
    · simp only [Addr.mk.injEq, true_and, and_true]; omega
  rwa [e] at this
/-- Behind a call, a block that was laid just ahead of it. -/
theorem after_box {w w1 : World} {o : Obj} (hb : Below (w.alloc o).heap.size (w.alloc o) w1) : (∀ i, w1.cell? ⟨w.heap.size, i, none⟩ = (w.alloc o).cell? ⟨w.heap.size, i, none⟩) ∧ (∀ i, w1.frozen? ⟨w.heap.size, i, none⟩ = (w.alloc o).frozen? ⟨w.heap.size, i, none⟩) ∧ w.heap.size < w1.heap.size :=
  ⟨fun i => hb.cell (p := ⟨w.heap.size, i, none⟩) (by simp), fun i => hb.frozen (p := ⟨w.heap.size, i, none⟩) (by simp), by have := hb.size; simp at this; omega⟩
theorem below_box {w w1 : World} {o : Obj} (hb : Below (w.alloc o).heap.size (w.alloc o) w1) : Below w.heap.size w w1 :=
  ((Below.refl _ _).alloc (Nat.le_refl _) _).trans (hb.mono (by simp))

section
variable {α : Type} {P : Program} (w : World)
/-- 'out = append(out, x)', at the operation. -/
theorem wpList_append_rows {ops : Array Oper} {rest : List Oper} {o : Oper} {a : Act} {Q : Exit → Act → World → Prop} (hgd : o.guard = none) (s x : Operand) (t : TypeId)
    (ho : o.op = .call { callee := .builtin .append, args := #[s, x], argTypes := #[t, t] })
    (L : Lay α) (base : Nat) (e : TypeId) (i : TypeInfo) (z : Value) (bytes : Nat) (ht : P.underlying t = some (.slice e)) (hi : P.info? e = some i) (hz : i.zero = some z)
    (hsize : i.size = L.sz) (hby : i.bytes = bytes) (hzs : z.cells.size = L.sz) (hsz : 0 < L.sz)
    (v : Value) (xs : List α) (hs : a.eval s = v) (hown : OwnRows L w base e v xs)
    (ad : Addr) (c : Nat) (y : α) (hx : a.eval x = .slice (some ad) 1 c) (hnews : ∀ j u, (L.cells y)[j]? = some u → w.cell? (ad.add j) = some u)
    (h63 : xs.length + 1 ≤ maxLen) (hbytes : (xs.length + 1) * bytes ≤ 140737488355328) (hbase : base ≤ w.heap.size)
    (h : ∀ v' w', OwnRows L w' base e v' (xs ++ [y]) → w.grownBy w' v.ownBlock → (v'.ownBlock = v.ownBlock ∨ v'.ownBlock = some w.heap.size) → wpList P ops Q rest (a.put o.dst v') w') :
    wpList P ops Q (o :: rest) a w := by
  refine wpList_append_own_at (w := w) hgd s x t ho base e i z L.sz bytes ht hi hz hsize hby hzs hsz v xs.length (flat L xs) hs hown ad 1 c (L.cells y) hx (by rw [L.len]; omega) hnews (L.one y) h63 hbytes hbase ?_
  intro v' w' h1 h2 _ h4
  refine h v' w' ?_ h2 h4
  unfold OwnRows
  rw [flat_snoc, List.length_append]
  exact h1
end
end Go.Proofs.YtgglheelhbfgiaaGreatDoor
