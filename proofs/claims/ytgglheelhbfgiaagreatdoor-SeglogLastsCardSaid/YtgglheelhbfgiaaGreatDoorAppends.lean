/-
  Slices that have just been built, and 'out = append(out, more...)'. Of no program.
-/
import Derived.Test.YtgglheelhbfgiaaGreatDoorDrawn
import Derived.Laws.OwnMore
import Derived.Laws.AppendOwnNone
namespace Go.Proofs.YtgglheelhbfgiaaGreatDoor
open Go Go.RowKit
section
variable {α : Type} {P : Program} (w : World)
theorem OwnRows.lit (L : Lay α) (b base : Nat) (e : TypeId) (cs : Array Value) (n : Nat) (xs : List α) (hbb : b = w.heap.size) (hb : base ≤ w.heap.size) (hm : n ≤ maxLen) (hn : xs.length = n) (hcs : cs.toList = flat L xs) :
    OwnRows L (w.alloc (.cells cs e)) base e (.slice (some ⟨b, 0, none⟩) n n) xs := by
  subst hbb; subst hn
  unfold OwnRows
  rw [← hcs]
  exact World.ownsRow_lit w cs xs.length hb hm (by rw [← Array.length_toList, hcs, flat_length])
/-- 'out = append(out, more...)', at the operation. -/
theorem wpList_append_all {ops : Array Oper} {rest : List Oper} {o : Oper} {a : Act} {Q : Exit → Act → World → Prop} (hgd : o.guard = none) (s x : Operand) (t : TypeId)
    (ho : o.op = .call { callee := .builtin .append, args := #[s, x], argTypes := #[t, t] })
    (L : Lay α) (base : Nat) (e : TypeId) (i : TypeInfo) (z : Value) (bytes : Nat) (ht : P.underlying t = some (.slice e)) (hi : P.info? e = some i) (hz : i.zero = some z)
    (hsize : i.size = L.sz) (hby : i.bytes = bytes) (hzs : z.cells.size = L.sz) (hsz : 0 < L.sz)
    (v : Value) (xs : List α) (hs : a.eval s = v) (hown : OwnRows L w base e v xs)
    (u : Value) (ys : List α) (base' : Nat) (hx : a.eval x = u) (hu : OwnRows L w base' e u ys)
    (h63 : xs.length + ys.length ≤ maxLen) (hbytes : (xs.length + ys.length) * bytes ≤ 140737488355328) (hbase : base ≤ w.heap.size)
    (h : ∀ v' w', OwnRows L w' base e v' (xs ++ ys) → w.grownBy w' v.ownBlock → (v'.ownBlock = v.ownBlock ∨ v'.ownBlock = some w.heap.size) → wpList P ops Q rest (a.put o.dst v') w') :
    wpList P ops Q (o :: rest) a w := by
  rcases hu.2 with ⟨hu0, hy⟩ | ⟨g, cap, cur, rfl, hg, hgg, hcap, _⟩
  · have : ys = [] := List.length_eq_zero_iff.1 (by simpa using hy)
    subst this
    subst hu0
    refine wpList_append_own_none hgd s x t ho base e i L.sz ht hi v xs.length (flat L xs) hs hown hx ?_
    have := h v w (by simpa using hown) ⟨rfl, rfl, rfl, Nat.le_refl _, fun _ _ _ => rfl⟩ (.inl rfl)
    exact this
  · refine wpList_append_own_at (w := w) hgd s x t ho base e i z L.sz bytes ht hi hz hsize hby hzs hsz v xs.length (flat L xs) hs hown ⟨g, 0, none⟩ ys.length cap (flat L ys) hx (flat_length L ys) (World.ownsRow.cells hu (g := g) rfl) (flat_one L ys) h63 hbytes hbase ?_
    intro v' w' h1 h2 _ h4
    refine h v' w' ?_ h2 h4
    unfold OwnRows
    rw [flat_append, List.length_append]
    exact h1
/-- 'out = append(out, xs...)', xs a slice that is only read. -/
theorem wpList_append_from {ops : Array Oper} {rest : List Oper} {o : Oper} {a : Act} {Q : Exit → Act → World → Prop} (hgd : o.guard = none) (s x : Operand) (t : TypeId)
    (ho : o.op = .call { callee := .builtin .append, args := #[s, x], argTypes := #[t, t] })
    (L : Lay α) (base : Nat) (e : TypeId) (i : TypeInfo) (z : Value) (bytes : Nat) (ht : P.underlying t = some (.slice e)) (hi : P.info? e = some i) (hz : i.zero = some z)
    (hsize : i.size = L.sz) (hby : i.bytes = bytes) (hzs : z.cells.size = L.sz) (hsz : 0 < L.sz)
    (v : Value) (xs : List α) (hs : a.eval s = v) (hown : OwnRows L w base e v xs)
    (ad : Option Addr) (c m : Nat) (ys : List α) (hx : a.eval x = .slice ad m c) (hm : ys.length = m) (hu : RowsAt L w ad ys) (hnil : ad = none → c = 0)
    (h63 : xs.length + ys.length ≤ maxLen) (hbytes : (xs.length + ys.length) * bytes ≤ 140737488355328) (hbase : base ≤ w.heap.size)
    (h : ∀ v' w', OwnRows L w' base e v' (xs ++ ys) → w.grownBy w' v.ownBlock → (v'.ownBlock = v.ownBlock ∨ v'.ownBlock = some w.heap.size) → wpList P ops Q rest (a.put o.dst v') w') :
    wpList P ops Q (o :: rest) a w := by
  subst hm
  cases ad with
  | none =>
    obtain rfl := hnil rfl
    have : ys = [] := by
      cases ys with
      | nil => rfl
      | cons y ys =>
        obtain ⟨b, off, e, _⟩ := hu 0 y rfl
        cases e
    subst this
    refine wpList_append_own_none hgd s x t ho base e i L.sz ht hi v xs.length (flat L xs) hs hown hx ?_
    exact h v w (by simpa using hown) ⟨rfl, rfl, rfl, Nat.le_refl _, fun _ _ _ => rfl⟩ (.inl rfl)
  | some ad =>
    refine wpList_append_own_at (w := w) hgd s x t ho base e i z L.sz bytes ht hi hz hsize hby hzs hsz v xs.length (flat L xs) hs hown ad ys.length c (flat L ys) hx (flat_length L ys) (rows_flat hsz hu) (flat_one L ys) h63 hbytes hbase ?_
    intro v' w' h1 h2 _ h4
    refine h v' w' ?_ h2 h4
    unfold OwnRows
    rw [flat_append, List.length_append]
    exact h1
end
end Go.Proofs.YtgglheelhbfgiaaGreatDoor
