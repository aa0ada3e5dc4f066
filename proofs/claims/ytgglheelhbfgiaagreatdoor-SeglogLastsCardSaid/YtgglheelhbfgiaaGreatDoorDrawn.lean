/-
  'out = append(out, x)' at a step of a region that draws its order. Of no program.
-/
import Derived.Test.YtgglheelhbfgiaaGreatDoorStructs
import Derived.Deep.AppendLies
import Derived.WalkSmall
import Derived.Deep.RegionHeld3
namespace Go.Proofs.YtgglheelhbfgiaaGreatDoor
open Go Go.RowKit
theorem OwnRows.drewN {α : Type} {L : Lay α} {w : World} {base : Nat} {e : TypeId} {v : Value} {xs : List α} (h : OwnRows L w base e v xs) (n : Nat) : OwnRows L (w.drewN n) base e v xs := h.below (below_drewN (Below.refl _ _) n)
section
variable {α : Type} {P : Program} (w : World)
theorem step_append_rows {ops : Array Oper} {o : Oper} {a : Act} {K : Act → World → Prop} {Q : Exit → Act → World → Prop} {E : Prop} (hgd : o.guard = none) (s x : Operand) (t : TypeId)
    (ho : o.op = .call { callee := .builtin .append, args := #[s, x], argTypes := #[t, t] })
    (L : Lay α) (base : Nat) (e : TypeId) (i : TypeInfo) (z : Value) (bytes : Nat) (ht : P.underlying t = some (.slice e)) (hi : P.info? e = some i) (hz : i.zero = some z)
    (hsize : i.size = L.sz) (hby : i.bytes = bytes) (hzs : z.cells.size = L.sz) (hsz : 0 < L.sz)
    (v : Value) (xs : List α) (hs : a.eval s = v) (hown : OwnRows L w base e v xs)
    (ad : Addr) (c : Nat) (y : α) (hx : a.eval x = .slice (some ad) 1 c) (hnews : ∀ j u, (L.cells y)[j]? = some u → w.cell? (ad.add j) = some u)
    (h63 : xs.length + 1 ≤ maxLen) (hbytes : (xs.length + 1) * bytes ≤ 140737488355328) (hbase : base ≤ w.heap.size)
    (h : ∀ v' w', OwnRows L w' base e v' (xs ++ [y]) → w.grownBy w' v.ownBlock → K (a.put o.dst v') w') :
    if Region.wanted o (yielded ops a.tmps) = true then Oper.wp P o a w K Q else E := by
  refine step_append_lies w hgd s x t ho base e i z L.sz bytes ht hi hz hsize hby hzs hsz v xs.length (flat L xs) hs hown ad 1 c (L.cells y) hx (by rw [L.len]; omega) hnews (L.one y) (by omega) h63 hbytes hbase _ rfl ?_
  intro g cap w' h1 h2 _ _
  refine h _ w' ?_ h2
  unfold OwnRows
  rw [flat_snoc, List.length_append]
  exact h1
end
end Go.Proofs.YtgglheelhbfgiaaGreatDoor
