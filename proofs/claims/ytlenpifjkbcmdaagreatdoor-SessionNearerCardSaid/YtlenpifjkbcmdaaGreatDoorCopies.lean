/-
  'copy' of rows of structs; what slices.Insert leaves in a row. Of no program.
-/
import Derived.Test.YtlenpifjkbcmdaaGreatDoorStructs
import Derived.Test.YtlenpifjkbcmdaaGreatDoorSliced
import Derived.Laws.CopyRow
import Derived.Lib.AppendZerosOnto
import Derived.Lib.Overlaps
namespace Go.Proofs.YtlenpifjkbcmdaaGreatDoor
open Go Go.RowKit

section
variable {P : Program}
theorem run_copy_rows (w : World) (dT sT ty elem : TypeId) (g o dLen dCap : Nat) (a : Addr) (sLen sCap : Nat) (cur : Array Value) (t : TypeId) (cs : List Value) (sz n : Nat)
    (hu : P.underlying dT = some (.slice elem)) (hs : (P.info? elem).map (·.size) = some sz)
    (hg : w.heap[g]? = some (.cells cur t (0, 0))) (hn : n = Nat.min sLen dLen) (hcl : cs.length = n * sz)
    (hsrc : ∀ j v, cs[j]? = some v → w.cell? (a.add j) = some v) (hfit : o + cs.length ≤ cur.size) (h1 : ∀ v ∈ cs, v.oneCell' = true) :
    (Builtin.copy_ #[dT, sT] ty #[.slice (some ⟨g, o, none⟩) dLen dCap, .slice (some a) sLen sCap]).run P w =
      .ok (goInt n) (w.setRow g (cur.toList.take o ++ cs ++ cur.toList.drop (o + cs.length)).toArray) := by
  have hl := run_loadCells_list (P := P) w a cs hsrc
  have hst := run_storeCells_at P g o t cs 0 cur w hg (by simpa using hfit) h1
  cases hq : P.info? elem with
  | none => simp [hq] at hs
  | some i =>
    have hi : i.size = sz := by simpa [hq] using hs
    simp [Builtin.copy_, run_underlying hu, Builtin.lenOf, Builtin.firstCells, sizeOf, typeInfo, hq, hi, ← hn, ← hcl, hl, hst]

/-- 'copy(d, s)' at the operation, its run known. -/
theorem wp_copy_run (w : World) {o : Oper} {a : Act} {K : Act → World → Prop} {Q : Exit → Act → World → Prop} (d s : Operand) (t t' : TypeId)
    (ho : o.op = .call { callee := .builtin .copy, args := #[d, s], argTypes := #[t, t'] }) (v u : Value) (hd : a.eval d = v) (hs : a.eval s = u) {v' : Value} {w' : World}
    (hr : (Builtin.copy_ #[t, t'] o.type #[v, u]).run P w = .ok v' w') (h : K (a.put o.dst v') w') : o.wp P a w K Q := by
  unfold Oper.wp execOp
  simp only [ho, resolve, invoke, builtin, Sem.run_bind, Sem.run_pure, Result.andThen_ok, List.map_toArray, List.map_cons, List.map_nil, hd, hs, hr]
  exact h
theorem wpList_copy_run (w : World) {ops : Array Oper} {rest : List Oper} {o : Oper} {a : Act} {Q : Exit → Act → World → Prop} (hgd : o.guard = none) (d s : Operand) (t t' : TypeId)
    (ho : o.op = .call { callee := .builtin .copy, args := #[d, s], argTypes := #[t, t'] }) (v u : Value) (hd : a.eval d = v) (hs : a.eval s = u) {v' : Value} {w' : World}
    (hr : (Builtin.copy_ #[t, t'] o.type #[v, u]).run P w = .ok v' w') (h : wpList P ops Q rest (a.put o.dst v') w') : wpList P ops Q (o :: rest) a w :=
  wpList_plain hgd fun _ hK => wp_copy_run w d s t t' ho v u hd hs hr (hK _ _ h)
theorem step_copy_run {ops : Array Oper} {o : Oper} {a : Act} {w : World} {K : Act → World → Prop} {Q : Exit → Act → World → Prop} {E : Prop}
    (hg : o.guard = none) (d x : Operand) (dT sT : TypeId) (hop : o.op = Op.call { callee := Callee.builtin Builtin.copy, args := #[d, x], argTypes := #[dT, sT] })
    (v u : Value) (hd : a.eval d = v) (hx : a.eval x = u) {v' : Value} {w' : World} (hr : (Builtin.copy_ #[dT, sT] o.type #[v, u]).run P w = .ok v' w') (hK : K (a.put o.dst v') w') :
    if Region.wanted o (yielded ops a.tmps) = true then Oper.wp P o a w K Q else E := by
  have hw : Region.wanted o (yielded ops a.tmps) = true := by simp [Region.wanted, hg]
  rw [if_pos hw]
  exact wp_copy_run w d x dT sT hop v u hd hx hr hK
end

theorem lowA_some {g k c sz : Nat} (h : c ≠ k) : lowA (some ⟨g, 0, none⟩) k c sz = some ⟨g, k * sz, none⟩ := by
  unfold lowA
  rw [if_neg h]
  simp only [Option.map_some, Option.some.injEq]
  unfold Addr.add
  split
  · rename_i h0; rw [h0]
  · simp
/-- The element first, then what stood from there on. -/
theorem ins_grow {A X D F : List Value} {k n s : Nat} (hF : A.take (k * s) = F) (hX : X.length = s) (hD : D.length = (n - k) * s) (hk : k ≤ n) (_ : (n + 1) * s ≤ A.length) (hFl : F.length = k * s) :
    (((A.take (k * s) ++ X ++ A.drop (k * s + X.length)).take ((k + 1) * s) ++ D ++ (A.take (k * s) ++ X ++ A.drop (k * s + X.length)).drop ((k + 1) * s + D.length)).take ((n + 1) * s)) = F ++ X ++ D := by
  have e1 : (k + 1) * s = (F ++ X).length := by rw [List.length_append, hFl, hX, Nat.add_mul, Nat.one_mul]
  have e2 : (n + 1) * s = (F ++ X ++ D).length := by
    rw [List.length_append, ← e1, hD, ← Nat.add_mul]
    congr 1
    omega
  rw [hF, e1, List.take_left, e2, List.take_left]
/-- What stood from there on first, then the element. -/
theorem ins_shift {A X D F : List Value} {k n s : Nat} (hF : A.take (k * s) = F) (hX : X.length = s) (hD : D.length = (n - k) * s) (hk : k ≤ n) (hFl : F.length = k * s) (hA : (n + 1) * s ≤ A.length) :
    (((A.take ((k + 1) * s) ++ D ++ A.drop ((k + 1) * s + D.length)).take (k * s) ++ X ++ (A.take ((k + 1) * s) ++ D ++ A.drop ((k + 1) * s + D.length)).drop (k * s + X.length)).take ((n + 1) * s)) = F ++ X ++ D := by
  have hle : (k + 1) * s ≤ A.length := Nat.le_trans (Nat.mul_le_mul_right _ (by omega)) hA
  have h1 : (A.take ((k + 1) * s) ++ D ++ A.drop ((k + 1) * s + D.length)).take (k * s) = F := by
    rw [List.append_assoc, List.take_append_of_le_length (by rw [List.length_take, Nat.min_eq_left hle]; exact Nat.mul_le_mul_right _ (by omega)), List.take_take, Nat.min_eq_left (Nat.mul_le_mul_right _ (by omega)), hF]
  have h2 : (A.take ((k + 1) * s) ++ D ++ A.drop ((k + 1) * s + D.length)).drop (k * s + X.length) = D ++ A.drop ((k + 1) * s + D.length) := by
    have : k * s + X.length = (A.take ((k + 1) * s)).length := by rw [List.length_take, Nat.min_eq_left hle, hX, Nat.add_mul, Nat.one_mul]
    rw [this, List.append_assoc, List.drop_left]
  have e2 : (n + 1) * s = (F ++ X ++ D).length := by
    rw [List.length_append, List.length_append, hFl, hX, hD, Nat.add_mul, Nat.one_mul, Nat.sub_mul]
    have := Nat.mul_le_mul_right s hk
    omega
  rw [h1, h2, e2, ← List.append_assoc, List.take_left]
end Go.Proofs.YtlenpifjkbcmdaaGreatDoor
