/-
  What Parse wants: append in a fence, the iterator's making, the plain law.
-/
import Derived.Test.YteeaaphpahnjcaaGreatDoorGlp4
import Derived.Maps.OwnIn
namespace Go.Proofs.YteeaaphpahnjcaaGreatDoor
open Go Go.RowKit Go.Lib

section
variable {F : Fence} {nF : Nat} {P : Program} {w : World} {α : Type}
theorem wpListIn_append_rows {ops : Array Oper} {rest : List Oper} {o : Oper} {a : Act} {Q : Exit → Act → World → Prop} (hgd : o.guard = none) (s x : Operand) (t : TypeId)
    (ho : o.op = .call { callee := .builtin .append, args := #[s, x], argTypes := #[t, t] })
    (L : Lay α) (base : Nat) (e : TypeId) (i : TypeInfo) (z : Value) (bytes : Nat) (ht : P.underlying t = some (.slice e)) (hi : P.info? e = some i) (hz : i.zero = some z)
    (hsize : i.size = L.sz) (hby : i.bytes = bytes) (hzs : z.cells.size = L.sz) (hsz : 0 < L.sz)
    (v : Value) (xs : List α) (hs : a.eval s = v) (hown : OwnRows L w base e v xs)
    (ad : Addr) (c : Nat) (y : α) (hx : a.eval x = .slice (some ad) 1 c) (hnews : ∀ j u, (L.cells y)[j]? = some u → w.cell? (ad.add j) = some u)
    (h63 : xs.length + 1 ≤ maxLen) (hbytes : (xs.length + 1) * bytes ≤ 140737488355328) (hbase : base ≤ w.heap.size)
    (h : ∀ v' w', OwnRows L w' base e v' (xs ++ [y]) → w.grownBy w' v.ownBlock → (v'.ownBlock = v.ownBlock ∨ v'.ownBlock = some w.heap.size) → wpListIn F nF P ops Q rest (a.put o.dst v') w') :
    wpListIn F nF P ops Q (o :: rest) a w := by
  refine wpListIn_append_own_at (w := w) hgd s x t ho base e i z L.sz bytes ht hi hz hsize hby hzs hsz v xs.length (flat L xs) hs hown ad 1 c (L.cells y) hx (by rw [L.len]; omega) hnews (L.one y) h63 hbytes hbase ?_
  intro v' w' h1 h2 _ h4
  refine h v' w' ?_ h2 h4
  unfold OwnRows
  rw [flat_snoc, List.length_append]
  exact h1
/-- A row of one's own is no loop's record. -/
theorem OwnRows.not_block {L : Lay α} {base l : Nat} {e : TypeId} {v : Value} {xs : List α} (h : OwnRows L w base e v xs) {o : Obj} (hl : w.heap[l]? = some o) (ho : o.isCells = false) : v.ownBlock ≠ some l := by
  intro hv
  rcases h.2 with ⟨rfl, _⟩ | ⟨g, cap, cur, rfl, _, hgg, _⟩
  · simp [Value.ownBlock] at hv
  · obtain rfl : g = l := by simpa [Value.ownBlock] using hv
    rw [hgg] at hl
    cases hl
    cases ho
theorem OwnRows.putObj {L : Lay α} {base l : Nat} {e : TypeId} {v : Value} {xs : List α} (h : OwnRows L w base e v xs) {o : Obj} (hl : w.heap[l]? = some o) (ho : o.isCells = false) (o' : Obj) : OwnRows L (w.putObj l o') base e v xs :=
  h.kept (grownBy_putObj' w l o') (.inr (h.not_block hl ho))
theorem VarAt.putObj {b l : Nat} {cs : List Value} (h : VarAt w b cs) (hne : b ≠ l) (o' : Obj) : VarAt (w.putObj l o') b cs :=
  h.same (World.putObj_heap_other hne) (by simp [World.putObj])
end

/-- The rules of lines, one behind the other; none where a line is wrong. -/
def goG : List Rul → List (List UInt8) → Option (List Rul)
  | acc, [] => some acc
  | acc, l :: ls => if (lineG l).2 then goG (acc ++ [(lineG l).1]) ls else none
def ansG : Option (List Rul) → List Rul × Int
  | some rs => (rs, 0)
  | none => ([], 30)
/-- A text, read: the rules, the fault. -/
def parseG (l : List UInt8) : List Rul × Int :=
  if l ≠ [] ∧ Lib.hasSuffix l [10] = false then ([], 30) else
  if 16 < l.count 10 then ([], 40) else
  ansG (goG [] ((linesF (l.length + 1) l).map fun x => Lib.trimSuffix x [10]))
theorem goG_append : ∀ (ls : List (List UInt8)) (acc : List Rul) (ms : List (List UInt8)), goG acc (ls ++ ms) = (goG acc ls).bind fun a => goG a ms
  | [], acc, ms => rfl
  | l :: ls, acc, ms => by
    have e1 : goG acc (l :: ls) = if (lineG l).2 then goG (acc ++ [(lineG l).1]) ls else none := rfl
    have e2 : goG acc ((l :: ls) ++ ms) = if (lineG l).2 then goG (acc ++ [(lineG l).1]) (ls ++ ms) else none := rfl
    rw [e1, e2]
    split
    · exact goG_append ls _ ms
    · rfl
end Go.Proofs.YteeaaphpahnjcaaGreatDoor
