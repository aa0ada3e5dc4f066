import Derived.Test.YtaimbhphepopmaaDoorOpsW12
import Derived.Test.YtaimbhphepopmaaDoorAppends
import Derived.Test.YtaimbhphepopmaaDoorSliced
import Derived.Deep.RegionHeld3
import Derived.Lib.SliceRun
namespace Go.Proofs.YtaimbhphepopmaaDoor
open Go Go.RowKit Go.Lib

theorem rows_var {W : World} {b : Nat} {x : Opr} (h : VarAt W b x.cells) : RowsAt oprLay W (some ⟨b, 0, none⟩) [x] := by
  intro j y hy
  match j, hy with
  | 0, hy =>
    cases hy
    exact ⟨b, 0, rfl, h.1, fun f v hv => by simpa using h.2.2 f v hv⟩

/-! ### A set with one more -/
def insO (l : List Opr) (x : Opr) : List Opr := l.take (atO l x) ++ x :: l.drop (atO l x)
def addO (l : List Opr) (x : Opr) : List Opr × Int :=
  if rightO x ≠ 0 then ([], rightO x) else if memB l x then (l, 0) else if fitsO l x ≠ 0 then ([], fitsO l x) else if 400 ≤ l.length then ([], 40) else (insO l x, 0)
theorem right_seq {x : Opr} (h : rightO x = 0) : 1 ≤ x.seq ∧ x.seq ≤ 1099511627776 := by
  unfold rightO at h
  split at h
  · cases h
  · rename_i h2
    omega
theorem atO_le (l : List Opr) (x : Opr) : atO l x ≤ l.length := List.findIdx_le_length

theorem var_ad (W : World) (x : Opr) : VarAt (World.drew (W.alloc (.cells #[.int .i64 x.cnt, .int .i64 x.who, .int .i64 x.seq, .int .i64 x.kind, .int .i64 x.nc, .int .i64 x.nw, .bool x.dir, .int .i64 x.pc, .int .i64 x.pw, .string x.name, .string x.man] 45))) W.heap.size x.cells := (box_VarAt W x).drew 1
theorem lt_ad (W : World) (o : Obj) : W.heap.size < (World.drew (W.alloc o)).heap.size := by
  show W.heap.size < (W.alloc o).heap.size
  simp
theorem keepX {W w1 w2 : World} {b B : Nat} {x : Opr} (hX : VarAt W b x.cells) (hb : Below W.heap.size W w1) (h : Below B w1 w2) (hB : W.heap.size ≤ B) : Below W.heap.size W w2 ∧ w2.cell? ⟨b, 0, none⟩ = some (.int .i64 x.cnt) ∧ w2.cell? ⟨b, 1, none⟩ = some (.int .i64 x.who) ∧ w2.cell? ⟨b, 2, none⟩ = some (.int .i64 x.seq) ∧ w2.cell? ⟨b, 3, none⟩ = some (.int .i64 x.kind) ∧ w2.cell? ⟨b, 4, none⟩ = some (.int .i64 x.nc) ∧ w2.cell? ⟨b, 5, none⟩ = some (.int .i64 x.nw) ∧ w2.cell? ⟨b, 6, none⟩ = some (.bool x.dir) ∧ w2.cell? ⟨b, 7, none⟩ = some (.int .i64 x.pc) ∧ w2.cell? ⟨b, 8, none⟩ = some (.int .i64 x.pw) ∧ w2.cell? ⟨b, 9, none⟩ = some (.string x.name) ∧ w2.cell? ⟨b, 10, none⟩ = some (.string x.man) :=
  have hb2 := hb.trans (h.mono hB)
  have h := hX.keeps hb2 hX.1
  ⟨hb2, h.2.2 0 _ rfl, h.2.2 1 _ rfl, h.2.2 2 _ rfl, h.2.2 3 _ rfl, h.2.2 4 _ rfl, h.2.2 5 _ rfl, h.2.2 6 _ rfl, h.2.2 7 _ rfl, h.2.2 8 _ rfl, h.2.2 9 _ rfl, h.2.2 10 _ rfl⟩

end Go.Proofs.YtaimbhphepopmaaDoor
