import Derived.Test.YtaimbhphepopmaaDoorOpsW5
import Derived.Test.YtaimbhphepopmaaDoorCells
namespace Go.Proofs.YtaimbhphepopmaaDoor
open Go Go.RowKit Go.Lib

theorem any_take {α : Type} {l : List α} {k : Nat} {y : α} (h : l[k]? = some y) (p : α → Bool) : (l.take (k + 1)).any p = ((l.take k).any p || p y) := by
  rw [List.take_add_one, h, List.any_append]
  simp
theorem any_all {α : Type} {l : List α} {k : Nat} (hk : ¬ k < l.length) (p : α → Bool) : (l.take k).any p = l.any p := by rw [List.take_of_length_le (by omega)]
theorem any_hit {α : Type} {l : List α} {k : Nat} {y : α} (h : l[k]? = some y) {p : α → Bool} (hp : p y = true) : l.any p = true := List.any_eq_true.2 ⟨y, List.mem_of_getElem? h, hp⟩
theorem any_none {α : Type} {l : List α} {p : α → Bool} (h : ∀ j y, j < l.length → l[j]? = some y → p y = false) : l.any p = false := by
  rw [List.any_eq_false]
  intro y hy
  obtain ⟨j, hj, e⟩ := List.mem_iff_getElem.1 hy
  rw [h j y hj (by rw [List.getElem?_eq_getElem hj, e])]
  simp

/-! ### slices.Index, slices.Contains -/
/-- Where the first of such elements stands; -1: nowhere. -/
def idxO (l : List Opr) (x : Opr) : Int := if l.any (fun y => decide (y = x)) then (l.findIdx (fun y => decide (y = x)) : Nat) else -1

/-! ### Why an operation does not go with others -/
def twiceB (x y : Opr) : Bool := decide ((⟨y.cnt, y.who⟩ : Stp) = ⟨x.cnt, x.who⟩) || (y.who == x.who && y.seq == x.seq)
def aheadB (x y : Opr) : Bool := y.who == x.who && y.seq == x.seq - 1
def lateB (x y : Opr) : Bool := y.who == x.who && ((y.seq == x.seq - 1 && !lessC y.cnt y.who x.cnt x.who) || (decide (x.seq < y.seq) && !lessC x.cnt x.who y.cnt y.who))
def fitsO (l : List Opr) (x : Opr) : Int := if l.any (twiceB x) then 24 else if (x.seq == 1 || l.any (aheadB x)) = false then 26 else if l.any (lateB x) then 20 else 0
def gapO (b : Bool) : Int := if b then 0 else 26
theorem box_VarAt (W : World) (x : Opr) : VarAt (W.alloc (.cells #[.int .i64 x.cnt, .int .i64 x.who, .int .i64 x.seq, .int .i64 x.kind, .int .i64 x.nc, .int .i64 x.nw, .bool x.dir, .int .i64 x.pc, .int .i64 x.pw, .string x.name, .string x.man] 45)) W.heap.size x.cells := VarAt.new W _ _

end Go.Proofs.YtaimbhphepopmaaDoor
