import Derived.Test.YtfbdbjookkogjaaDoorClockW1
import Derived.Test.YtfbdbjookkogjaaDoorNamesW3
import Derived.Test.YtfbdbjookkogjaaDoorSame
import Derived.Test.YtfbdbjookkogjaaDoorOpened2
import Derived.RegionTactic
namespace Go.Proofs.YtfbdbjookkogjaaDoor
open Go Go.RowKit Go.Lib

structure Stp where
  c : Int
  n : Int
theorem Stp.ext' {x y : Stp} (h1 : x.c = y.c) (h2 : x.n = y.n) : x = y := by cases x; cases y; simp_all
instance : DecidableEq Stp := fun x y => decidable_of_iff (x.c = y.c ∧ x.n = y.n) ⟨fun h => Stp.ext' h.1 h.2, fun h => by rw [h]; exact ⟨rfl, rfl⟩⟩
structure Opr where
  cnt : Int
  who : Int
  seq : Int
  kind : Int
  nc : Int
  nw : Int
  dir : Bool
  pc : Int
  pw : Int
  name : ByteArray
  man : ByteArray
def Opr.cells (x : Opr) : List Value := [.int .i64 x.cnt, .int .i64 x.who, .int .i64 x.seq, .int .i64 x.kind, .int .i64 x.nc, .int .i64 x.nw, .bool x.dir, .int .i64 x.pc, .int .i64 x.pw, .string x.name, .string x.man]
def oprLay : Lay Opr := { sz := 11, cells := Opr.cells, len := fun _ => rfl, one := fun x v hv => by simp only [Opr.cells, List.mem_cons, List.mem_nil_iff, or_false] at hv; rcases hv with rfl | rfl | rfl | rfl | rfl | rfl | rfl | rfl | rfl | rfl | rfl <;> rfl }
theorem opr_at {w : World} {a : Option Addr} {xs : List Opr} (h : RowsAt oprLay w a xs) {k : Nat} {x : Opr} (hk : xs[k]? = some x) : ∃ b off, a = some ⟨b, off, none⟩ ∧ b < w.heap.size ∧
    w.cell? ⟨b, off + k * 11, none⟩ = some (.int .i64 x.cnt) ∧ w.cell? ⟨b, off + k * 11 + 1, none⟩ = some (.int .i64 x.who) ∧ w.cell? ⟨b, off + k * 11 + 2, none⟩ = some (.int .i64 x.seq) ∧ w.cell? ⟨b, off + k * 11 + 3, none⟩ = some (.int .i64 x.kind) ∧ w.cell? ⟨b, off + k * 11 + 4, none⟩ = some (.int .i64 x.nc) ∧ w.cell? ⟨b, off + k * 11 + 5, none⟩ = some (.int .i64 x.nw) ∧ w.cell? ⟨b, off + k * 11 + 6, none⟩ = some (.bool x.dir) ∧ w.cell? ⟨b, off + k * 11 + 7, none⟩ = some (.int .i64 x.pc) ∧ w.cell? ⟨b, off + k * 11 + 8, none⟩ = some (.int .i64 x.pw) ∧ w.cell? ⟨b, off + k * 11 + 9, none⟩ = some (.string x.name) ∧ w.cell? ⟨b, off + k * 11 + 10, none⟩ = some (.string x.man) := by
  obtain ⟨b, off, e, hlt, hc⟩ := h k x hk
  exact ⟨b, off, e, hlt, hc 0 _ rfl, hc 1 _ rfl, hc 2 _ rfl, hc 3 _ rfl, hc 4 _ rfl, hc 5 _ rfl, hc 6 _ rfl, hc 7 _ rfl, hc 8 _ rfl, hc 9 _ rfl, hc 10 _ rfl⟩
theorem Opr.ext' {x y : Opr} (h0 : x.cnt = y.cnt) (h1 : x.who = y.who) (h2 : x.seq = y.seq) (h3 : x.kind = y.kind) (h4 : x.nc = y.nc) (h5 : x.nw = y.nw) (h6 : x.dir = y.dir) (h7 : x.pc = y.pc) (h8 : x.pw = y.pw) (h9 : x.name = y.name) (h10 : x.man = y.man) : x = y := by
  cases x; cases y; simp_all
instance : DecidableEq Opr := fun x y => decidable_of_iff (x.cnt = y.cnt ∧ x.who = y.who ∧ x.seq = y.seq ∧ x.kind = y.kind ∧ x.nc = y.nc ∧ x.nw = y.nw ∧ x.dir = y.dir ∧ x.pc = y.pc ∧ x.pw = y.pw ∧ x.name = y.name ∧ x.man = y.man)
  ⟨fun ⟨h0, h1, h2, h3, h4, h5, h6, h7, h8, h9, h10⟩ => Opr.ext' h0 h1 h2 h3 h4 h5 h6 h7 h8 h9 h10, fun h => by rw [h]; exact ⟨rfl, rfl, rfl, rfl, rfl, rfl, rfl, rfl, rfl, rfl, rfl⟩⟩
def noOpr : Opr := ⟨0, 0, 0, 0, 0, 0, false, 0, 0, ⟨#[]⟩, ⟨#[]⟩⟩
theorem oprInfo : (Tryd.prog.info? 43).map (fun i => (i.zero, i.size, i.bytes)) = some (some (.agg #[.int .i64 0, .int .i64 0, .int .i64 0, .int .i64 0, .int .i64 0, .int .i64 0, .bool false, .int .i64 0, .int .i64 0, .string ⟨#[]⟩, .string ⟨#[]⟩]), 11, 104) := by kernel_rfl


set_option maxRecDepth 100000 in
theorem neqStp (x y : Stp) (w : World) : (binOp .neq 32 (.agg #[.int .i64 x.c, .int .i64 x.n]) (.agg #[.int .i64 y.c, .int .i64 y.n])).run Tryd.prog w = .ok (.bool (!decide (x = y))) w := by
  rw [run_neq_struct]
  have e : (Op.equalIn 10000 32 (.agg #[.int .i64 x.c, .int .i64 x.n]) (.agg #[.int .i64 y.c, .int .i64 y.n])).run Tryd.prog w = .ok (decide (x = y)) w := by
    simp [go_sem, Tryd.underlying32]
    by_cases h : x = y
    · subst h; simp
    · simp only [h, decide_false]
      try simp only [toList_inj]
      repeat' split
      all_goals first | rfl | exact absurd (Stp.ext' (by assumption) (by assumption)) h
  rw [e]
  rfl
theorem eqlStp (x y : Stp) (w : World) : (binOp .eql 32 (.agg #[.int .i64 x.c, .int .i64 x.n]) (.agg #[.int .i64 y.c, .int .i64 y.n])).run Tryd.prog w = .ok (.bool (decide (x = y))) w := by
  rw [run_eql_struct]
  have e : (Op.equalIn 10000 32 (.agg #[.int .i64 x.c, .int .i64 x.n]) (.agg #[.int .i64 y.c, .int .i64 y.n])).run Tryd.prog w = .ok (decide (x = y)) w := by
    simp [go_sem, Tryd.underlying32]
    by_cases h : x = y
    · subst h; simp
    · simp only [h, decide_false]
      try simp only [toList_inj]
      repeat' split
      all_goals first | rfl | exact absurd (Stp.ext' (by assumption) (by assumption)) h
  rw [e]
  rfl


set_option maxRecDepth 100000 in
theorem neqOpr (x y : Opr) (w : World) : (binOp .neq 43 (.agg #[.int .i64 x.cnt, .int .i64 x.who, .int .i64 x.seq, .int .i64 x.kind, .int .i64 x.nc, .int .i64 x.nw, .bool x.dir, .int .i64 x.pc, .int .i64 x.pw, .string x.name, .string x.man]) (.agg #[.int .i64 y.cnt, .int .i64 y.who, .int .i64 y.seq, .int .i64 y.kind, .int .i64 y.nc, .int .i64 y.nw, .bool y.dir, .int .i64 y.pc, .int .i64 y.pw, .string y.name, .string y.man])).run Tryd.prog w = .ok (.bool (!decide (x = y))) w := by
  rw [run_neq_struct]
  have e : (Op.equalIn 10000 43 (.agg #[.int .i64 x.cnt, .int .i64 x.who, .int .i64 x.seq, .int .i64 x.kind, .int .i64 x.nc, .int .i64 x.nw, .bool x.dir, .int .i64 x.pc, .int .i64 x.pw, .string x.name, .string x.man]) (.agg #[.int .i64 y.cnt, .int .i64 y.who, .int .i64 y.seq, .int .i64 y.kind, .int .i64 y.nc, .int .i64 y.nw, .bool y.dir, .int .i64 y.pc, .int .i64 y.pw, .string y.name, .string y.man])).run Tryd.prog w = .ok (decide (x = y)) w := by
    simp [go_sem, Tryd.underlying43]
    by_cases h : x = y
    · subst h; simp
    · simp only [h, decide_false]
      try simp only [toList_inj]
      repeat' split
      all_goals first | rfl | exact absurd (Opr.ext' (by assumption) (by assumption) (by assumption) (by assumption) (by assumption) (by assumption) (by assumption) (by assumption) (by assumption) (by assumption) (by assumption)) h
  rw [e]
  rfl
theorem eqlOpr (x y : Opr) (w : World) : (binOp .eql 43 (.agg #[.int .i64 x.cnt, .int .i64 x.who, .int .i64 x.seq, .int .i64 x.kind, .int .i64 x.nc, .int .i64 x.nw, .bool x.dir, .int .i64 x.pc, .int .i64 x.pw, .string x.name, .string x.man]) (.agg #[.int .i64 y.cnt, .int .i64 y.who, .int .i64 y.seq, .int .i64 y.kind, .int .i64 y.nc, .int .i64 y.nw, .bool y.dir, .int .i64 y.pc, .int .i64 y.pw, .string y.name, .string y.man])).run Tryd.prog w = .ok (.bool (decide (x = y))) w := by
  rw [run_eql_struct]
  have e : (Op.equalIn 10000 43 (.agg #[.int .i64 x.cnt, .int .i64 x.who, .int .i64 x.seq, .int .i64 x.kind, .int .i64 x.nc, .int .i64 x.nw, .bool x.dir, .int .i64 x.pc, .int .i64 x.pw, .string x.name, .string x.man]) (.agg #[.int .i64 y.cnt, .int .i64 y.who, .int .i64 y.seq, .int .i64 y.kind, .int .i64 y.nc, .int .i64 y.nw, .bool y.dir, .int .i64 y.pc, .int .i64 y.pw, .string y.name, .string y.man])).run Tryd.prog w = .ok (decide (x = y)) w := by
    simp [go_sem, Tryd.underlying43]
    by_cases h : x = y
    · subst h; simp
    · simp only [h, decide_false]
      try simp only [toList_inj]
      repeat' split
      all_goals first | rfl | exact absurd (Opr.ext' (by assumption) (by assumption) (by assumption) (by assumption) (by assumption) (by assumption) (by assumption) (by assumption) (by assumption) (by assumption) (by assumption)) h
  rw [e]
  rfl


/-! ### Which operations may be -/
def placeC (c n : Int) : Bool := (decide (c = 0) && decide (n = 0)) || rightC c n == 0
def shapeO (x : Opr) : Bool :=
  if x.kind = 1 then decide (x.nc = x.cnt) && decide (x.nw = x.who) && placeC x.pc x.pw && !(decide (x.pc = x.nc) && decide (x.pw = x.nw)) && (if x.dir then decide (x.man = ⟨#[]⟩) else decide (x.man.size ≤ 600))
  else if x.kind = 2 then rightC x.nc x.nw == 0 && !x.dir && placeC x.pc x.pw && decide (x.man = ⟨#[]⟩)
  else if x.kind = 3 then rightC x.nc x.nw == 0 && !x.dir && (decide (x.pc = 0) && decide (x.pw = 0) && decide (x.name = ⟨#[]⟩)) && decide (x.man.size ≤ 600)
  else if x.kind = 4 then rightC x.nc x.nw == 0 && !x.dir && (decide (x.pc = 0) && decide (x.pw = 0) && decide (x.name = ⟨#[]⟩)) && decide (x.man = ⟨#[]⟩)
  else false
def rightO (x : Opr) : Int :=
  if rightC x.cnt x.who ≠ 0 ∨ x.seq < 1 ∨ 1099511627776 < x.seq then 20
  else if (x.kind = 1 ∨ x.kind = 2) ∧ rightN x.name.data.toList ≠ 0 then 23
  else if shapeO x then 0 else 22


end Go.Proofs.YtfbdbjookkogjaaDoor
