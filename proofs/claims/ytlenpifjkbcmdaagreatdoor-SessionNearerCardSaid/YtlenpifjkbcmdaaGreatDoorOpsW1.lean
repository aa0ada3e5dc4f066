import Derived.Test.YtlenpifjkbcmdaaGreatDoorClockW1
import Derived.Test.YtlenpifjkbcmdaaGreatDoorNamesW3
import Derived.Test.YtlenpifjkbcmdaaGreatDoorSame
import Derived.Test.YtlenpifjkbcmdaaGreatDoorOpened2
import Derived.RegionTactic
namespace Go.Proofs.YtlenpifjkbcmdaaGreatDoor
open Go Go.RowKit Go.Lib

structure Stp where
  c : Int
  n : Int
theorem Stp.ext' {x y : Stp} (h1 : x.c = y.c) (h2 : x.n = y.n) : x = y := by cases x; cases y; simp_all
instance : DecidableEq Stp := fun x y => decidable_of_iff (x.c = y.c ∧ x.n = y.n) ⟨fun h => Stp.ext' h.1 h.2, fun h => by rw [h]; exact ⟨rfl, rfl⟩⟩
structure Opr where
  cnt : Int
  who : Int
  seq : Int
  kind : Int
  nc : Int
  nw : Int
  dir : Bool
  pc : Int
  pw : Int
  name : ByteArray
  man : ByteArray
def Opr.cells (x : Opr) : List Value := [.int .i64 x.cnt, .int .i64 x.who, .int .i64 x.seq, .int .i64 x.kind, .int .i64 x.nc, .int .i64 x.nw, .bool x.dir, .int .i64 x.pc, .int .i64 x.pw, .string x.name, .string x.man]
def oprLay : Lay Opr := { sz := 11, cells := Opr.cells, len := fun _ => rfl, one := fun x v hv => by simp only [Opr.cells, List.mem_cons, List.mem_nil_iff, or_false] at hv; rcases hv with rfl | rfl | rfl | rfl | rfl | rfl | rfl | rfl | rfl | rfl | rfl <;> rfl }
theorem opr_at {w : World} {a : Option Addr} {xs : List Opr} (h : RowsAt oprLay w a xs) {k : Nat} {x : Opr} (hk : xs[k]? = some x) : ∃ b off, a = some ⟨b, off, none⟩ ∧ b < w.heap.size ∧
    w.cell? ⟨b, off + k * 11, none⟩ = some (.int .i64 x.cnt) ∧ w.cell? ⟨b, off + k * 11 + 1, none⟩ = some (.int .i64 x.who) ∧ w.cell? ⟨b, off + k * 11 + 2, none⟩ = some (.int .i64 x.seq) ∧ w.cell? ⟨b, off + k * 11 + 3, none⟩ = some (.int .i64 x.kind) ∧ w.cell? ⟨b, off + k * 11 + 4, none⟩ = some (.int .i64 x.nc) ∧ w.cell? ⟨b, off + k * 11 + 5, none⟩ = some (.int .i64 x.nw) ∧ w.cell? ⟨b, off + k * 11 + 6, none⟩ = some (.bool x.dir) ∧ w.cell? ⟨b, off + k * 11 + 7, none⟩ = some (.int .i64 x.pc) ∧ w.cell? ⟨b, off + k * 11 + 8, none⟩ = some (.int .i64 x.pw) ∧ w.cell? ⟨b, off + k * 11 + 9, none⟩ = some (.string x.name) ∧ w.cell? ⟨b, off + k * 11 + 10, none⟩ = some (.string x.man) := by
  obtain ⟨b, off, e, hlt, hc⟩ := h k x hk
  exact ⟨b, off, e, hlt, hc 0 _ rfl, hc 1 _ rfl, hc 2 _ rfl, hc 3 _ rfl, hc 4 _ rfl, hc 5 _ rfl, hc 6 _ rfl, hc 7 _ rfl, hc 8 _ rfl, hc 9 _ rfl, hc 10 _ rfl⟩
theorem Opr.ext' {x y : Opr} (h0 : x.cnt = y.cnt) (h1 : x.who = y.who) (h2 : x.seq = y.seq) (h3 : x.kind = y.kind) (h4 : x.nc = y.nc) (h5 : x.nw = y.nw) (h6 : x.dir = y.dir) (h7 : x.pc = y.pc) (h8 : x.pw = y.pw) (h9 : x.name = y.name) (h10 : x.man = y.man) : x = y := by
  cases x; cases y; simp_all
instance : DecidableEq Opr := fun x y => decidable_of_iff (x.cnt = y.cnt ∧ x.who = y.who ∧ x.seq = y.seq ∧ x.kind = y.kind ∧ x.nc = y.nc ∧ x.nw = y.nw ∧ x.dir = y.dir ∧ x.pc = y.pc ∧ x.pw = y.pw ∧ x.name = y.name ∧ x.man = y.man)
  ⟨fun ⟨h0, h1, h2, h3, h4, h5, h6, h7, h8, h9, h10⟩ => Opr.ext' h0 h1 h2 h3 h4 h5 h6 h7 h8 h9 h10, fun h => by rw [h]; exact ⟨rfl, rfl, rfl, rfl, rfl, rfl, rfl, rfl, rfl, rfl, rfl⟩⟩
def noOpr : Opr := ⟨0, 0, 0, 0, 0, 0, false, 0, 0, ⟨#[]⟩, ⟨#[]⟩⟩
theorem oprInfo : (Tryz.prog.info? 28).map (fun i => (i.zero, i.size, i.bytes)) = some (some (.agg #[.int .i64 0, .int .i64 0, .int .i64 0, .int .i64 0, .int .i64 0, .int .i64 0, .bool false, .int .i64 0, .int .i64 0, .string ⟨#[]⟩, .string ⟨#[]⟩]), 11, 104) := by kernel_rfl


set_option maxRecDepth 100000 in
theorem neqStp (x y : Stp) (w : World) : (binOp .neq 26 (.agg #[.int .i64 x.c, .int .i64 x.n]) (.agg #[.int .i64 y.c, .int .i64 y.n])).run Tryz.prog w = .ok (.bool (!decide (x = y))) w := by
  rw [run_neq_struct]
  have e : (Op.equalIn 10000 26 (.agg #[.int .i64 x.c, .int .i64 x.n]) (.agg #[.int .i64 y.c, .int .i64 y.n])).run Tryz.prog w = .ok (decide (x = y)) w := by
    simp [go_sem, Tryz.underlying26]
    by_cases h : x = y
    · subst h; simp
    · simp only [h, decide_false]
      try simp only [toList_inj]
      repeat' split
      all_goals first | rfl | exact absurd (Stp.ext' (by assumption) (by assumption)) h
  rw [e]
  rfl
theorem eqlStp (x y : Stp) (w : World) : (binOp .eql 26 (.agg #[.int .i64 x.c, .int .i64 x.n]) (.agg #[.int .i64 y.c, .int .i64 y.n])).run Tryz.prog w = .ok (.bool (decide (x = y))) w := by
  rw [run_eql_struct]
  have e : (Op.equalIn 10000 26 (.agg #[.int .i64 x.c, .int .i64 x.n]) (.agg #[.int .i64 y.c, .int .i64 y.n])).run Tryz.prog w = .ok (decide (x = y)) w := by
    simp [go_sem, Tryz.underlying26]
    by_cases h : x = y
    · subst h; simp
    · simp only [h, decide_false]
      try simp only [toList_inj]
      repeat' split
      all_goals first | rfl | exact absurd (Stp.ext' (by assumption) (by assumption)) h
  rw [e]
  rfl


set_option maxRecDepth 100000 in
theorem neqOpr (x y : Opr) (w : World) : (binOp .neq 28 (.agg #[.int .i64 x.cnt, .int .i64 x.who, .int .i64 x.seq, .int .i64 x.kind, .int .i64 x.nc, .int .i64 x.nw, .bool x.dir, .int .i64 x.pc, .int .i64 x.pw, .string x.name, .string x.man]) (.agg #[.int .i64 y.cnt, .int .i64 y.who, .int .i64 y.seq, .int .i64 y.kind, .int .i64 y.nc, .int .i64 y.nw, .bool y.dir, .int .i64 y.pc, .int .i64 y.pw, .string y.name, .string y.man])).run Tryz.prog w = .ok (.bool (!decide (x = y))) w := by
  rw [run_neq_struct]
  have e : (Op.equalIn 10000 28 (.agg #[.int .i64 x.cnt, .int .i64 x.who, .int .i64 x.seq, .int .i64 x.kind, .int .i64 x.nc, .int .i64 x.nw, .bool x.dir, .int .i64 x.pc, .int .i64 x.pw, .string x.name, .string x.man]) (.agg #[.int .i64 y.cnt, .int .i64 y.who, .int .i64 y.seq, .int .i64 y.kind, .int .i64 y.nc, .int .i64 y.nw, .bool y.dir, .int .i64 y.pc, .int .i64 y.pw, .string y.name, .string y.man])).run Tryz.prog w = .ok (decide (x = y)) w := by
    simp [go_sem, Tryz.underlying28]
    by_cases h : x = y
    · subst h; simp
    · simp only [h, decide_false]
      try simp only [toList_inj]
      repeat' split
      all_goals first | rfl | exact absurd (Opr.ext' (by assumption) (by assumption) (by assumption) (by assumption) (by assumption) (by assumption) (by assumption) (by assumption) (by assumption) (by assumption) (by assumption)) h
  rw [e]
  rfl
theorem eqlOpr (x y : Opr) (w : World) : (binOp .eql 28 (.agg #[.int .i64 x.cnt, .int .i64 x.who, .int .i64 x.seq, .int .i64 x.kind, .int .i64 x.nc, .int .i64 x.nw, .bool x.dir, .int .i64 x.pc, .int .i64 x.pw, .string x.name, .string x.man]) (.agg #[.int .i64 y.cnt, .int .i64 y.who, .int .i64 y.seq, .int .i64 y.kind, .int .i64 y.nc, .int .i64 y.nw, .bool y.dir, .int .i64 y.pc, .int .i64 y.pw, .string y.name, .string y.man])).run Tryz.prog w = .ok (.bool (decide (x = y))) w := by
  rw [run_eql_struct]
  have e : (Op.equalIn 10000 28 (.agg #[.int .i64 x.cnt, .int .i64 x.who, .int .i64 x.seq, .int .i64 x.kind, .int .i64 x.nc, .int .i64 x.nw, .bool x.dir, .int .i64 x.pc, .int .i64 x.pw, .string x.name, .string x.man]) (.agg #[.int .i64 y.cnt, .int .i64 y.who, .int .i64 y.seq, .int .i64 y.kind, .int .i64 y.nc, .int .i64 y.nw, .bool y.dir, .int .i64 y.pc, .int .i64 y.pw, .string y.name, .string y.man])).run Tryz.prog w = .ok (decide (x = y)) w := by
    simp [go_sem, Tryz.underlying28]
    by_cases h : x = y
    · subst h; simp
    · simp only [h, decide_false]
      try simp only [toList_inj]
      repeat' split
      all_goals first | rfl | exact absurd (Opr.ext' (by assumption) (by assumption) (by assumption) (by assumption) (by assumption) (by assumption) (by assumption) (by assumption) (by assumption) (by assumption) (by assumption)) h
  rw [e]
  rfl


set_option maxRecDepth 100000 in
set_option maxHeartbeats 1600000 in
theorem oprs_any (a b : Option Addr) (cap cap' : Nat) (xs ys : List Opr) (w : World) (hl : xs.length ≤ 140737488351232) (ha : RowsAt oprLay w a xs) (hb : RowsAt oprLay w b ys) :
    Calls Tryz.prog 9 #[.slice a xs.length cap, .slice b ys.length cap'] w fun e w' => e = .returned (.bool (decide (xs = ys))) ∧ ∃ n, w' = w.drewN n := by
  have HA := Lib.hid ha
  have HB := Lib.hid hb
  clear ha hb
  by_cases hlen : xs.length = ys.length
  · have hq : ((xs.length : Int) != (ys.length : Int)) = false := by rw [hlen]; simp
    have Hlen := Lib.hid hlen
    clear hlen
    go_enter Tryz.func9, Tryz.ntmps9
    go_wp2
    clear hq
    go_loopw [5] (fun i wr => ∃ k : Nat, k ≤ xs.length ∧ i = .int .i64 k ∧ Hid (∀ j, j < k → xs[j]? = ys[j]?) ∧ ∃ n, wr = w.drewN n) (fun i _ => xs.length - (RowKit.intOf i).toNat)
    case atStart => exact ⟨0, Nat.zero_le _, rfl, fun j hj => absurd hj (Nat.not_lt_zero _), Drawn.refl _⟩
    case round =>
      obtain ⟨k, hk, rfl, Hk, n, rfl⟩ := hrel
      by_cases hlt : k < xs.length
      · have hlt2 : k < ys.length := by have := Hlen.out; omega
        obtain ⟨x, hx⟩ := at_some hlt
        obtain ⟨y, hy⟩ := at_some hlt2
        obtain ⟨b1, o1, rfl, hb1, c0, c1, c2, c3, c4, c5, c6, c7, c8, c9, c10⟩ := opr_at HA.out hx
        obtain ⟨b2, o2, rfl, hb2, d0, d1, d2, d3, d4, d5, d6, d7, d8, d9, d10⟩ := opr_at HB.out hy
        have Hx := Lib.hid hx
        have Hy := Lib.hid hy
        clear hx hy
        have heq := neqOpr x y
        by_cases h1 : x = y
        · have e1 : (!decide (x = y)) = false := by rw [h1]; simp
          rw [e1] at heq
          have Hn := Lib.hid h1
          clear h1 e1
          go_wp2
          go_quiet (fail)
          go_wp2
          go_roundw
          case rel =>
            refine ⟨k + 1, by omega, by go_num, fun j hj => ?_, n + nq, by simp⟩
            by_cases e : j = k
            · subst e; rw [Hx.out, Hy.out, Hn.out]
            · exact Hk.out j (by omega)
          case measure => simp [RowKit.intOf]; omega
        · have e1 : (!decide (x = y)) = true := by simp [h1]
          rw [e1] at heq
          have Hr := Lib.hid (same_at Hx.out Hy.out h1)
          clear h1 e1
          go_wp2
          go_quiet (fail)
          go_wp2
          go_ret
          exact ⟨ret_bool Hr.out.symm, n + nq, by simp⟩
      · have Hr := Lib.hid (same_ok Hlen.out (fun j hj => Hk.out j (by omega)))
        go_wp2
        go_ret
        exact ⟨ret_bool Hr.out.symm, _, rfl⟩
  · have Hr := Lib.hid (same_len hlen)
    have hq : ((xs.length : Int) != (ys.length : Int)) = true := by rw [bne_iff_ne]; omega
    clear hlen
    go_enter Tryz.func9, Tryz.ntmps9
    go_wp2
    go_ret
    exact ⟨ret_bool Hr.out.symm, Drawn.refl _⟩


/-! ### Which operations may be -/
def placeC (c n : Int) : Bool := (decide (c = 0) && decide (n = 0)) || rightC c n == 0
def shapeO (x : Opr) : Bool :=
  if x.kind = 1 then decide (x.nc = x.cnt) && decide (x.nw = x.who) && placeC x.pc x.pw && !(decide (x.pc = x.nc) && decide (x.pw = x.nw)) && (if x.dir then decide (x.man = ⟨#[]⟩) else decide (x.man.size ≤ 600))
  else if x.kind = 2 then rightC x.nc x.nw == 0 && !x.dir && placeC x.pc x.pw && decide (x.man = ⟨#[]⟩)
  else if x.kind = 3 then rightC x.nc x.nw == 0 && !x.dir && (decide (x.pc = 0) && decide (x.pw = 0) && decide (x.name = ⟨#[]⟩)) && decide (x.man.size ≤ 600)
  else if x.kind = 4 then rightC x.nc x.nw == 0 && !x.dir && (decide (x.pc = 0) && decide (x.pw = 0) && decide (x.name = ⟨#[]⟩)) && decide (x.man = ⟨#[]⟩)
  else false
def rightO (x : Opr) : Int :=
  if rightC x.cnt x.who ≠ 0 ∨ x.seq < 1 ∨ 1099511627776 < x.seq then 20
  else if (x.kind = 1 ∨ x.kind = 2) ∧ rightN x.name.data.toList ≠ 0 then 23
  else if shapeO x then 0 else 22


set_option maxRecDepth 100000 in
theorem place_any (c n : Int) (w : World) :
    Calls Tryz.prog 70 #[.agg #[.int .i64 c, .int .i64 n]] w fun e w' => e = .returned (.bool (placeC c n)) ∧ Below w.heap.size w w' := by
  have hb := stamp_below w c n
  have HR := Lib.hid fun W => cright_any c n W
  have heq := eqlStp ⟨c, n⟩ ⟨0, 0⟩
  have hp : placeC c n = (decide ((⟨c, n⟩ : Stp) = ⟨0, 0⟩) || rightC c n == 0) := by
    unfold placeC
    congr 1
    rw [← Bool.decide_and]
    exact decide_eq_decide.2 ⟨fun h => Stp.ext' h.1 h.2, fun h => by cases h; exact ⟨rfl, rfl⟩⟩
  dsimp only at heq
  have Hp := Lib.hid hp
  clear hp
  generalize decide ((⟨c, n⟩ : Stp) = ⟨0, 0⟩) = z at *
  generalize rightC c n = r at *
  cases z with
  | true =>
    go_enter Tryz.func70, Tryz.ntmps70
    go_wp2_with fail
    go_ret
    exact ⟨ret_bool (by rw [Hp.out]; rfl), hb⟩
  | false =>
    go_enter Tryz.func70, Tryz.ntmps70
    go_wp2_with fail
    refine (HR.out _).mono ?_
    rintro e w1 ⟨rfl, hb1⟩
    go_wp2_with fail
    go_ret
    exact ⟨ret_bool (by rw [Hp.out]; rfl), hb.trans (hb1.mono hb.size)⟩


end Go.Proofs.YtlenpifjkbcmdaaGreatDoor
