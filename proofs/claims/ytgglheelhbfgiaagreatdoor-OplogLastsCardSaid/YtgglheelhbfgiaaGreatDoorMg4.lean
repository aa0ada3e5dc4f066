/-
  A variable of several cells that is written, cell by cell. Of no program.
-/
import Derived.Test.YtgglheelhbfgiaaGreatDoorMg1
import Derived.Test.YtgglheelhbfgiaaGreatDoorMg2
import Derived.Test.YtgglheelhbfgiaaGreatDoorMg3
import Derived.RegionTactic
namespace Go.Proofs.YtgglheelhbfgiaaGreatDoor
open Go Go.RowKit Go.Lib

structure Stp where
  c : Int
  n : Int
theorem Stp.ext' {x y : Stp} (h1 : x.c = y.c) (h2 : x.n = y.n) : x = y := by cases x; cases y; simp_all
instance : DecidableEq Stp := fun x y => decidable_of_iff (x.c = y.c ∧ x.n = y.n) ⟨fun h => Stp.ext' h.1 h.2, fun h => by rw [h]; exact ⟨rfl, rfl⟩⟩
structure Opr where
  cnt : Int
  who : Int
  seq : Int
  kind : Int
  nc : Int
  nw : Int
  dir : Bool
  pc : Int
  pw : Int
  name : ByteArray
  man : ByteArray
def Opr.cells (x : Opr) : List Value := [.int .i64 x.cnt, .int .i64 x.who, .int .i64 x.seq, .int .i64 x.kind, .int .i64 x.nc, .int .i64 x.nw, .bool x.dir, .int .i64 x.pc, .int .i64 x.pw, .string x.name, .string x.man]
def oprLay : Lay Opr := { sz := 11, cells := Opr.cells, len := fun _ => rfl, one := fun x v hv => by simp only [Opr.cells, List.mem_cons, List.mem_nil_iff, or_false] at hv; rcases hv with rfl | rfl | rfl | rfl | rfl | rfl | rfl | rfl | rfl | rfl | rfl <;> rfl }
theorem opr_at {w : World} {a : Option Addr} {xs : List Opr} (h : RowsAt oprLay w a xs) {k : Nat} {x : Opr} (hk : xs[k]? = some x) : ∃ b off, a = some ⟨b, off, none⟩ ∧ b < w.heap.size ∧
    w.cell? ⟨b, off + k * 11, none⟩ = some (.int .i64 x.cnt) ∧ w.cell? ⟨b, off + k * 11 + 1, none⟩ = some (.int .i64 x.who) ∧ w.cell? ⟨b, off + k * 11 + 2, none⟩ = some (.int .i64 x.seq) ∧ w.cell? ⟨b, off + k * 11 + 3, none⟩ = some (.int .i64 x.kind) ∧ w.cell? ⟨b, off + k * 11 + 4, none⟩ = some (.int .i64 x.nc) ∧ w.cell? ⟨b, off + k * 11 + 5, none⟩ = some (.int .i64 x.nw) ∧ w.cell? ⟨b, off + k * 11 + 6, none⟩ = some (.bool x.dir) ∧ w.cell? ⟨b, off + k * 11 + 7, none⟩ = some (.int .i64 x.pc) ∧ w.cell? ⟨b, off + k * 11 + 8, none⟩ = some (.int .i64 x.pw) ∧ w.cell? ⟨b, off + k * 11 + 9, none⟩ = some (.string x.name) ∧ w.cell? ⟨b, off + k * 11 + 10, none⟩ = some (.string x.man) := by
  obtain ⟨b, off, e, hlt, hc⟩ := h k x hk
  exact ⟨b, off, e, hlt, hc 0 _ rfl, hc 1 _ rfl, hc 2 _ rfl, hc 3 _ rfl, hc 4 _ rfl, hc 5 _ rfl, hc 6 _ rfl, hc 7 _ rfl, hc 8 _ rfl, hc 9 _ rfl, hc 10 _ rfl⟩
theorem Opr.ext' {x y : Opr} (h0 : x.cnt = y.cnt) (h1 : x.who = y.who) (h2 : x.seq = y.seq) (h3 : x.kind = y.kind) (h4 : x.nc = y.nc) (h5 : x.nw = y.nw) (h6 : x.dir = y.dir) (h7 : x.pc = y.pc) (h8 : x.pw = y.pw) (h9 : x.name = y.name) (h10 : x.man = y.man) : x = y := by
  cases x; cases y; simp_all
instance : DecidableEq Opr := fun x y => decidable_of_iff (x.cnt = y.cnt ∧ x.who = y.who ∧ x.seq = y.seq ∧ x.kind = y.kind ∧ x.nc = y.nc ∧ x.nw = y.nw ∧ x.dir = y.dir ∧ x.pc = y.pc ∧ x.pw = y.pw ∧ x.name = y.name ∧ x.man = y.man)
  ⟨fun ⟨h0, h1, h2, h3, h4, h5, h6, h7, h8, h9, h10⟩ => Opr.ext' h0 h1 h2 h3 h4 h5 h6 h7 h8 h9 h10, fun h => by rw [h]; exact ⟨rfl, rfl, rfl, rfl, rfl, rfl, rfl, rfl, rfl, rfl, rfl⟩⟩
def noOpr : Opr := ⟨0, 0, 0, 0, 0, 0, false, 0, 0, ⟨#[]⟩, ⟨#[]⟩⟩
theorem oprInfo : (Tryz.prog.info? 66).map (fun i => (i.zero, i.size, i.bytes)) = some (some (.agg #[.int .i64 0, .int .i64 0, .int .i64 0, .int .i64 0, .int .i64 0, .int .i64 0, .bool false, .int .i64 0, .int .i64 0, .string ⟨#[]⟩, .string ⟨#[]⟩]), 11, 104) := by kernel_rfl


set_option maxRecDepth 100000 in
theorem neqStp (x y : Stp) (w : World) : (binOp .neq 61 (.agg #[.int .i64 x.c, .int .i64 x.n]) (.agg #[.int .i64 y.c, .int .i64 y.n])).run Tryz.prog w = .ok (.bool (!decide (x = y))) w := by
  rw [run_neq_struct]
  have e : (Op.equalIn 10000 61 (.agg #[.int .i64 x.c, .int .i64 x.n]) (.agg #[.int .i64 y.c, .int .i64 y.n])).run Tryz.prog w = .ok (decide (x = y)) w := by
    simp [go_sem, Tryz.underlying61]
    by_cases h : x = y
    · subst h; simp
    · simp only [h, decide_false]
      try simp only [toList_inj]
      repeat' split
      all_goals first | rfl | exact absurd (Stp.ext' (by assumption) (by assumption)) h
  rw [e]
  rfl
theorem eqlStp (x y : Stp) (w : World) : (binOp .eql 61 (.agg #[.int .i64 x.c, .int .i64 x.n]) (.agg #[.int .i64 y.c, .int .i64 y.n])).run Tryz.prog w = .ok (.bool (decide (x = y))) w := by
  rw [run_eql_struct]
  have e : (Op.equalIn 10000 61 (.agg #[.int .i64 x.c, .int .i64 x.n]) (.agg #[.int .i64 y.c, .int .i64 y.n])).run Tryz.prog w = .ok (decide (x = y)) w := by
    simp [go_sem, Tryz.underlying61]
    by_cases h : x = y
    · subst h; simp
    · simp only [h, decide_false]
      try simp only [toList_inj]
      repeat' split
      all_goals first | rfl | exact absurd (Stp.ext' (by assumption) (by assumption)) h
  rw [e]
  rfl


set_option maxRecDepth 100000 in
theorem neqOpr (x y : Opr) (w : World) : (binOp .neq 66 (.agg #[.int .i64 x.cnt, .int .i64 x.who, .int .i64 x.seq, .int .i64 x.kind, .int .i64 x.nc, .int .i64 x.nw, .bool x.dir, .int .i64 x.pc, .int .i64 x.pw, .string x.name, .string x.man]) (.agg #[.int .i64 y.cnt, .int .i64 y.who, .int .i64 y.seq, .int .i64 y.kind, .int .i64 y.nc, .int .i64 y.nw, .bool y.dir, .int .i64 y.pc, .int .i64 y.pw, .string y.name, .string y.man])).run Tryz.prog w = .ok (.bool (!decide (x = y))) w := by
  rw [run_neq_struct]
  have e : (Op.equalIn 10000 66 (.agg #[.int .i64 x.cnt, .int .i64 x.who, .int .i64 x.seq, .int .i64 x.kind, .int .i64 x.nc, .int .i64 x.nw, .bool x.dir, .int .i64 x.pc, .int .i64 x.pw, .string x.name, .string x.man]) (.agg #[.int .i64 y.cnt, .int .i64 y.who, .int .i64 y.seq, .int .i64 y.kind, .int .i64 y.nc, .int .i64 y.nw, .bool y.dir, .int .i64 y.pc, .int .i64 y.pw, .string y.name, .string y.man])).run Tryz.prog w = .ok (decide (x = y)) w := by
    simp [go_sem, Tryz.underlying66]
    by_cases h : x = y
    · subst h; simp
    · simp only [h, decide_false]
      try simp only [toList_inj]
      repeat' split
      all_goals first | rfl | exact absurd (Opr.ext' (by assumption) (by assumption) (by assumption) (by assumption) (by assumption) (by assumption) (by assumption) (by assumption) (by assumption) (by assumption) (by assumption)) h
  rw [e]
  rfl
theorem eqlOpr (x y : Opr) (w : World) : (binOp .eql 66 (.agg #[.int .i64 x.cnt, .int .i64 x.who, .int .i64 x.seq, .int .i64 x.kind, .int .i64 x.nc, .int .i64 x.nw, .bool x.dir, .int .i64 x.pc, .int .i64 x.pw, .string x.name, .string x.man]) (.agg #[.int .i64 y.cnt, .int .i64 y.who, .int .i64 y.seq, .int .i64 y.kind, .int .i64 y.nc, .int .i64 y.nw, .bool y.dir, .int .i64 y.pc, .int .i64 y.pw, .string y.name, .string y.man])).run Tryz.prog w = .ok (.bool (decide (x = y))) w := by
  rw [run_eql_struct]
  have e : (Op.equalIn 10000 66 (.agg #[.int .i64 x.cnt, .int .i64 x.who, .int .i64 x.seq, .int .i64 x.kind, .int .i64 x.nc, .int .i64 x.nw, .bool x.dir, .int .i64 x.pc, .int .i64 x.pw, .string x.name, .string x.man]) (.agg #[.int .i64 y.cnt, .int .i64 y.who, .int .i64 y.seq, .int .i64 y.kind, .int .i64 y.nc, .int .i64 y.nw, .bool y.dir, .int .i64 y.pc, .int .i64 y.pw, .string y.name, .string y.man])).run Tryz.prog w = .ok (decide (x = y)) w := by
    simp [go_sem, Tryz.underlying66]
    by_cases h : x = y
    · subst h; simp
    · simp only [h, decide_false]
      try simp only [toList_inj]
      repeat' split
      all_goals first | rfl | exact absurd (Opr.ext' (by assumption) (by assumption) (by assumption) (by assumption) (by assumption) (by assumption) (by assumption) (by assumption) (by assumption) (by assumption) (by assumption)) h
  rw [e]
  rfl


set_option maxRecDepth 100000 in
set_option maxHeartbeats 1600000 in
theorem oprs_any (a b : Option Addr) (cap cap' : Nat) (xs ys : List Opr) (w : World) (hl : xs.length ≤ 140737488351232) (ha : RowsAt oprLay w a xs) (hb : RowsAt oprLay w b ys) :
    Calls Tryz.prog 45 #[.slice a xs.length cap, .slice b ys.length cap'] w fun e w' => e = .returned (.bool (decide (xs = ys))) ∧ ∃ n, w' = w.drewN n := by
  have HA := Lib.hid ha
  have HB := Lib.hid hb
  clear ha hb
  by_cases hlen : xs.length = ys.length
  · have hq : ((xs.length : Int) != (ys.length : Int)) = false := by rw [hlen]; simp
    have Hlen := Lib.hid hlen
    clear hlen
    go_enter Tryz.func45, Tryz.ntmps45
    go_wp2
    clear hq
    go_loopw [5] (fun i wr => ∃ k : Nat, k ≤ xs.length ∧ i = .int .i64 k ∧ Hid (∀ j, j < k → xs[j]? = ys[j]?) ∧ ∃ n, wr = w.drewN n) (fun i _ => xs.length - (RowKit.intOf i).toNat)
    case atStart => exact ⟨0, Nat.zero_le _, rfl, fun j hj => absurd hj (Nat.not_lt_zero _), Drawn.refl _⟩
    case round =>
      obtain ⟨k, hk, rfl, Hk, n, rfl⟩ := hrel
      by_cases hlt : k < xs.length
      · have hlt2 : k < ys.length := by have := Hlen.out; omega
        obtain ⟨x, hx⟩ := at_some hlt
        obtain ⟨y, hy⟩ := at_some hlt2
        obtain ⟨b1, o1, rfl, hb1, c0, c1, c2, c3, c4, c5, c6, c7, c8, c9, c10⟩ := opr_at HA.out hx
        obtain ⟨b2, o2, rfl, hb2, d0, d1, d2, d3, d4, d5, d6, d7, d8, d9, d10⟩ := opr_at HB.out hy
        have Hx := Lib.hid hx
        have Hy := Lib.hid hy
        clear hx hy
        have heq := neqOpr x y
        by_cases h1 : x = y
        · have e1 : (!decide (x = y)) = false := by rw [h1]; simp
          rw [e1] at heq
          have Hn := Lib.hid h1
          clear h1 e1
          go_wp2
          go_quiet (fail)
          go_wp2
          go_roundw
          case rel =>
            refine ⟨k + 1, by omega, by go_num, fun j hj => ?_, n + nq, by simp⟩
            by_cases e : j = k
            · subst e; rw [Hx.out, Hy.out, Hn.out]
            · exact Hk.out j (by omega)
          case measure => simp [RowKit.intOf]; omega
        · have e1 : (!decide (x = y)) = true := by simp [h1]
          rw [e1] at heq
          have Hr := Lib.hid (same_at Hx.out Hy.out h1)
          clear h1 e1
          go_wp2
          go_quiet (fail)
          go_wp2
          go_ret
          exact ⟨ret_bool Hr.out.symm, n + nq, by simp⟩
      · have Hr := Lib.hid (same_ok Hlen.out (fun j hj => Hk.out j (by omega)))
        go_wp2
        go_ret
        exact ⟨ret_bool Hr.out.symm, _, rfl⟩
  · have Hr := Lib.hid (same_len hlen)
    have hq : ((xs.length : Int) != (ys.length : Int)) = true := by rw [bne_iff_ne]; omega
    clear hlen
    go_enter Tryz.func45, Tryz.ntmps45
    go_wp2
    go_ret
    exact ⟨ret_bool Hr.out.symm, Drawn.refl _⟩


/-! ### Which operations may be -/
def placeC (c n : Int) : Bool := (decide (c = 0) && decide (n = 0)) || rightC c n == 0
def shapeO (x : Opr) : Bool :=
  if x.kind = 1 then decide (x.nc = x.cnt) && decide (x.nw = x.who) && placeC x.pc x.pw && !(decide (x.pc = x.nc) && decide (x.pw = x.nw)) && (if x.dir then decide (x.man = ⟨#[]⟩) else decide (x.man.size ≤ 600))
  else if x.kind = 2 then rightC x.nc x.nw == 0 && !x.dir && placeC x.pc x.pw && decide (x.man = ⟨#[]⟩)
  else if x.kind = 3 then rightC x.nc x.nw == 0 && !x.dir && (decide (x.pc = 0) && decide (x.pw = 0) && decide (x.name = ⟨#[]⟩)) && decide (x.man.size ≤ 600)
  else if x.kind = 4 then rightC x.nc x.nw == 0 && !x.dir && (decide (x.pc = 0) && decide (x.pw = 0) && decide (x.name = ⟨#[]⟩)) && decide (x.man = ⟨#[]⟩)
  else false
def rightO (x : Opr) : Int :=
  if rightC x.cnt x.who ≠ 0 ∨ x.seq < 1 ∨ 1099511627776 < x.seq then 20
  else if (x.kind = 1 ∨ x.kind = 2) ∧ rightN x.name.data.toList ≠ 0 then 23
  else if shapeO x then 0 else 22


set_option maxRecDepth 100000 in
theorem place_any (c n : Int) (w : World) :
    Calls Tryz.prog 139 #[.agg #[.int .i64 c, .int .i64 n]] w fun e w' => e = .returned (.bool (placeC c n)) ∧ Below w.heap.size w w' := by
  have hb := stamp_below w c n
  have HR := Lib.hid fun W => cright_any c n W
  have heq := eqlStp ⟨c, n⟩ ⟨0, 0⟩
  have hp : placeC c n = (decide ((⟨c, n⟩ : Stp) = ⟨0, 0⟩) || rightC c n == 0) := by
    unfold placeC
    congr 1
    rw [← Bool.decide_and]
    exact decide_eq_decide.2 ⟨fun h => Stp.ext' h.1 h.2, fun h => by cases h; exact ⟨rfl, rfl⟩⟩
  dsimp only at heq
  have Hp := Lib.hid hp
  clear hp
  generalize decide ((⟨c, n⟩ : Stp) = ⟨0, 0⟩) = z at *
  generalize rightC c n = r at *
  cases z with
  | true =>
    go_enter Tryz.func139, Tryz.ntmps139
    go_wp2_with fail
    go_ret
    exact ⟨ret_bool (by rw [Hp.out]; rfl), hb⟩
  | false =>
    go_enter Tryz.func139, Tryz.ntmps139
    go_wp2_with fail
    refine (HR.out _).mono ?_
    rintro e w1 ⟨rfl, hb1⟩
    go_wp2_with fail
    go_ret
    exact ⟨ret_bool (by rw [Hp.out]; rfl), hb.trans (hb1.mono hb.size)⟩


end Go.Proofs.YtgglheelhbfgiaaGreatDoor

namespace Go.Proofs.YtgglheelhbfgiaaGreatDoor
open Go Go.RowKit Go.Lib
theorem opr_eq {x y : Opr} : x = y ↔ x.cnt = y.cnt ∧ x.who = y.who ∧ x.seq = y.seq ∧ x.kind = y.kind ∧ x.nc = y.nc ∧ x.nw = y.nw ∧ x.dir = y.dir ∧ x.pc = y.pc ∧ x.pw = y.pw ∧ x.name = y.name ∧ x.man = y.man :=
  ⟨fun h => by rw [h]; exact ⟨rfl, rfl, rfl, rfl, rfl, rfl, rfl, rfl, rfl, rfl, rfl⟩, fun ⟨h0, h1, h2, h3, h4, h5, h6, h7, h8, h9, h10⟩ => Opr.ext' h0 h1 h2 h3 h4 h5 h6 h7 h8 h9 h10⟩
theorem stp_eq {a b c d : Int} : decide ((⟨a, b⟩ : Stp) = ⟨c, d⟩) = (decide (a = c) && decide (b = d)) := by
  rw [← Bool.decide_and]
  exact decide_eq_decide.2 ⟨fun h => by cases h; exact ⟨rfl, rfl⟩, fun h => Stp.ext' h.1 h.2⟩


set_option maxRecDepth 100000 in
set_option maxHeartbeats 3200000 in
theorem shaped_1_true (x : Opr) (w : World) (hk : x.kind = 1) (hd : x.dir = true) (hm : x.man.size ≤ 100000) :
    Calls Tryz.prog 113 #[.agg #[.int .i64 x.cnt, .int .i64 x.who, .int .i64 x.seq, .int .i64 x.kind, .int .i64 x.nc, .int .i64 x.nw, .bool x.dir, .int .i64 x.pc, .int .i64 x.pw, .string x.name, .string x.man]] w fun e w' => e = .returned (.bool (shapeO x)) ∧ Below w.heap.size w w' := by
  obtain ⟨cnt, who, seq, kind, nc, nw, dir, pc, pw, name, man⟩ := x
  obtain rfl : kind = 1 := hk
  obtain rfl : dir = true := hd
  dsimp only at hm ⊢
  have heq := eqlOpr ⟨cnt, who, seq, 1, nc, nw, true, pc, pw, name, man⟩ ⟨cnt, who, seq, 1, cnt, who, true, pc, pw, name, ⟨#[]⟩⟩
  have hS : shapeO ⟨cnt, who, seq, 1, nc, nw, true, pc, pw, name, man⟩ = (decide ((⟨cnt, who, seq, 1, nc, nw, true, pc, pw, name, man⟩ : Opr) = ⟨cnt, who, seq, 1, cnt, who, true, pc, pw, name, ⟨#[]⟩⟩) && (placeC pc pw && !decide ((⟨pc, pw⟩ : Stp) = ⟨nc, nw⟩) && decide (man.size ≤ 600))) := by
    have he : decide ((⟨cnt, who, seq, 1, nc, nw, true, pc, pw, name, man⟩ : Opr) = ⟨cnt, who, seq, 1, cnt, who, true, pc, pw, name, ⟨#[]⟩⟩) = (decide (nc = cnt) && decide (nw = who) && decide (man = ⟨#[]⟩)) := by
      rw [show decide ((⟨cnt, who, seq, 1, nc, nw, true, pc, pw, name, man⟩ : Opr) = ⟨cnt, who, seq, 1, cnt, who, true, pc, pw, name, ⟨#[]⟩⟩) = decide (_ ∧ _) from decide_eq_decide.2 opr_eq]
      simp [Bool.and_assoc]
    rw [he]
    unfold shapeO
    simp only [stp_eq]
    simp only [if_true]
    by_cases hmm : man = ⟨#[]⟩
    · subst hmm
      have : decide ((ByteArray.size ⟨#[]⟩) ≤ 600) = true := by decide
      rw [this]
      generalize placeC pc pw = p
      generalize decide (nc = cnt) = a
      generalize decide (nw = who) = b
      generalize decide (pc = nc) = c
      generalize decide (pw = nw) = d
      cases a <;> cases b <;> cases c <;> cases d <;> cases p <;> rfl
    · simp [hmm]
  have hbx : Below w.heap.size w (((w.alloc (.cells #[.int .i64 cnt, .int .i64 who, .int .i64 seq, .int .i64 1, .int .i64 nc, .int .i64 nw, .bool true, .int .i64 pc, .int .i64 pw, .string name, .string man] 66)).alloc (.cells #[.int .i64 cnt, .int .i64 who, .int .i64 seq, .int .i64 1, .int .i64 cnt, .int .i64 who, .bool true, .int .i64 pc, .int .i64 pw, .string name, .string ⟨#[]⟩] 66)).drew) := (((Below.refl _ _).alloc (Nat.le_refl _) _).alloc (by simp) _).drew
  have HS := Lib.hid hS
  clear hS
  dsimp only at heq
  generalize decide ((⟨cnt, who, seq, 1, nc, nw, true, pc, pw, name, man⟩ : Opr) = ⟨cnt, who, seq, 1, cnt, who, true, pc, pw, name, ⟨#[]⟩⟩) = z at *
  have HP := Lib.hid fun W => place_any pc pw W
  have hq := neqStp ⟨pc, pw⟩ ⟨nc, nw⟩
  dsimp only at hq
  generalize placeC pc pw = p at *
  generalize decide ((⟨pc, pw⟩ : Stp) = ⟨nc, nw⟩) = q at *
  cases z with
  | false =>
    go_enter Tryz.func113, Tryz.ntmps113
    go_wp2_with fail
    go_region
    go_wp2_with fail
    go_ret
    exact ⟨ret_bool (by rw [HS.out]; rfl), hbx⟩
  | true =>
    cases p with
    | false =>
      go_enter Tryz.func113, Tryz.ntmps113
      go_wp2_with fail
      go_region
      go_wp2_with fail
      refine (HP.out _).mono ?_
      rintro e w1 ⟨rfl, hb1⟩
      have hc1 := hbx.trans (hb1.mono hbx.size)
      have hl1 := fun i => hb1.cell (p := ⟨w.heap.size, i, none⟩) (by simp; omega)
      go_wp2_with fail
      go_ret
      exact ⟨ret_bool (by rw [HS.out]; rfl), hc1⟩
    | true =>
      cases q with
      | true =>
        go_enter Tryz.func113, Tryz.ntmps113
        go_wp2_with fail
        go_region
        go_wp2_with fail
        refine (HP.out _).mono ?_
        rintro e w1 ⟨rfl, hb1⟩
        have hc1 := hbx.trans (hb1.mono hbx.size)
        have hl1 := fun i => hb1.cell (p := ⟨w.heap.size, i, none⟩) (by simp; omega)
        go_wp2_with fail
        go_ret
        exact ⟨ret_bool (by rw [HS.out]; simp), hc1⟩
      | false =>
        go_enter Tryz.func113, Tryz.ntmps113
        go_wp2_with fail
        go_region
        go_wp2_with fail
        refine (HP.out _).mono ?_
        rintro e w1 ⟨rfl, hb1⟩
        have hc1 := hbx.trans (hb1.mono hbx.size)
        have hl1 := fun i => hb1.cell (p := ⟨w.heap.size, i, none⟩) (by simp; omega)
        go_wp2_with fail
        go_ret
        exact ⟨ret_bool (by rw [HS.out]; simp; omega), hc1⟩

set_option maxRecDepth 100000 in
set_option maxHeartbeats 3200000 in
theorem shaped_1_false (x : Opr) (w : World) (hk : x.kind = 1) (hd : x.dir = false) (hm : x.man.size ≤ 100000) :
    Calls Tryz.prog 113 #[.agg #[.int .i64 x.cnt, .int .i64 x.who, .int .i64 x.seq, .int .i64 x.kind, .int .i64 x.nc, .int .i64 x.nw, .bool x.dir, .int .i64 x.pc, .int .i64 x.pw, .string x.name, .string x.man]] w fun e w' => e = .returned (.bool (shapeO x)) ∧ Below w.heap.size w w' := by
  obtain ⟨cnt, who, seq, kind, nc, nw, dir, pc, pw, name, man⟩ := x
  obtain rfl : kind = 1 := hk
  obtain rfl : dir = false := hd
  dsimp only at hm ⊢
  have heq := eqlOpr ⟨cnt, who, seq, 1, nc, nw, false, pc, pw, name, man⟩ ⟨cnt, who, seq, 1, cnt, who, false, pc, pw, name, man⟩
  have hS : shapeO ⟨cnt, who, seq, 1, nc, nw, false, pc, pw, name, man⟩ = (decide ((⟨cnt, who, seq, 1, nc, nw, false, pc, pw, name, man⟩ : Opr) = ⟨cnt, who, seq, 1, cnt, who, false, pc, pw, name, man⟩) && (placeC pc pw && !decide ((⟨pc, pw⟩ : Stp) = ⟨nc, nw⟩) && decide (man.size ≤ 600))) := by
    have he : decide ((⟨cnt, who, seq, 1, nc, nw, false, pc, pw, name, man⟩ : Opr) = ⟨cnt, who, seq, 1, cnt, who, false, pc, pw, name, man⟩) = (decide (nc = cnt) && decide (nw = who)) := by
      rw [show decide ((⟨cnt, who, seq, 1, nc, nw, false, pc, pw, name, man⟩ : Opr) = ⟨cnt, who, seq, 1, cnt, who, false, pc, pw, name, man⟩) = decide (_ ∧ _) from decide_eq_decide.2 opr_eq]
      simp
    rw [he]
    unfold shapeO
    simp only [stp_eq]
    simp only [if_true]
    generalize placeC pc pw = p
    generalize decide (nc = cnt) = a
    generalize decide (nw = who) = b
    generalize decide (pc = nc) = c
    generalize decide (pw = nw) = d
    generalize decide (man.size ≤ 600) = m
    cases a <;> cases b <;> cases c <;> cases d <;> cases p <;> cases m <;> rfl
  have hbx : Below w.heap.size w (((w.alloc (.cells #[.int .i64 cnt, .int .i64 who, .int .i64 seq, .int .i64 1, .int .i64 nc, .int .i64 nw, .bool false, .int .i64 pc, .int .i64 pw, .string name, .string man] 66)).alloc (.cells #[.int .i64 cnt, .int .i64 who, .int .i64 seq, .int .i64 1, .int .i64 cnt, .int .i64 who, .bool false, .int .i64 pc, .int .i64 pw, .string name, .string man] 66)).drew) := (((Below.refl _ _).alloc (Nat.le_refl _) _).alloc (by simp) _).drew
  have HS := Lib.hid hS
  clear hS
  dsimp only at heq
  generalize decide ((⟨cnt, who, seq, 1, nc, nw, false, pc, pw, name, man⟩ : Opr) = ⟨cnt, who, seq, 1, cnt, who, false, pc, pw, name, man⟩) = z at *
  have HP := Lib.hid fun W => place_any pc pw W
  have hq := neqStp ⟨pc, pw⟩ ⟨nc, nw⟩
  dsimp only at hq
  generalize placeC pc pw = p at *
  generalize decide ((⟨pc, pw⟩ : Stp) = ⟨nc, nw⟩) = q at *
  cases z with
  | false =>
    go_enter Tryz.func113, Tryz.ntmps113
    go_wp2_with fail
    go_region
    go_wp2_with fail
    go_ret
    exact ⟨ret_bool (by rw [HS.out]; rfl), hbx⟩
  | true =>
    cases p with
    | false =>
      go_enter Tryz.func113, Tryz.ntmps113
      go_wp2_with fail
      go_region
      go_wp2_with fail
      refine (HP.out _).mono ?_
      rintro e w1 ⟨rfl, hb1⟩
      have hc1 := hbx.trans (hb1.mono hbx.size)
      have hl1 := fun i => hb1.cell (p := ⟨w.heap.size, i, none⟩) (by simp; omega)
      go_wp2_with fail
      go_ret
      exact ⟨ret_bool (by rw [HS.out]; rfl), hc1⟩
    | true =>
      cases q with
      | true =>
        go_enter Tryz.func113, Tryz.ntmps113
        go_wp2_with fail
        go_region
        go_wp2_with fail
        refine (HP.out _).mono ?_
        rintro e w1 ⟨rfl, hb1⟩
        have hc1 := hbx.trans (hb1.mono hbx.size)
        have hl1 := fun i => hb1.cell (p := ⟨w.heap.size, i, none⟩) (by simp; omega)
        go_wp2_with fail
        go_ret
        exact ⟨ret_bool (by rw [HS.out]; simp), hc1⟩
      | false =>
        go_enter Tryz.func113, Tryz.ntmps113
        go_wp2_with fail
        go_region
        go_wp2_with fail
        refine (HP.out _).mono ?_
        rintro e w1 ⟨rfl, hb1⟩
        have hc1 := hbx.trans (hb1.mono hbx.size)
        have hl1 := fun i => hb1.cell (p := ⟨w.heap.size, i, none⟩) (by simp; omega)
        go_wp2_with fail
        go_ret
        exact ⟨ret_bool (by rw [HS.out]; simp; omega), hc1⟩

set_option maxRecDepth 100000 in
set_option maxHeartbeats 3200000 in
theorem shaped_2 (x : Opr) (w : World) (hk : x.kind = 2) (hm : x.man.size ≤ 100000) :
    Calls Tryz.prog 113 #[.agg #[.int .i64 x.cnt, .int .i64 x.who, .int .i64 x.seq, .int .i64 x.kind, .int .i64 x.nc, .int .i64 x.nw, .bool x.dir, .int .i64 x.pc, .int .i64 x.pw, .string x.name, .string x.man]] w fun e w' => e = .returned (.bool (shapeO x)) ∧ Below w.heap.size w w' := by
  obtain ⟨cnt, who, seq, kind, nc, nw, dir, pc, pw, name, man⟩ := x
  obtain rfl : kind = 2 := hk
  dsimp only at hm ⊢
  have heq := eqlOpr ⟨cnt, who, seq, 2, nc, nw, dir, pc, pw, name, man⟩ ⟨cnt, who, seq, 2, nc, nw, false, pc, pw, name, ⟨#[]⟩⟩
  have hS : shapeO ⟨cnt, who, seq, 2, nc, nw, dir, pc, pw, name, man⟩ = (decide ((⟨cnt, who, seq, 2, nc, nw, dir, pc, pw, name, man⟩ : Opr) = ⟨cnt, who, seq, 2, nc, nw, false, pc, pw, name, ⟨#[]⟩⟩) && (placeC pc pw && rightC nc nw == 0)) := by
    have he : decide ((⟨cnt, who, seq, 2, nc, nw, dir, pc, pw, name, man⟩ : Opr) = ⟨cnt, who, seq, 2, nc, nw, false, pc, pw, name, ⟨#[]⟩⟩) = (!dir && decide (man = ⟨#[]⟩)) := by
      rw [show decide ((⟨cnt, who, seq, 2, nc, nw, dir, pc, pw, name, man⟩ : Opr) = ⟨cnt, who, seq, 2, nc, nw, false, pc, pw, name, ⟨#[]⟩⟩) = decide (_ ∧ _) from decide_eq_decide.2 opr_eq]
      simp
    rw [he]
    unfold shapeO
    dsimp only
    rw [if_neg (show ¬ (2 : Int) = 1 by decide), if_pos rfl]
    generalize placeC pc pw = p
    generalize (rightC nc nw == 0) = a
    generalize decide (man = ⟨#[]⟩) = m
    cases a <;> cases p <;> cases m <;> cases dir <;> rfl
  have hbx : Below w.heap.size w (((w.alloc (.cells #[.int .i64 cnt, .int .i64 who, .int .i64 seq, .int .i64 2, .int .i64 nc, .int .i64 nw, .bool dir, .int .i64 pc, .int .i64 pw, .string name, .string man] 66)).alloc (.cells #[.int .i64 cnt, .int .i64 who, .int .i64 seq, .int .i64 2, .int .i64 nc, .int .i64 nw, .bool false, .int .i64 pc, .int .i64 pw, .string name, .string ⟨#[]⟩] 66)).drew) := (((Below.refl _ _).alloc (Nat.le_refl _) _).alloc (by simp) _).drew
  have HS := Lib.hid hS
  clear hS
  dsimp only at heq
  generalize decide ((⟨cnt, who, seq, 2, nc, nw, dir, pc, pw, name, man⟩ : Opr) = ⟨cnt, who, seq, 2, nc, nw, false, pc, pw, name, ⟨#[]⟩⟩) = z at *
  have HP := Lib.hid fun W => place_any pc pw W
  have HR := Lib.hid fun W => cright_any nc nw W
  generalize placeC pc pw = p at *
  generalize rightC nc nw = r at *
  cases z with
  | false =>
    go_enter Tryz.func113, Tryz.ntmps113
    go_wp2_with fail
    go_region
    go_wp2_with fail
    go_ret
    exact ⟨ret_bool (by rw [HS.out]; rfl), hbx⟩
  | true =>
    cases p with
    | false =>
      go_enter Tryz.func113, Tryz.ntmps113
      go_wp2_with fail
      go_region
      go_wp2_with fail
      refine (HP.out _).mono ?_
      rintro e w1 ⟨rfl, hb1⟩
      have hc1 := hbx.trans (hb1.mono hbx.size)
      have hl1 := fun i => hb1.cell (p := ⟨w.heap.size, i, none⟩) (by simp; omega)
      go_wp2_with fail
      go_ret
      exact ⟨ret_bool (by rw [HS.out]; rfl), hc1⟩
    | true =>
      go_enter Tryz.func113, Tryz.ntmps113
      go_wp2_with fail
      go_region
      go_wp2_with fail
      refine (HP.out _).mono ?_
      rintro e w1 ⟨rfl, hb1⟩
      have hc1 := hbx.trans (hb1.mono hbx.size)
      have hl1 := fun i => hb1.cell (p := ⟨w.heap.size, i, none⟩) (by simp; omega)
      go_wp2_with fail
      refine (HR.out _).mono ?_
      rintro e w2 ⟨rfl, hb2⟩
      have hc2 := hc1.trans (hb2.mono hc1.size)
      go_wp2_with fail
      go_ret
      exact ⟨ret_bool (by rw [HS.out]; simp), hc2⟩

set_option maxRecDepth 100000 in
set_option maxHeartbeats 3200000 in
theorem shaped_3 (x : Opr) (w : World) (hk : x.kind = 3) (hm : x.man.size ≤ 100000) :
    Calls Tryz.prog 113 #[.agg #[.int .i64 x.cnt, .int .i64 x.who, .int .i64 x.seq, .int .i64 x.kind, .int .i64 x.nc, .int .i64 x.nw, .bool x.dir, .int .i64 x.pc, .int .i64 x.pw, .string x.name, .string x.man]] w fun e w' => e = .returned (.bool (shapeO x)) ∧ Below w.heap.size w w' := by
  obtain ⟨cnt, who, seq, kind, nc, nw, dir, pc, pw, name, man⟩ := x
  obtain rfl : kind = 3 := hk
  dsimp only at hm ⊢
  have heq := eqlOpr ⟨cnt, who, seq, 3, nc, nw, dir, pc, pw, name, man⟩ ⟨cnt, who, seq, 3, nc, nw, false, 0, 0, ⟨#[]⟩, man⟩
  have hS : shapeO ⟨cnt, who, seq, 3, nc, nw, dir, pc, pw, name, man⟩ = (decide ((⟨cnt, who, seq, 3, nc, nw, dir, pc, pw, name, man⟩ : Opr) = ⟨cnt, who, seq, 3, nc, nw, false, 0, 0, ⟨#[]⟩, man⟩) && ((rightC nc nw == 0) && decide (man.size ≤ 600))) := by
    have he : decide ((⟨cnt, who, seq, 3, nc, nw, dir, pc, pw, name, man⟩ : Opr) = ⟨cnt, who, seq, 3, nc, nw, false, 0, 0, ⟨#[]⟩, man⟩) = (!dir && (decide (pc = 0) && decide (pw = 0) && decide (name = ⟨#[]⟩))) := by
      rw [show decide ((⟨cnt, who, seq, 3, nc, nw, dir, pc, pw, name, man⟩ : Opr) = ⟨cnt, who, seq, 3, nc, nw, false, 0, 0, ⟨#[]⟩, man⟩) = decide (_ ∧ _) from decide_eq_decide.2 opr_eq]
      simp [Bool.and_assoc]
    rw [he]
    unfold shapeO
    dsimp only
    rw [if_neg (show ¬ (3 : Int) = 1 by decide), if_neg (show ¬ (3 : Int) = 2 by decide), if_pos rfl]
    generalize (rightC nc nw == 0) = a
    generalize decide (man.size ≤ 600) = m
    generalize decide (pc = 0) = b
    generalize decide (pw = 0) = c
    generalize decide (name = ⟨#[]⟩) = d
    cases a <;> cases m <;> cases dir <;> cases b <;> cases c <;> cases d <;> rfl
  have hbx : Below w.heap.size w (((w.alloc (.cells #[.int .i64 cnt, .int .i64 who, .int .i64 seq, .int .i64 3, .int .i64 nc, .int .i64 nw, .bool dir, .int .i64 pc, .int .i64 pw, .string name, .string man] 66)).alloc (.cells #[.int .i64 cnt, .int .i64 who, .int .i64 seq, .int .i64 3, .int .i64 nc, .int .i64 nw, .bool false, .int .i64 0, .int .i64 0, .string ⟨#[]⟩, .string man] 66))) := (((Below.refl _ _).alloc (Nat.le_refl _) _).alloc (by simp) _)
  have HS := Lib.hid hS
  clear hS
  dsimp only at heq
  generalize decide ((⟨cnt, who, seq, 3, nc, nw, dir, pc, pw, name, man⟩ : Opr) = ⟨cnt, who, seq, 3, nc, nw, false, 0, 0, ⟨#[]⟩, man⟩) = z at *
  have HR := Lib.hid fun W => cright_any nc nw W
  generalize rightC nc nw = r at *
  cases z with
  | false =>
    go_enter Tryz.func113, Tryz.ntmps113
    go_wp2_with fail
    go_ret
    exact ⟨ret_bool (by rw [HS.out]; rfl), hbx⟩
  | true =>
    generalize hr : (r == 0) = g at *
    cases g with
    | false =>
      go_enter Tryz.func113, Tryz.ntmps113
      go_wp2_with fail
      refine (HR.out _).mono ?_
      rintro e w1 ⟨rfl, hb1⟩
      have hc1 := hbx.trans (hb1.mono hbx.size)
      have hl1 := fun i => hb1.cell (p := ⟨w.heap.size, i, none⟩) (by simp; omega)
      go_wp2_with fail
      go_ret
      exact ⟨ret_bool (by rw [HS.out]; simp), hc1⟩
    | true =>
      go_enter Tryz.func113, Tryz.ntmps113
      go_wp2_with fail
      refine (HR.out _).mono ?_
      rintro e w1 ⟨rfl, hb1⟩
      have hc1 := hbx.trans (hb1.mono hbx.size)
      have hl1 := fun i => hb1.cell (p := ⟨w.heap.size, i, none⟩) (by simp; omega)
      go_wp2_with fail
      go_ret
      exact ⟨ret_bool (by rw [HS.out]; simp; omega), hc1⟩

set_option maxRecDepth 100000 in
set_option maxHeartbeats 3200000 in
theorem shaped_4 (x : Opr) (w : World) (hk : x.kind = 4) (hm : x.man.size ≤ 100000) :
    Calls Tryz.prog 113 #[.agg #[.int .i64 x.cnt, .int .i64 x.who, .int .i64 x.seq, .int .i64 x.kind, .int .i64 x.nc, .int .i64 x.nw, .bool x.dir, .int .i64 x.pc, .int .i64 x.pw, .string x.name, .string x.man]] w fun e w' => e = .returned (.bool (shapeO x)) ∧ Below w.heap.size w w' := by
  obtain ⟨cnt, who, seq, kind, nc, nw, dir, pc, pw, name, man⟩ := x
  obtain rfl : kind = 4 := hk
  dsimp only at hm ⊢
  have heq := eqlOpr ⟨cnt, who, seq, 4, nc, nw, dir, pc, pw, name, man⟩ ⟨cnt, who, seq, 4, nc, nw, false, 0, 0, ⟨#[]⟩, ⟨#[]⟩⟩
  have hS : shapeO ⟨cnt, who, seq, 4, nc, nw, dir, pc, pw, name, man⟩ = (decide ((⟨cnt, who, seq, 4, nc, nw, dir, pc, pw, name, man⟩ : Opr) = ⟨cnt, who, seq, 4, nc, nw, false, 0, 0, ⟨#[]⟩, ⟨#[]⟩⟩) && (rightC nc nw == 0)) := by
    have he : decide ((⟨cnt, who, seq, 4, nc, nw, dir, pc, pw, name, man⟩ : Opr) = ⟨cnt, who, seq, 4, nc, nw, false, 0, 0, ⟨#[]⟩, ⟨#[]⟩⟩) = (!dir && (decide (pc = 0) && decide (pw = 0) && decide (name = ⟨#[]⟩)) && decide (man = ⟨#[]⟩)) := by
      rw [show decide ((⟨cnt, who, seq, 4, nc, nw, dir, pc, pw, name, man⟩ : Opr) = ⟨cnt, who, seq, 4, nc, nw, false, 0, 0, ⟨#[]⟩, ⟨#[]⟩⟩) = decide (_ ∧ _) from decide_eq_decide.2 opr_eq]
      simp [Bool.and_assoc]
    rw [he]
    unfold shapeO
    dsimp only
    rw [if_neg (show ¬ (4 : Int) = 1 by decide), if_neg (show ¬ (4 : Int) = 2 by decide), if_neg (show ¬ (4 : Int) = 3 by decide), if_pos rfl]
    generalize (rightC nc nw == 0) = a
    generalize decide (man = ⟨#[]⟩) = m
    generalize decide (pc = 0) = b
    generalize decide (pw = 0) = c
    generalize decide (name = ⟨#[]⟩) = d
    cases a <;> cases m <;> cases dir <;> cases b <;> cases c <;> cases d <;> rfl
  have hbx : Below w.heap.size w (((w.alloc (.cells #[.int .i64 cnt, .int .i64 who, .int .i64 seq, .int .i64 4, .int .i64 nc, .int .i64 nw, .bool dir, .int .i64 pc, .int .i64 pw, .string name, .string man] 66)).alloc (.cells #[.int .i64 cnt, .int .i64 who, .int .i64 seq, .int .i64 4, .int .i64 nc, .int .i64 nw, .bool false, .int .i64 0, .int .i64 0, .string ⟨#[]⟩, .string ⟨#[]⟩] 66))) := (((Below.refl _ _).alloc (Nat.le_refl _) _).alloc (by simp) _)
  have HS := Lib.hid hS
  clear hS
  dsimp only at heq
  generalize decide ((⟨cnt, who, seq, 4, nc, nw, dir, pc, pw, name, man⟩ : Opr) = ⟨cnt, who, seq, 4, nc, nw, false, 0, 0, ⟨#[]⟩, ⟨#[]⟩⟩) = z at *
  have HR := Lib.hid fun W => cright_any nc nw W
  generalize rightC nc nw = r at *
  cases z with
  | false =>
    go_enter Tryz.func113, Tryz.ntmps113
    go_wp2_with fail
    go_ret
    exact ⟨ret_bool (by rw [HS.out]; rfl), hbx⟩
  | true =>
    go_enter Tryz.func113, Tryz.ntmps113
    go_wp2_with fail
    refine (HR.out _).mono ?_
    rintro e w1 ⟨rfl, hb1⟩
    have hc1 := hbx.trans (hb1.mono hbx.size)
    have hl1 := fun i => hb1.cell (p := ⟨w.heap.size, i, none⟩) (by simp; omega)
    go_wp2_with fail
    go_ret
    exact ⟨ret_bool (by rw [HS.out]; simp), hc1⟩

set_option maxRecDepth 100000 in
theorem shaped_any (x : Opr) (w : World) (hm : x.man.size ≤ 100000) :
    Calls Tryz.prog 113 #[.agg #[.int .i64 x.cnt, .int .i64 x.who, .int .i64 x.seq, .int .i64 x.kind, .int .i64 x.nc, .int .i64 x.nw, .bool x.dir, .int .i64 x.pc, .int .i64 x.pw, .string x.name, .string x.man]] w fun e w' => e = .returned (.bool (shapeO x)) ∧ Below w.heap.size w w' := by
  by_cases h1 : x.kind = 1
  · cases hd : x.dir with
    | true => have := shaped_1_true x w h1 hd hm; rwa [hd] at this
    | false => have := shaped_1_false x w h1 hd hm; rwa [hd] at this
  by_cases h2 : x.kind = 2
  · exact shaped_2 x w h2 hm
  by_cases h3 : x.kind = 3
  · exact shaped_3 x w h3 hm
  by_cases h4 : x.kind = 4
  · exact shaped_4 x w h4 hm
  have HS := Lib.hid (show shapeO x = false by unfold shapeO; rw [if_neg h1, if_neg h2, if_neg h3, if_neg h4])
  obtain ⟨cnt, who, seq, kind, nc, nw, dir, pc, pw, name, man⟩ := x
  dsimp only at h1 h2 h3 h4 ⊢
  have e1 : (kind == 1) = false := by simpa using h1
  have e2 : (kind == 2) = false := by simpa using h2
  have e3 : (kind == 3) = false := by simpa using h3
  have e4 : (kind == 4) = false := by simpa using h4
  have hbx : Below w.heap.size w ((w.alloc (.cells #[.int .i64 cnt, .int .i64 who, .int .i64 seq, .int .i64 kind, .int .i64 nc, .int .i64 nw, .bool dir, .int .i64 pc, .int .i64 pw, .string name, .string man] 66)).alloc (.cells #[.int .i64 cnt, .int .i64 who, .int .i64 seq, .int .i64 kind, .int .i64 nc, .int .i64 nw, .bool false, .int .i64 0, .int .i64 0, .string ⟨#[]⟩, .string ⟨#[]⟩] 66)) := ((Below.refl _ _).alloc (Nat.le_refl _) _).alloc (by simp) _
  clear h1 h2 h3 h4
  go_enter Tryz.func113, Tryz.ntmps113
  go_wp2_with fail
  go_ret
  exact ⟨ret_bool HS.out.symm, hbx⟩
end Go.Proofs.YtgglheelhbfgiaaGreatDoor

namespace Go.Proofs.YtgglheelhbfgiaaGreatDoor
open Go Go.RowKit Go.Lib

theorem isEmpty_eq (s : ByteArray) : s.toList.isEmpty = decide (s = ⟨#[]⟩) := by
  by_cases h : s = ⟨#[]⟩
  · rw [h, toList_data]; rfl
  · rw [empty_ne h]; simp [h]


end Go.Proofs.YtgglheelhbfgiaaGreatDoor

namespace Go.Proofs.YtgglheelhbfgiaaGreatDoor
open Go Go.RowKit Go.Lib


end Go.Proofs.YtgglheelhbfgiaaGreatDoor

namespace Go.Proofs.YtgglheelhbfgiaaGreatDoor
open Go Go.RowKit Go.Lib


set_option maxRecDepth 100000 in
set_option maxHeartbeats 6400000 in
theorem oright_any (x : Opr) (w : World) (hn : x.name.size ≤ 100000) (hm : x.man.size ≤ 100000) :
    Calls Tryz.prog 80 #[.agg #[.int .i64 x.cnt, .int .i64 x.who, .int .i64 x.seq, .int .i64 x.kind, .int .i64 x.nc, .int .i64 x.nw, .bool x.dir, .int .i64 x.pc, .int .i64 x.pw, .string x.name, .string x.man]] w fun e w' => e = .returned (.int .i64 (rightO x)) ∧ Below w.heap.size w w' := by
  have hR : rightO x = if (rightC x.cnt x.who == 0) = false ∨ x.seq < 1 ∨ 1099511627776 < x.seq then 20
    else if (x.kind = 1 ∨ x.kind = 2) ∧ (rightN x.name.data.toList == 0) = false then 23 else if shapeO x then 0 else 22 := by
    unfold rightO
    simp only [ne_eq, beq_eq_false_iff_ne]
  have HS := Lib.hid fun W => shaped_any x W hm
  have HN := Lib.hid fun W => nright_any x.name W (by omega)
  have HC := Lib.hid fun W => cright_any x.cnt x.who W
  obtain ⟨cnt, who, seq, kind, nc, nw, dir, pc, pw, name, man⟩ := x
  dsimp only at hm hn hR HS HN HC ⊢
  have HR := Lib.hid hR
  clear hR
  have hbx : Below w.heap.size w (w.alloc (.cells #[.int .i64 cnt, .int .i64 who, .int .i64 seq, .int .i64 kind, .int .i64 nc, .int .i64 nw, .bool dir, .int .i64 pc, .int .i64 pw, .string name, .string man] 66)) := (Below.refl _ _).alloc (Nat.le_refl _) _
  have hg : ∀ r : Int, (r != 0) = !(r == 0) := fun r => rfl
  have hg1 := hg (rightC cnt who)
  have hg2 := hg (rightN name.data.toList)
  clear hg
  generalize (rightC cnt who == 0) = g at *
  generalize (rightN name.data.toList == 0) = h at *
  generalize rightC cnt who = rc at *
  generalize rightN name.data.toList = rn at *
  generalize shapeO _ = sh at *
  generalize rightO _ = ro at *
  cases g with
  | false =>
    go_enter Tryz.func80, Tryz.ntmps80
    go_wp2_with fail
    refine (HC.out _).mono ?_
    rintro e w1 ⟨rfl, hb1⟩
    have hc1 := hbx.trans (hb1.mono hbx.size)
    have hl1 := fun i => hb1.cell (p := ⟨w.heap.size, i, none⟩) (by simp)
    go_wp2_with fail
    go_ret
    exact ⟨ret_int (by rw [HR.out]; simp), hc1⟩
  | true =>
    by_cases h1 : seq < 1
    · go_enter Tryz.func80, Tryz.ntmps80
      go_wp2_with fail
      refine (HC.out _).mono ?_
      rintro e w1 ⟨rfl, hb1⟩
      have hc1 := hbx.trans (hb1.mono hbx.size)
      have hl1 := fun i => hb1.cell (p := ⟨w.heap.size, i, none⟩) (by simp)
      go_wp2_with fail
      go_ret
      exact ⟨ret_int (by rw [HR.out]; simp [h1]), hc1⟩
    by_cases h2 : 1099511627776 < seq
    · go_enter Tryz.func80, Tryz.ntmps80
      go_wp2_with fail
      refine (HC.out _).mono ?_
      rintro e w1 ⟨rfl, hb1⟩
      have hc1 := hbx.trans (hb1.mono hbx.size)
      have hl1 := fun i => hb1.cell (p := ⟨w.heap.size, i, none⟩) (by simp)
      go_wp2_with fail
      go_ret
      exact ⟨ret_int (by rw [HR.out]; simp [h2]), hc1⟩
    by_cases h3 : kind = 1 ∨ kind = 2
    · have hk : (kind == 1) = true ∨ (kind == 1) = false ∧ (kind == 2) = true := by
        rcases h3 with h3 | h3 <;> rw [h3] <;> simp
      rcases hk with hk | ⟨hk, hk2⟩
      all_goals cases h
      all_goals
        go_enter Tryz.func80, Tryz.ntmps80
        go_wp2_with fail
        refine (HC.out _).mono ?_
        rintro e w1 ⟨rfl, hb1⟩
        have hc1 := hbx.trans (hb1.mono hbx.size)
        have hl1 := fun i => hb1.cell (p := ⟨w.heap.size, i, none⟩) (by simp)
        go_wp2_with fail
        refine (HN.out _).mono ?_
        rintro e w2 ⟨rfl, n2, rfl⟩
        go_wp2_with fail
      all_goals first | (go_ret; exact ⟨ret_int (by rw [HR.out]; rw [if_neg (fun h => h.elim (fun h => Bool.noConfusion h) (fun h => by omega))]; simp [h3]), (hc1.trans (⟨rfl, rfl, rfl, Nat.le_refl _, fun _ _ => rfl⟩ : Below w.heap.size w1 (w1.drewN n2)))⟩) | skip
      all_goals cases sh
      all_goals
        refine (HS.out _).mono ?_
        rintro e w3 ⟨rfl, hb3⟩
        have hc3 := (hc1.trans (⟨rfl, rfl, rfl, Nat.le_refl _, fun _ _ => rfl⟩ : Below w.heap.size w1 (w1.drewN n2))).trans (hb3.mono (hc1.trans (⟨rfl, rfl, rfl, Nat.le_refl _, fun _ _ => rfl⟩ : Below w.heap.size w1 (w1.drewN n2))).size)
        go_wp2_with fail
        go_ret
        exact ⟨ret_int (by rw [HR.out]; rw [if_neg (fun h => h.elim (fun h => Bool.noConfusion h) (fun h => by omega))]; simp [h3]), hc3⟩
    · have hk : (kind == 1) = false := by rw [beq_eq_false_iff_ne]; exact fun h => h3 (Or.inl h)
      have hk2 : (kind == 2) = false := by rw [beq_eq_false_iff_ne]; exact fun h => h3 (Or.inr h)
      go_enter Tryz.func80, Tryz.ntmps80
      go_wp2_with fail
      refine (HC.out _).mono ?_
      rintro e w1 ⟨rfl, hb1⟩
      have hc1 := hbx.trans (hb1.mono hbx.size)
      have hl1 := fun i => hb1.cell (p := ⟨w.heap.size, i, none⟩) (by simp)
      go_wp2_with fail
      cases sh
      all_goals
        refine (HS.out _).mono ?_
        rintro e w3 ⟨rfl, hb3⟩
        have hc3 := hc1.trans (hb3.mono hc1.size)
        go_wp2_with fail
        go_ret
        exact ⟨ret_int (by rw [HR.out]; rw [if_neg (fun h => h.elim (fun h => Bool.noConfusion h) (fun h => by omega))]; simp [h3]), hc3⟩

end Go.Proofs.YtgglheelhbfgiaaGreatDoor

namespace Go.Proofs.YtgglheelhbfgiaaGreatDoor
open Go Go.RowKit

theorem cell_same {W W' : World} {b : Nat} (e : W'.heap[b]? = W.heap[b]?) (i : Nat) : W'.cell? ⟨b, i, none⟩ = W.cell? ⟨b, i, none⟩ := by simp [World.cell?, e]
theorem frozen_same {W W' : World} {b : Nat} (e : W'.heap[b]? = W.heap[b]?) (i : Nat) : W'.frozen? ⟨b, i, none⟩ = W.frozen? ⟨b, i, none⟩ := by simp [World.frozen?, e]
theorem heap_other (W : World) {b k i : Nat} (v : Value) (h : k ≠ b) : (W.setCell ⟨b, i, none⟩ v).heap[k]? = W.heap[k]? := Below.heap_setCell W ⟨b, i, none⟩ v k h

/-- Block b's first cells. -/
def VarAt (W : World) (b : Nat) (cs : List Value) : Prop := b < W.heap.size ∧ (∀ i, W.frozen? ⟨b, i, none⟩ = false) ∧ ∀ i v, cs[i]? = some v → W.cell? ⟨b, i, none⟩ = some v
theorem VarAt.same {W W' : World} {b : Nat} {cs : List Value} (h : VarAt W b cs) (e : W'.heap[b]? = W.heap[b]?) (hs : W.heap.size ≤ W'.heap.size) : VarAt W' b cs :=
  ⟨Nat.lt_of_lt_of_le h.1 hs, fun i => (frozen_same e i).trans (h.2.1 i), fun i v hv => (cell_same e i).trans (h.2.2 i v hv)⟩
theorem VarAt.grown {W W' : World} {b : Nat} {cs : List Value} {row : Option Nat} (h : VarAt W b cs) (hg : W.grownBy W' row) (hne : some b ≠ row) : VarAt W' b cs :=
  h.same (hg.block b h.1 hne) hg.size
theorem VarAt.keeps {W W' : World} {b B : Nat} {cs : List Value} (h : VarAt W b cs) (hb : Below B W W') (hlt : b < B) : VarAt W' b cs :=
  h.same (hb.block b hlt) hb.size
theorem VarAt.set {W : World} {b : Nat} {cs : List Value} (h : VarAt W b cs) (i : Nat) (v : Value) (hi : i < cs.length) : VarAt (W.setCell ⟨b, i, none⟩ v) b (cs.set i v) := by
  refine ⟨by simpa using h.1, fun j => by simpa using h.2.1 j, fun j u hj => ?_⟩
  by_cases e : j = i
  · subst e
    rw [List.getElem?_set_self hi] at hj
    cases hj
    exact World.cell?_setCell_same _ _ _ (h.2.2 j _ (List.getElem?_eq_getElem hi))
  · rw [List.getElem?_set_ne (Ne.symm e)] at hj
    rw [World.cell?_setCell_other _ _ _ _ (by intro h; injection h with _ h2; exact e h2.symm)]
    exact h.2.2 j u hj
theorem VarAt.other {W : World} {b k i : Nat} {cs : List Value} (h : VarAt W b cs) (v : Value) (hne : b ≠ k) : VarAt (W.setCell ⟨k, i, none⟩ v) b cs :=
  h.same (heap_other W v hne) (by simp)
theorem VarAt.new (W : World) (cs : Array Value) (T : TypeId) : VarAt (W.alloc (.cells cs T)) W.heap.size cs.toList := by
  refine ⟨by simp, fun i => by simp, fun i v h => ?_⟩
  rw [show (W.alloc (.cells cs T)).cell? ⟨W.heap.size, i, none⟩ = cs[i]? by simp]
  simpa using h
theorem VarAt.drew {W : World} {b : Nat} {cs : List Value} (h : VarAt W b cs) (n : Nat) : VarAt (W.drewN n) b cs := h
theorem belowDrew {B : Nat} {a w : World} (h : Below B a w) (n : Nat) : Below B a (w.drewN n) := h.trans ⟨rfl, rfl, rfl, Nat.le_refl _, fun _ _ => rfl⟩
end Go.Proofs.YtgglheelhbfgiaaGreatDoor

