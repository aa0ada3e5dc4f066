import Derived.Test.YtfbdbjookkogjaaDoorProjPure
import Derived.Test.YtfbdbjookkogjaaDoorSame
import Derived.Test.YtfbdbjookkogjaaDoorAppends
namespace Go.Proofs.YtfbdbjookkogjaaDoor
open Go Go.RowKit Go.Lib

theorem boolInfo : (Tryd.prog.info? 4).map (fun i => (i.zero, i.size, i.bytes)) = some (some (.bool false), 1, 1) := by kernel_rfl
theorem itmInfo : (Tryd.prog.info? 34).map (fun i => (i.zero, i.size, i.bytes)) = some (some (.agg #[.string ⟨#[]⟩, .int .i64 0, .int .i64 0, .bool false, .bool false, .string ⟨#[]⟩]), 6, 56) := by kernel_rfl


set_option maxRecDepth 100000 in
theorem neqItm (x y : Itm) (w : World) : (binOp .neq 34 (.agg #[.string x.path, .int .i64 x.cnt, .int .i64 x.who, .bool x.dir, .bool x.ghost, .string x.man]) (.agg #[.string y.path, .int .i64 y.cnt, .int .i64 y.who, .bool y.dir, .bool y.ghost, .string y.man])).run Tryd.prog w = .ok (.bool (!decide (x = y))) w := by
  rw [run_neq_struct]
  have e : (Op.equalIn 10000 34 (.agg #[.string x.path, .int .i64 x.cnt, .int .i64 x.who, .bool x.dir, .bool x.ghost, .string x.man]) (.agg #[.string y.path, .int .i64 y.cnt, .int .i64 y.who, .bool y.dir, .bool y.ghost, .string y.man])).run Tryd.prog w = .ok (decide (x = y)) w := by
    simp [go_sem, Tryd.underlying34]
    by_cases h : x = y
    · subst h; simp
    · simp only [h, decide_false]
      simp only [toList_inj]
      repeat' split
      all_goals first | rfl | exact absurd (Itm.ext' (by assumption) (by assumption) (by assumption) (by assumption) (by assumption) (by assumption)) h
  rw [e]
  rfl
theorem eqlItm (x y : Itm) (w : World) : (binOp .eql 34 (.agg #[.string x.path, .int .i64 x.cnt, .int .i64 x.who, .bool x.dir, .bool x.ghost, .string x.man]) (.agg #[.string y.path, .int .i64 y.cnt, .int .i64 y.who, .bool y.dir, .bool y.ghost, .string y.man])).run Tryd.prog w = .ok (.bool (decide (x = y))) w := by
  rw [run_eql_struct]
  have e : (Op.equalIn 10000 34 (.agg #[.string x.path, .int .i64 x.cnt, .int .i64 x.who, .bool x.dir, .bool x.ghost, .string x.man]) (.agg #[.string y.path, .int .i64 y.cnt, .int .i64 y.who, .bool y.dir, .bool y.ghost, .string y.man])).run Tryd.prog w = .ok (decide (x = y)) w := by
    simp [go_sem, Tryd.underlying34]
    by_cases h : x = y
    · subst h; simp
    · simp only [h, decide_false]
      simp only [toList_inj]
      repeat' split
      all_goals first | rfl | exact absurd (Itm.ext' (by assumption) (by assumption) (by assumption) (by assumption) (by assumption) (by assumption)) h
  rw [e]
  rfl


set_option maxRecDepth 100000 in
set_option maxHeartbeats 1600000 in
theorem items_any (a b : Option Addr) (cap cap' : Nat) (xs ys : List Itm) (w : World) (hl : xs.length ≤ 140737488351232) (ha : RowsAt itmLay w a xs) (hb : RowsAt itmLay w b ys) :
    Calls Tryd.prog 13 #[.slice a xs.length cap, .slice b ys.length cap'] w fun e w' => e = .returned (.bool (decide (xs = ys))) ∧ ∃ n, w' = w.drewN n := by
  have HA := Lib.hid ha
  have HB := Lib.hid hb
  clear ha hb
  by_cases hlen : xs.length = ys.length
  · have hq : ((xs.length : Int) != (ys.length : Int)) = false := by rw [hlen]; simp
    have Hlen := Lib.hid hlen
    clear hlen
    go_enter Tryd.func13, Tryd.ntmps13
    go_wp2
    clear hq
    go_loopw [5] (fun i wr => ∃ k : Nat, k ≤ xs.length ∧ i = .int .i64 k ∧ Hid (∀ j, j < k → xs[j]? = ys[j]?) ∧ ∃ n, wr = w.drewN n) (fun i _ => xs.length - (RowKit.intOf i).toNat)
    case atStart => exact ⟨0, Nat.zero_le _, rfl, fun j hj => absurd hj (Nat.not_lt_zero _), Drawn.refl _⟩
    case round =>
      obtain ⟨k, hk, rfl, Hk, n, rfl⟩ := hrel
      by_cases hlt : k < xs.length
      · have hlt2 : k < ys.length := by have := Hlen.out; omega
        obtain ⟨x, hx⟩ := at_some hlt
        obtain ⟨y, hy⟩ := at_some hlt2
        obtain ⟨b1, o1, rfl, hb1, c0, c1, c2, c3, c4, c5⟩ := itm_at HA.out hx
        obtain ⟨b2, o2, rfl, hb2, d0, d1, d2, d3, d4, d5⟩ := itm_at HB.out hy
        have Hx := Lib.hid hx
        have Hy := Lib.hid hy
        clear hx hy
        have heq := neqItm x y
        by_cases h1 : x = y
        · have e1 : (!decide (x = y)) = false := by rw [h1]; simp
          rw [e1] at heq
          have Hn := Lib.hid h1
          clear h1 e1
          go_wp2
          go_quiet (fail)
          go_wp2
          go_roundw
          case rel =>
            refine ⟨k + 1, by omega, by go_num, fun j hj => ?_, n + nq, by simp⟩
            by_cases e : j = k
            · subst e; rw [Hx.out, Hy.out, Hn.out]
            · exact Hk.out j (by omega)
          case measure => simp [RowKit.intOf]; omega
        · have e1 : (!decide (x = y)) = true := by simp [h1]
          rw [e1] at heq
          have Hr := Lib.hid (same_at Hx.out Hy.out h1)
          clear h1 e1
          go_wp2
          go_quiet (fail)
          go_wp2
          go_ret
          exact ⟨ret_bool Hr.out.symm, n + nq, by simp⟩
      · have Hr := Lib.hid (same_ok Hlen.out (fun j hj => Hk.out j (by omega)))
        go_wp2
        go_ret
        exact ⟨ret_bool Hr.out.symm, _, rfl⟩
  · have Hr := Lib.hid (same_len hlen)
    have hq : ((xs.length : Int) != (ys.length : Int)) = true := by rw [bne_iff_ne]; omega
    clear hlen
    go_enter Tryd.func13, Tryd.ntmps13
    go_wp2
    go_ret
    exact ⟨ret_bool Hr.out.symm, Drawn.refl _⟩

end Go.Proofs.YtfbdbjookkogjaaDoor
