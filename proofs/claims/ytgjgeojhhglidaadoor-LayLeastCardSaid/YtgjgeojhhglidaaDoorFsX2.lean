/-
  Entries that are compared; the reference's Same. A nil file system; the chapter's examples.
-/
import Derived.Test.YtgjgeojhhglidaaDoorFsW
import Derived.Test.YtgjgeojhhglidaaDoorSame
import Derived.Test.YtgjgeojhhglidaaDoorAppends
namespace Go.Proofs.YtgjgeojhhglidaaDoor
open Go Go.RowKit Go.Lib

theorem Ent.ext' {x y : Ent} (h1 : x.path = y.path) (h2 : x.id = y.id) (h3 : x.dir = y.dir) (h4 : x.data = y.data) : x = y := by
  cases x; cases y; simp_all
instance : DecidableEq Ent := fun x y => decidable_of_iff (x.path = y.path ∧ x.id = y.id ∧ x.dir = y.dir ∧ x.data = y.data) ⟨fun h => Ent.ext' h.1 h.2.1 h.2.2.1 h.2.2.2, fun h => by rw [h]; exact ⟨rfl, rfl, rfl, rfl⟩⟩

set_option maxRecDepth 100000 in
theorem neqEnt (x y : Ent) (w : World) : (binOp .neq 38 (.agg #[.string x.path, .int .i64 x.id, .bool x.dir, .string x.data]) (.agg #[.string y.path, .int .i64 y.id, .bool y.dir, .string y.data])).run Tryd.prog w = .ok (.bool (!decide (x = y))) w := by
  rw [run_neq_struct]
  have e : (Op.equalIn 10000 38 (.agg #[.string x.path, .int .i64 x.id, .bool x.dir, .string x.data]) (.agg #[.string y.path, .int .i64 y.id, .bool y.dir, .string y.data])).run Tryd.prog w = .ok (decide (x = y)) w := by
    simp [go_sem, Tryd.underlying38]
    by_cases h : x = y
    · subst h; simp
    · simp only [h, decide_false]
      try simp only [toList_inj]
      repeat' split
      all_goals first | rfl | exact absurd (Ent.ext' (by assumption) (by assumption) (by assumption) (by assumption)) h
  rw [e]
  rfl
theorem eqlEnt (x y : Ent) (w : World) : (binOp .eql 38 (.agg #[.string x.path, .int .i64 x.id, .bool x.dir, .string x.data]) (.agg #[.string y.path, .int .i64 y.id, .bool y.dir, .string y.data])).run Tryd.prog w = .ok (.bool (decide (x = y))) w := by
  rw [run_eql_struct]
  have e : (Op.equalIn 10000 38 (.agg #[.string x.path, .int .i64 x.id, .bool x.dir, .string x.data]) (.agg #[.string y.path, .int .i64 y.id, .bool y.dir, .string y.data])).run Tryd.prog w = .ok (decide (x = y)) w := by
    simp [go_sem, Tryd.underlying38]
    by_cases h : x = y
    · subst h; simp
    · simp only [h, decide_false]
      try simp only [toList_inj]
      repeat' split
      all_goals first | rfl | exact absurd (Ent.ext' (by assumption) (by assumption) (by assumption) (by assumption)) h
  rw [e]
  rfl

set_option maxRecDepth 100000 in
set_option maxHeartbeats 1600000 in
theorem esame_any (a b : Option Addr) (cap cap' : Nat) (xs ys : List Ent) (w : World) (hl : xs.length ≤ 140737488351232) (ha : RowsAt entLay w a xs) (hb : RowsAt entLay w b ys) :
    Calls Tryd.prog 23 #[.slice a xs.length cap, .slice b ys.length cap'] w fun e w' => e = .returned (.bool (decide (xs = ys))) ∧ ∃ n, w' = w.drewN n := by
  have HA := Lib.hid ha
  have HB := Lib.hid hb
  clear ha hb
  by_cases hlen : xs.length = ys.length
  · have hq : ((xs.length : Int) != (ys.length : Int)) = false := by rw [hlen]; simp
    have Hlen := Lib.hid hlen
    clear hlen
    go_enter Tryd.func23, Tryd.ntmps23
    go_wp2
    clear hq
    go_loopw [5] (fun i wr => ∃ k : Nat, k ≤ xs.length ∧ i = .int .i64 k ∧ Hid (∀ j, j < k → xs[j]? = ys[j]?) ∧ ∃ n, wr = w.drewN n) (fun i _ => xs.length - (RowKit.intOf i).toNat)
    case atStart => exact ⟨0, Nat.zero_le _, rfl, fun j hj => absurd hj (Nat.not_lt_zero _), Drawn.refl _⟩
    case round =>
      obtain ⟨k, hk, rfl, Hk, n, rfl⟩ := hrel
      by_cases hlt : k < xs.length
      · have hlt2 : k < ys.length := by have := Hlen.out; omega
        obtain ⟨x, hx⟩ := at_some hlt
        obtain ⟨y, hy⟩ := at_some hlt2
        obtain ⟨b1, o1, rfl, hb1, c0, c1, c2, c3⟩ := ent_at HA.out hx
        obtain ⟨b2, o2, rfl, hb2, d0, d1, d2, d3⟩ := ent_at HB.out hy
        have Hx := Lib.hid hx
        have Hy := Lib.hid hy
        clear hx hy
        have heq := neqEnt x y
        by_cases h1 : x = y
        · have e1 : (!decide (x = y)) = false := by rw [h1]; simp
          rw [e1] at heq
          have Hn := Lib.hid h1
          clear h1 e1
          go_wp2
          go_quiet (fail)
          go_wp2
          go_roundw
          case rel =>
            refine ⟨k + 1, by omega, by go_num, fun j hj => ?_, n + nq, by simp⟩
            by_cases e : j = k
            · subst e; rw [Hx.out, Hy.out, Hn.out]
            · exact Hk.out j (by omega)
          case measure => simp [RowKit.intOf]; omega
        · have e1 : (!decide (x = y)) = true := by simp [h1]
          rw [e1] at heq
          have Hr := Lib.hid (same_at Hx.out Hy.out h1)
          clear h1 e1
          go_wp2
          go_quiet (fail)
          go_wp2
          go_ret
          exact ⟨ret_bool Hr.out.symm, n + nq, by simp⟩
      · have Hr := Lib.hid (same_ok Hlen.out (fun j hj => Hk.out j (by omega)))
        go_wp2
        go_ret
        exact ⟨ret_bool Hr.out.symm, _, rfl⟩
  · have Hr := Lib.hid (same_len hlen)
    have hq : ((xs.length : Int) != (ys.length : Int)) = true := by rw [bne_iff_ne]; omega
    clear hlen
    go_enter Tryd.func23, Tryd.ntmps23
    go_wp2
    go_ret
    exact ⟨ret_bool Hr.out.symm, Drawn.refl _⟩
end Go.Proofs.YtgjgeojhhglidaaDoor

namespace Go.Proofs.YtgjgeojhhglidaaDoor
open Go Go.RowKit Go.Lib

set_option maxRecDepth 100000 in
theorem fmkdir_nil (p : ByteArray) (w : World) : Calls Tryd.prog 27 #[.pointer none, .string p] w fun e w' => e = .returned (.int .i64 2) ∧ w' = w := by
  go_enter Tryd.func27, Tryd.ntmps27
  go_wp2_with fail
  go_ret
  exact ⟨rfl, rfl⟩
set_option maxRecDepth 100000 in
theorem fwrite_nil (p d : ByteArray) (w : World) : Calls Tryd.prog 28 #[.pointer none, .string p, .string d] w fun e w' => e = .returned (.int .i64 2) ∧ w' = w := by
  go_enter Tryd.func28, Tryd.ntmps28
  go_wp2_with fail
  go_ret
  exact ⟨rfl, rfl⟩
set_option maxRecDepth 100000 in
set_option maxHeartbeats 1600000 in
theorem frename_nil (a b : ByteArray) (w : World) : Calls Tryd.prog 26 #[.pointer none, .string a, .string b] w fun e w' => e = .returned (.int .i64 2) ∧ Below w.heap.size w w' := by
  have HG := Lib.hid (fget_nil a w)
  rw [show noEnt.val = .agg #[.string ⟨#[]⟩, .int .i64 0, .bool false, .string ⟨#[]⟩] from rfl] at HG
  go_enter Tryd.func26, Tryd.ntmps26
  go_wp2_with fail
  refine HG.out.mono ?_
  rintro e w1 ⟨rfl, hb1⟩
  have hbz := hb1.alloc hb1.size (.cells #[.string ⟨#[]⟩, .int .i64 0, .bool false, .string ⟨#[]⟩] 38)
  go_wp2_with fail
  go_ret
  exact ⟨rfl, hbz⟩
set_option maxRecDepth 100000 in
set_option maxHeartbeats 1600000 in
theorem fremove_nil (a : ByteArray) (w : World) : Calls Tryd.prog 29 #[.pointer none, .string a] w fun e w' => e = .returned (.int .i64 2) ∧ Below w.heap.size w w' := by
  have HG := Lib.hid (fget_nil a w)
  rw [show noEnt.val = .agg #[.string ⟨#[]⟩, .int .i64 0, .bool false, .string ⟨#[]⟩] from rfl] at HG
  go_enter Tryd.func29, Tryd.ntmps29
  go_wp2_with fail
  refine HG.out.mono ?_
  rintro e w1 ⟨rfl, hb1⟩
  have hbz := hb1.alloc hb1.size (.cells #[.string ⟨#[]⟩, .int .i64 0, .bool false, .string ⟨#[]⟩] 38)
  go_wp2_with fail
  go_ret
  exact ⟨rfl, hbz⟩
theorem Fs.ext' {x y : Fs} (h1 : x.n = y.n) (h2 : x.es = y.es) : x = y := by
  cases x; cases y; simp_all
instance : DecidableEq Fs := fun x y => decidable_of_iff (x.n = y.n ∧ x.es = y.es) ⟨fun h => Fs.ext' h.1 h.2, fun h => by rw [h]; exact ⟨rfl, rfl⟩⟩
def exF1 : Fs := ⟨1, [⟨⟨#[100]⟩, 1, true, ⟨#[]⟩⟩]⟩
def exF2 : Fs := ⟨2, [⟨⟨#[100]⟩, 1, true, ⟨#[]⟩⟩, ⟨⟨#[100, 47, 97]⟩, 2, false, ⟨#[120]⟩⟩]⟩
def exF3 : Fs := ⟨2, [⟨⟨#[101]⟩, 1, true, ⟨#[]⟩⟩, ⟨⟨#[101, 47, 97]⟩, 2, false, ⟨#[120]⟩⟩]⟩
theorem ex_mkdir : mkdirF ⟨0, []⟩ ⟨#[100]⟩ = (exF1, 0) := by decide +kernel
theorem ex_write : writeF exF1 ⟨#[100, 47, 97]⟩ ⟨#[120]⟩ = (exF2, 0) := by decide +kernel
theorem ex_ren : renameF exF2 ⟨#[100]⟩ ⟨#[101]⟩ = (exF3, 0) := by decide +kernel
theorem ex_ren2 : renameF exF3 ⟨#[101]⟩ ⟨#[101, 47, 102]⟩ = (exF3, 44) := by decide +kernel
theorem ex_ok1 : FsOK exF1 := by
  have := ok_mkdir ok_new ⟨#[100]⟩
  rw [ex_mkdir] at this
  exact this
theorem ex_ok2 : FsOK exF2 := by
  have := ok_write ex_ok1 ⟨#[100, 47, 97]⟩ ⟨#[120]⟩
  rw [ex_write] at this
  exact this
theorem ex_ok3 : FsOK exF3 := by
  have := ok_rename ex_ok2 ⟨#[100]⟩ ⟨#[101]⟩
  rw [ex_ren] at this
  exact this
set_option maxRecDepth 100000 in
set_option maxHeartbeats 3200000 in
/-- **The chapter's examples.** -/
theorem awake19_any (w : World) (hm : MaxAt w) : Calls Tryd.prog 15 #[] w fun e w' => e = .returned (.bool true) ∧ Below w.heap.size w w' := by
  have HN := Lib.hid (fnew_any w)
  go_enter Tryd.func15, Tryd.ntmps15
  go_wp2_with fail
  refine HN.out.mono ?_
  rintro e w1 ⟨rfl, hF1, hb1, hs1⟩
  obtain ⟨fb, hfb⟩ : ∃ fb, fb = w.heap.size + 1 := ⟨_, rfl⟩
  obtain ⟨mb, hmb⟩ : ∃ mb, mb = w.heap.size := ⟨_, rfl⟩
  rw [← hfb] at hF1 ⊢
  rw [← hmb] at hF1
  have hfw : w.heap.size ≤ fb := by omega
  have hmw : w.heap.size ≤ mb := by omega
  clear hfb hmb hs1
  have H2 := fmkdir_any fb mb ⟨0, []⟩ ⟨#[100]⟩ w1 hF1 (by decide) (by decide) (by decide) (hm.keeps hb1)
  rw [ex_mkdir] at H2
  dsimp only at H2
  replace H2 := Lib.hid H2
  clear hF1
  go_wp2_with fail
  refine H2.out.mono ?_
  rintro e w2 ⟨rfl, hF2, ht2⟩
  have hb2 := hb1.trans (ht2.below hb1.size (fun j hj e => by rcases e with rfl | rfl <;> omega))
  have H3 := fwrite_any fb mb exF1 ⟨#[100, 47, 97]⟩ ⟨#[120]⟩ w2 hF2 (by decide) (by decide) (by decide) (hm.keeps hb2)
  rw [ex_write] at H3
  dsimp only at H3
  replace H3 := Lib.hid H3
  clear hF2 ht2 hb1
  go_wp2_with fail
  refine H3.out.mono ?_
  rintro e w3 ⟨rfl, hF3, ht3⟩
  have hb3 := hb2.trans (ht3.below hb2.size (fun j hj e => by rcases e with rfl | rfl <;> omega))
  have H4 := frename_any fb mb exF2 ⟨#[100]⟩ ⟨#[101]⟩ w3 hF3 ex_ok2 (by decide) (by decide) (hm.keeps hb3)
  rw [ex_ren] at H4
  dsimp only at H4
  replace H4 := Lib.hid H4
  clear hF3 ht3 hb2
  go_wp2_with fail
  refine H4.out.mono ?_
  rintro e w4 ⟨rfl, mc, hF4, hmc, ht4⟩
  have hb4 := hb3.trans (ht4.below hb3.size (fun j hj e => by rcases e with rfl | rfl <;> omega))
  have hcw : w.heap.size ≤ mc := by
    rcases hmc with rfl | h1
    · exact hmw
    · have := hb3.size
      omega
  have HL := Lib.hid (flist_any fb mc exF3 w4 hF4 ex_ok3.rise (by decide) (by decide +kernel))
  clear hb3 ht4
  go_wp2_with fail
  refine HL.out.mono ?_
  rintro e w5 ⟨v, rfl, hov, hb5⟩
  obtain ⟨av, cv, rfl, hrow, hcv⟩ := hov.read
  have hb5w := hb4.trans (hb5.mono hb4.size)
  have hl := OwnRows.lit w5 entLay w5.heap.size w5.heap.size 38 #[.string ⟨#[101]⟩, .int .i64 1, .bool true, .string ⟨#[]⟩, .string ⟨#[101, 47, 97]⟩, .int .i64 2, .bool false, .string ⟨#[120]⟩] 2 exF3.es rfl (Nat.le_refl _) (by decide) rfl rfl
  obtain ⟨al, cl, hal, hrl, _⟩ := hl.read
  cases hal
  have hb6 := (Below.refl w5.heap.size w5).alloc (Nat.le_refl _) (.cells #[.string ⟨#[101]⟩, .int .i64 1, .bool true, .string ⟨#[]⟩, .string ⟨#[101, 47, 97]⟩, .int .i64 2, .bool false, .string ⟨#[120]⟩] 38)
  have hb6w := hb5w.trans (hb6.mono hb5w.size)
  have HS := Lib.hid (esame_any av (some ⟨w5.heap.size, 0, none⟩) cv 2 exF3.es exF3.es _ (by decide) (hrow.keeps hb6) hrl)
  rw [show decide (exF3.es = exF3.es) = true from decide_eq_true rfl] at HS
  have hF5 := (hF4.below hb5).below hb6
  clear hov hrow hl hrl
  go_wp2_with fail
  refine HS.out.mono ?_
  rintro e w7 ⟨rfl, n7, rfl⟩
  generalize w5.alloc _ = W6 at *
  have hF7 : FAt (W6.drewN n7) fb mc exF3 := ⟨hF5.1, hF5.2.same rfl⟩
  have hb7 := belowDrew hb6w n7
  have H8 := frename_any fb mc exF3 ⟨#[101]⟩ ⟨#[101, 47, 102]⟩ _ hF7 ex_ok3 (by decide) (by decide) (hm.keeps hb7)
  rw [ex_ren2] at H8
  dsimp only at H8
  replace H8 := Lib.hid H8
  go_wp2_with fail
  refine H8.out.mono ?_
  rintro e w8 ⟨rfl, mc', hF8, _, ht8⟩
  have hb8 := hb7.trans (ht8.below hb7.size (fun j hj e => by rcases e with rfl | rfl <;> omega))
  go_wp2_with fail
  go_ret
  exact ⟨rfl, hb8⟩
end Go.Proofs.YtgjgeojhhglidaaDoor

