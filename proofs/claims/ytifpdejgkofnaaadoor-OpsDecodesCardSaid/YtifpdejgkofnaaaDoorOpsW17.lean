import Derived.Test.YtifpdejgkofnaaaDoorOpsW14
namespace Go.Proofs.YtifpdejgkofnaaaDoor
open Go Go.RowKit Go.Lib

set_option maxRecDepth 100000 in
set_option maxHeartbeats 6400000 in
theorem law_opsDecodes (d : ByteArray) (w : World) (hd : d.size ≤ 140737488351232) : Calls Tryd.prog 4 #[.string d] w fun e w' => e = .returned (.bool true) ∧ Below w.heap.size w w' := by
  have HA := Lib.hid awake06_any
  by_cases hbig : 10000 < d.size
  · go_enter Tryd.func4, Tryd.ntmps4
    go_wp2_with fail
    refine (HA.out _).mono ?_
    rintro e w2 ⟨rfl, hb2⟩
    go_wp2_with fail
    go_ret
    exact ⟨rfl, hb2⟩
  · have HD := Lib.hid fun W => decode_any d W (by omega)
    have HQ := Lib.hid fun W => rdecode_any d W (by omega)
    generalize decO d.data.toList = p at *
    obtain ⟨y, er⟩ := p
    dsimp only at HD HQ
    have heq := eqlOpr y y
    rw [decide_eq_true rfl] at heq
    go_enter Tryd.func4, Tryd.ntmps4
    go_wp2_with fail
    refine (HD.out _).mono ?_
    rintro e w1 ⟨rfl, hb1⟩
    have hY := box_VarAt w1 y
    have hB1 := hb1.alloc hb1.size (.cells #[.int .i64 y.cnt, .int .i64 y.who, .int .i64 y.seq, .int .i64 y.kind, .int .i64 y.nc, .int .i64 y.nw, .bool y.dir, .int .i64 y.pc, .int .i64 y.pw, .string y.name, .string y.man] 25)
    have hl1 : w1.heap.size < (w1.alloc (.cells #[.int .i64 y.cnt, .int .i64 y.who, .int .i64 y.seq, .int .i64 y.kind, .int .i64 y.nc, .int .i64 y.nw, .bool y.dir, .int .i64 y.pc, .int .i64 y.pw, .string y.name, .string y.man] 25)).heap.size := by simp
    go_wp2_with fail
    refine (HQ.out _).mono ?_
    rintro e w2 ⟨rfl, hb2⟩
    have hY2 := hY.keeps hb2 hY.1
    have hB2 := hB1.trans (hb2.mono hB1.size)
    have hY3 := hY2.keeps ((Below.refl _ _).alloc (Nat.le_refl _) (.cells #[.int .i64 y.cnt, .int .i64 y.who, .int .i64 y.seq, .int .i64 y.kind, .int .i64 y.nc, .int .i64 y.nw, .bool y.dir, .int .i64 y.pc, .int .i64 y.pw, .string y.name, .string y.man] 25)) hY2.1
    have hB3 := hB2.alloc hB2.size (.cells #[.int .i64 y.cnt, .int .i64 y.who, .int .i64 y.seq, .int .i64 y.kind, .int .i64 y.nc, .int .i64 y.nw, .bool y.dir, .int .i64 y.pc, .int .i64 y.pw, .string y.name, .string y.man] 25)
    have hlt := hY2.1
    have x0 := hY2.2.2 0 _ rfl
    have x1 := hY2.2.2 1 _ rfl
    have x2 := hY2.2.2 2 _ rfl
    have x3 := hY2.2.2 3 _ rfl
    have x4 := hY2.2.2 4 _ rfl
    have x5 := hY2.2.2 5 _ rfl
    have x6 := hY2.2.2 6 _ rfl
    have x7 := hY2.2.2 7 _ rfl
    have x8 := hY2.2.2 8 _ rfl
    have x9 := hY2.2.2 9 _ rfl
    have x10 := hY2.2.2 10 _ rfl
    have y0 := hY3.2.2 0 _ rfl
    have y1 := hY3.2.2 1 _ rfl
    have y2 := hY3.2.2 2 _ rfl
    have y3 := hY3.2.2 3 _ rfl
    have y4 := hY3.2.2 4 _ rfl
    have y5 := hY3.2.2 5 _ rfl
    have y6 := hY3.2.2 6 _ rfl
    have y7 := hY3.2.2 7 _ rfl
    have y8 := hY3.2.2 8 _ rfl
    have y9 := hY3.2.2 9 _ rfl
    have y10 := hY3.2.2 10 _ rfl
    go_wp2_with fail
    refine (HA.out _).mono ?_
    rintro e w4 ⟨rfl, hb4⟩
    go_wp2_with fail
    go_ret
    exact ⟨rfl, hB3.trans (hb4.mono hB3.size)⟩
end Go.Proofs.YtifpdejgkofnaaaDoor
