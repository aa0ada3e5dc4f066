import Derived.Test.YtifpdejgkofnaaaDoorOpsW14
import Derived.Test.YtifpdejgkofnaaaDoorOpsW7
namespace Go.Proofs.YtifpdejgkofnaaaDoor
open Go Go.RowKit Go.Lib

theorem few1b_any (b : Nat) (x : Opr) (w : World) (h : VarAt w b x.cells) : Calls Tryd.prog 12 #[.slice (some ⟨b, 0, none⟩) 1 1] w fun e w' => e = .returned (.bool (!bigO x)) ∧ w' = w := by
  have := few06_any (some ⟨b, 0, none⟩) 1 [x] w (by simp) (rows_var h)
  rw [show fewO [x] = !bigO x by simp [fewO]] at this
  exact this
theorem bigO_not' {x : Opr} (h : bigO x = false) : x.name.size ≤ 100000 ∧ x.man.size ≤ 100000 := by
  simp [bigO] at h
  omega

set_option maxRecDepth 100000 in
set_option maxHeartbeats 1600000 in
theorem law_opsEncodes (x : Opr) (w : World) : Calls Tryd.prog 10 #[.agg #[.int .i64 x.cnt, .int .i64 x.who, .int .i64 x.seq, .int .i64 x.kind, .int .i64 x.nc, .int .i64 x.nw, .bool x.dir, .int .i64 x.pc, .int .i64 x.pw, .string x.name, .string x.man]] w fun e w' => e = .returned (.bool true) ∧ Below w.heap.size w w' := by
  obtain ⟨WX, hWX⟩ : ∃ WX, WX = w.alloc (.cells #[.int .i64 x.cnt, .int .i64 x.who, .int .i64 x.seq, .int .i64 x.kind, .int .i64 x.nc, .int .i64 x.nw, .bool x.dir, .int .i64 x.pc, .int .i64 x.pw, .string x.name, .string x.man] 25) := ⟨_, rfl⟩
  have hbx : Below w.heap.size w WX := by rw [hWX]; exact (Below.refl _ _).alloc (Nat.le_refl _) _
  have hX : VarAt WX w.heap.size x.cells := by rw [hWX]; exact box_VarAt w x
  have hWs : WX.heap.size = w.heap.size + 1 := by rw [hWX]; simp
  have HF := Lib.hid (few1b_any (w.heap.size + 1) x _ (by have := box_VarAt WX x; rw [hWs] at this; exact this))
  clear hWs
  have HA := Lib.hid awake06_any
  obtain ⟨W1, hW1⟩ : ∃ W1, W1 = WX.alloc (.cells #[.int .i64 x.cnt, .int .i64 x.who, .int .i64 x.seq, .int .i64 x.kind, .int .i64 x.nc, .int .i64 x.nw, .bool x.dir, .int .i64 x.pc, .int .i64 x.pw, .string x.name, .string x.man] 25) := ⟨_, rfl⟩
  have hX1 := hX.keeps ((Below.refl _ _).alloc (Nat.le_refl _) (.cells #[.int .i64 x.cnt, .int .i64 x.who, .int .i64 x.seq, .int .i64 x.kind, .int .i64 x.nc, .int .i64 x.nw, .bool x.dir, .int .i64 x.pc, .int .i64 x.pw, .string x.name, .string x.man] 25)) hX.1
  have hb1 := hbx.trans (((Below.refl WX.heap.size WX).alloc (Nat.le_refl _) (.cells #[.int .i64 x.cnt, .int .i64 x.who, .int .i64 x.seq, .int .i64 x.kind, .int .i64 x.nc, .int .i64 x.nw, .bool x.dir, .int .i64 x.pc, .int .i64 x.pw, .string x.name, .string x.man] 25)).mono hbx.size)
  have x0 := hX.2.2 0 _ rfl
  have x1 := hX.2.2 1 _ rfl
  have x2 := hX.2.2 2 _ rfl
  have x3 := hX.2.2 3 _ rfl
  have x4 := hX.2.2 4 _ rfl
  have x5 := hX.2.2 5 _ rfl
  have x6 := hX.2.2 6 _ rfl
  have x7 := hX.2.2 7 _ rfl
  have x8 := hX.2.2 8 _ rfl
  have x9 := hX.2.2 9 _ rfl
  have x10 := hX.2.2 10 _ rfl
  obtain ⟨bg, hbg⟩ : ∃ bg, bigO x = bg := ⟨_, rfl⟩
  rw [hbg] at HF
  cases bg with
  | true =>
    clear hbg
    go_enter Tryd.func10, Tryd.ntmps10
    go_wp2_with fail
    rw [← hWX]
    refine HF.out.mono ?_
    rintro e w1 ⟨rfl, rfl⟩
    rw [← hW1]
    rw [← hW1] at hb1
    clear hWX hW1 hX1
    go_wp2_with fail
    refine (HA.out _).mono ?_
    rintro e w2 ⟨rfl, hb2⟩
    go_wp2_with fail
    go_ret
    exact ⟨rfl, hb1.trans (hb2.mono hb1.size)⟩
  | false =>
    have hsz := bigO_not' hbg
    have HE := Lib.hid fun W => encode_any x W hsz.1 hsz.2
    have HQ := Lib.hid fun W => rencode_any x W hsz.1 hsz.2
    generalize rightO x = ro at *
    generalize encB x = eb at *
    clear hbg
    go_enter Tryd.func10, Tryd.ntmps10
    go_wp2_with fail
    rw [← hWX]
    refine HF.out.mono ?_
    rintro e w1 ⟨rfl, rfl⟩
    clear x0 x1 x2 x3 x4 x5 x6 x7 x8 x9 x10
    rw [← hW1]
    rw [← hW1] at hX1 hb1
    clear hWX hW1
    have x0 := hX1.2.2 0 _ rfl
    have x1 := hX1.2.2 1 _ rfl
    have x2 := hX1.2.2 2 _ rfl
    have x3 := hX1.2.2 3 _ rfl
    have x4 := hX1.2.2 4 _ rfl
    have x5 := hX1.2.2 5 _ rfl
    have x6 := hX1.2.2 6 _ rfl
    have x7 := hX1.2.2 7 _ rfl
    have x8 := hX1.2.2 8 _ rfl
    have x9 := hX1.2.2 9 _ rfl
    have x10 := hX1.2.2 10 _ rfl
    go_wp2_with fail
    refine (HE.out _).mono ?_
    rintro e w2 ⟨rfl, hb2⟩
    have hX2 := hX1.keeps hb2 hX1.1
    have hB2 := hb1.trans (hb2.mono hb1.size)
    clear x0 x1 x2 x3 x4 x5 x6 x7 x8 x9 x10
    have x0 := hX2.2.2 0 _ rfl
    have x1 := hX2.2.2 1 _ rfl
    have x2 := hX2.2.2 2 _ rfl
    have x3 := hX2.2.2 3 _ rfl
    have x4 := hX2.2.2 4 _ rfl
    have x5 := hX2.2.2 5 _ rfl
    have x6 := hX2.2.2 6 _ rfl
    have x7 := hX2.2.2 7 _ rfl
    have x8 := hX2.2.2 8 _ rfl
    have x9 := hX2.2.2 9 _ rfl
    have x10 := hX2.2.2 10 _ rfl
    go_wp2_with fail
    refine (HQ.out _).mono ?_
    rintro e w3 ⟨rfl, hb3⟩
    have hB3 := hB2.trans (hb3.mono hB2.size)
    go_wp2_with fail
    refine (HA.out _).mono ?_
    rintro e w4 ⟨rfl, hb4⟩
    go_wp2_with fail
    go_ret
    exact ⟨rfl, hB3.trans (hb4.mono hB3.size)⟩

end Go.Proofs.YtifpdejgkofnaaaDoor
