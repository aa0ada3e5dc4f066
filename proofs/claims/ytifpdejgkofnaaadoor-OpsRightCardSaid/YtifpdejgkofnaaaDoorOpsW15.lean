import Derived.Test.YtifpdejgkofnaaaDoorOpsW14
import Derived.Test.YtifpdejgkofnaaaDoorOpsW7
namespace Go.Proofs.YtifpdejgkofnaaaDoor
open Go Go.RowKit Go.Lib

theorem few1_any (b : Nat) (x : Opr) (w : World) (h : VarAt w b x.cells) : Calls Tryd.prog 12 #[.slice (some ⟨b, 0, none⟩) 1 1] w fun e w' => e = .returned (.bool (!bigO x)) ∧ w' = w := by
  have := few06_any (some ⟨b, 0, none⟩) 1 [x] w (by simp) (rows_var h)
  rw [show fewO [x] = !bigO x by simp [fewO]] at this
  exact this
theorem below_end {w WX W w' : World} (h1 : Below w.heap.size w WX) (h2 : Below WX.heap.size WX W) (h3 : Below W.heap.size W w') : Below w.heap.size w w' :=
  h1.trans ((h2.trans (h3.mono h2.size)).mono h1.size)
theorem bigO_not {x : Opr} (h : bigO x = false) : x.name.size ≤ 100000 ∧ x.man.size ≤ 100000 := by
  simp [bigO] at h
  omega

set_option maxRecDepth 100000 in
set_option maxHeartbeats 6400000 in
theorem law_opsRight (x : Opr) (w : World) : Calls Tryd.prog 3 #[.agg #[.int .i64 x.cnt, .int .i64 x.who, .int .i64 x.seq, .int .i64 x.kind, .int .i64 x.nc, .int .i64 x.nw, .bool x.dir, .int .i64 x.pc, .int .i64 x.pw, .string x.name, .string x.man]] w fun e w' => e = .returned (.bool true) ∧ Below w.heap.size w w' := by
  obtain ⟨WX, hWX⟩ : ∃ WX, WX = w.alloc (.cells #[.int .i64 x.cnt, .int .i64 x.who, .int .i64 x.seq, .int .i64 x.kind, .int .i64 x.nc, .int .i64 x.nw, .bool x.dir, .int .i64 x.pc, .int .i64 x.pw, .string x.name, .string x.man] 25) := ⟨_, rfl⟩
  have hbx : Below w.heap.size w WX := by rw [hWX]; exact (Below.refl _ _).alloc (Nat.le_refl _) _
  have hX : VarAt WX w.heap.size x.cells := by rw [hWX]; exact box_VarAt w x
  have HF := Lib.hid fun b W (h : VarAt W b x.cells) => few1_any b x W h
  have HA := Lib.hid awake06_any
  have x0 := hX.2.2 0 _ rfl
  have x1 := hX.2.2 1 _ rfl
  have x2 := hX.2.2 2 _ rfl
  have x3 := hX.2.2 3 _ rfl
  have x4 := hX.2.2 4 _ rfl
  have x5 := hX.2.2 5 _ rfl
  have x6 := hX.2.2 6 _ rfl
  have x7 := hX.2.2 7 _ rfl
  have x8 := hX.2.2 8 _ rfl
  have x9 := hX.2.2 9 _ rfl
  have x10 := hX.2.2 10 _ rfl
  have hkc : Below WX.heap.size WX WX.drew ∧ WX.drew.cell? ⟨w.heap.size, 0, none⟩ = some (.int .i64 x.cnt) ∧ WX.drew.cell? ⟨w.heap.size, 1, none⟩ = some (.int .i64 x.who) ∧ WX.drew.cell? ⟨w.heap.size, 2, none⟩ = some (.int .i64 x.seq) ∧ WX.drew.cell? ⟨w.heap.size, 3, none⟩ = some (.int .i64 x.kind) ∧ WX.drew.cell? ⟨w.heap.size, 4, none⟩ = some (.int .i64 x.nc) ∧ WX.drew.cell? ⟨w.heap.size, 5, none⟩ = some (.int .i64 x.nw) ∧ WX.drew.cell? ⟨w.heap.size, 6, none⟩ = some (.bool x.dir) ∧ WX.drew.cell? ⟨w.heap.size, 7, none⟩ = some (.int .i64 x.pc) ∧ WX.drew.cell? ⟨w.heap.size, 8, none⟩ = some (.int .i64 x.pw) ∧ WX.drew.cell? ⟨w.heap.size, 9, none⟩ = some (.string x.name) ∧ WX.drew.cell? ⟨w.heap.size, 10, none⟩ = some (.string x.man) := ⟨(Below.refl _ _).drew, x0, x1, x2, x3, x4, x5, x6, x7, x8, x9, x10⟩
  obtain ⟨bg, hbg⟩ : ∃ bg, bigO x = bg := ⟨_, rfl⟩
  rw [hbg] at HF
  cases bg with
  | true =>
    simp only [Bool.not_true] at HF
    clear hbg
    go_enter Tryd.func3, Tryd.ntmps3
    go_wp2_with fail
    rw [← hWX]
    clear hWX
    go_region_with (first | (go_at_call 12; refine (HF.out _ _ (by first | exact box_VarAt _ x | exact var_ad _ x)).mono ?_; rintro e w' ⟨rfl, rfl⟩) | (go_at_call 15; refine (HA.out _).mono ?_; rintro e w' ⟨rfl, hbl⟩))
    all_goals
      (try simp only [List.getElem_toArray, List.getElem_cons_zero, List.getElem_cons_succ])
      go_wp2_with fail
      go_ret
      exact ⟨rfl, below_end hbx (by first | exact ((Below.refl _ _).alloc (Nat.le_refl _) _).drew | exact (Below.refl _ _).drew.alloc (Nat.le_refl _) _) hbl⟩
  | false =>
    simp only [Bool.not_false] at HF
    have hsz := bigO_not hbg
    have HR := Lib.hid fun W => oright_any x W hsz.1 hsz.2
    have HQ := Lib.hid fun W => roright_any x W hsz.1 hsz.2
    generalize rightO x = ro at *
    clear hbg
    go_enter Tryd.func3, Tryd.ntmps3
    go_wp2_with fail
    rw [← hWX]
    clear hWX
    ((go_region_held3 (fun w' => Below WX.heap.size WX w' ∧ w'.cell? ⟨w.heap.size, 0, none⟩ = some (.int .i64 x.cnt) ∧ w'.cell? ⟨w.heap.size, 1, none⟩ = some (.int .i64 x.who) ∧ w'.cell? ⟨w.heap.size, 2, none⟩ = some (.int .i64 x.seq) ∧ w'.cell? ⟨w.heap.size, 3, none⟩ = some (.int .i64 x.kind) ∧ w'.cell? ⟨w.heap.size, 4, none⟩ = some (.int .i64 x.nc) ∧ w'.cell? ⟨w.heap.size, 5, none⟩ = some (.int .i64 x.nw) ∧ w'.cell? ⟨w.heap.size, 6, none⟩ = some (.bool x.dir) ∧ w'.cell? ⟨w.heap.size, 7, none⟩ = some (.int .i64 x.pc) ∧ w'.cell? ⟨w.heap.size, 8, none⟩ = some (.int .i64 x.pw) ∧ w'.cell? ⟨w.heap.size, 9, none⟩ = some (.string x.name) ∧ w'.cell? ⟨w.heap.size, 10, none⟩ = some (.string x.man))
      (first | exact hkc | (go_split_ands; first | exact keepX hX (by assumption) hbl (Below.size (by assumption)) | exact keepX hX (by assumption) ((Below.refl _ _).alloc (Nat.le_refl _) _) (Below.size (by assumption))) | go_keep)
      (first | (go_at_call 12; refine (HF.out _ _ (by first | exact box_VarAt _ x | exact var_ad _ x)).mono ?_; rintro e w' ⟨rfl, rfl⟩) | (go_at_call 15; refine (HA.out _).mono ?_; rintro e w' ⟨rfl, hbl⟩) | (go_at_call 13; refine (HR.out _).mono ?_; rintro e w' ⟨rfl, hbl⟩) | (go_at_call 14; refine (HQ.out _).mono ?_; rintro e w' ⟨rfl, hbl⟩))))
    all_goals
      rename_i hH
      obtain ⟨hbz, -⟩ := hH
      go_wp2_with fail
      go_ret
      exact ⟨rfl, hbx.trans (hbz.mono hbx.size)⟩
end Go.Proofs.YtifpdejgkofnaaaDoor
