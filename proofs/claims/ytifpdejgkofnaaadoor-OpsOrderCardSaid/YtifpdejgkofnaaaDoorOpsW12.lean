import Derived.Test.YtifpdejgkofnaaaDoorOpsW11
namespace Go.Proofs.YtifpdejgkofnaaaDoor
open Go Go.RowKit Go.Lib

def memB (l : List Opr) (x : Opr) : Bool := l.any fun y => decide (x = y)
def foreB (x y : Opr) : Bool := lessC x.cnt x.who y.cnt y.who
def atO (l : List Opr) (x : Opr) : Nat := l.findIdx (foreB x)
def foundO (l : List Opr) (x : Opr) : Int := if atO l x < l.length then (atO l x : Int) else -1

set_option maxRecDepth 100000 in
set_option maxHeartbeats 6400000 in
theorem opAt_any (a : Option Addr) (cap : Nat) (l : List Opr) (x : Opr) (w : World) (hl : l.length ≤ 140737488351232) (ha : RowsAt oprLay w a l) :
    Calls Tryd.prog 63 #[.slice a l.length cap, .agg #[.int .i64 x.cnt, .int .i64 x.who, .int .i64 x.seq, .int .i64 x.kind, .int .i64 x.nc, .int .i64 x.nw, .bool x.dir, .int .i64 x.pc, .int .i64 x.pw, .string x.name, .string x.man]] w fun e w' => ∃ n : Int, e = .returned (.int .i64 n) ∧ decide (0 ≤ n) = memB l x ∧ Below w.heap.size w w' := by
  obtain ⟨WX, hWX⟩ : ∃ WX, WX = w.alloc (.cells #[.int .i64 x.cnt, .int .i64 x.who, .int .i64 x.seq, .int .i64 x.kind, .int .i64 x.nc, .int .i64 x.nw, .bool x.dir, .int .i64 x.pc, .int .i64 x.pw, .string x.name, .string x.man] 25) := ⟨_, rfl⟩
  have hbx : Below w.heap.size w WX := by rw [hWX]; exact (Below.refl _ _).alloc (Nat.le_refl _) _
  have hX : VarAt WX w.heap.size x.cells := by rw [hWX]; exact box_VarAt w x
  have HA := Lib.hid (ha.keeps hbx)
  have HM := Lib.hid (show memB l x = l.any fun y => decide (x = y) from rfl)
  generalize memB l x = mb at *
  clear ha
  have x0 := hX.2.2 0 _ rfl
  have x1 := hX.2.2 1 _ rfl
  have x2 := hX.2.2 2 _ rfl
  have x3 := hX.2.2 3 _ rfl
  have x4 := hX.2.2 4 _ rfl
  have x5 := hX.2.2 5 _ rfl
  have x6 := hX.2.2 6 _ rfl
  have x7 := hX.2.2 7 _ rfl
  have x8 := hX.2.2 8 _ rfl
  have x9 := hX.2.2 9 _ rfl
  have x10 := hX.2.2 10 _ rfl
  go_enter Tryd.func63, Tryd.ntmps63
  go_wp2_with fail
  rw [← hWX]
  clear hWX
  go_loopw [5, 8] (fun _ i wr => ∃ k : Nat, k ≤ l.length ∧ i = .int .i64 k ∧ Hid (∀ j y, j < k → l[j]? = some y → x ≠ y) ∧ ∃ n, wr = WX.drewN n) (fun _ i _ => l.length - (RowKit.intOf i).toNat)
  case atStart => exact ⟨0, Nat.zero_le _, rfl, fun j _ hj => absurd hj (Nat.not_lt_zero _), Drawn.refl _⟩
  case round =>
    obtain ⟨k, hk, rfl, Hk, n, rfl⟩ := hrel
    by_cases hlt : k < l.length
    · obtain ⟨y, hy⟩ := at_some hlt
      obtain ⟨b, off, rfl, hbl, c0, c1, c2, c3, c4, c5, c6, c7, c8, c9, c10⟩ := opr_at HA.out hy
      have Hy := Lib.hid hy
      clear hy
      have hk1 : (0 : Int) ≤ k := by omega
      have hk2 : (k : Int) < l.length := by omega
      have heq := eqlOpr x y
      by_cases h1 : x = y
      · have e1 : decide (x = y) = true := by rw [h1]; simp
        rw [e1] at heq
        have Hr := Lib.hid (any_hit (p := fun y => decide (x = y)) Hy.out e1)
        clear h1 e1
        go_wp2_with fail
        go_quiet (fail)
        go_wp2_with fail
        go_ret
        exact ⟨_, rfl, by rw [HM.out, Hr.out]; simp, hbx.trans ⟨rfl, rfl, rfl, Nat.le_refl _, fun _ _ => rfl⟩⟩
      · have e1 : decide (x = y) = false := by simp [h1]
        rw [e1] at heq
        have Hn := Lib.hid h1
        clear h1 e1
        go_wp2_with fail
        go_quiet (fail)
        go_wp2_with fail
        go_roundw
        case rel =>
          refine ⟨k + 1, by omega, by go_num, fun j z hj hz => ?_, n + nq, by simp⟩
          by_cases e : j = k
          · subst e
            rw [Hy.out] at hz
            cases hz
            exact Hn.out
          · exact Hk.out j z (by omega) hz
        case measure => simp [RowKit.intOf]; omega
    · have Hr := Lib.hid (any_none (l := l) (p := fun y => decide (x = y)) (fun j y hj hy => by have := Hk.out j y (by omega) hy; simp [this]))
      go_wp2_with fail
      go_ret
      exact ⟨_, rfl, by rw [HM.out, Hr.out]; simp, hbx.trans ⟨rfl, rfl, rfl, Nat.le_refl _, fun _ _ => rfl⟩⟩

set_option maxRecDepth 100000 in
theorem has_any (a : Option Addr) (cap : Nat) (l : List Opr) (x : Opr) (w : World) (hl : l.length ≤ 140737488351232) (ha : RowsAt oprLay w a l) :
    Calls Tryd.prog 44 #[.slice a l.length cap, .agg #[.int .i64 x.cnt, .int .i64 x.who, .int .i64 x.seq, .int .i64 x.kind, .int .i64 x.nc, .int .i64 x.nw, .bool x.dir, .int .i64 x.pc, .int .i64 x.pw, .string x.name, .string x.man]] w fun e w' => e = .returned (.bool (memB l x)) ∧ Below w.heap.size w w' := by
  have hbx : Below w.heap.size w (w.alloc (.cells #[.int .i64 x.cnt, .int .i64 x.who, .int .i64 x.seq, .int .i64 x.kind, .int .i64 x.nc, .int .i64 x.nw, .bool x.dir, .int .i64 x.pc, .int .i64 x.pw, .string x.name, .string x.man] 25)) := (Below.refl _ _).alloc (Nat.le_refl _) _
  have HI := Lib.hid (opAt_any a cap l x _ hl (ha.keeps hbx))
  go_enter Tryd.func44, Tryd.ntmps44
  go_wp2_with fail
  refine HI.out.mono ?_
  rintro e w1 ⟨n, rfl, hn, hb⟩
  go_wp2_with fail
  go_ret
  exact ⟨ret_bool (by rw [← hn]), hbx.trans (hb.mono hbx.size)⟩

set_option maxRecDepth 100000 in
theorem fore_any (b : Nat) (x y : Opr) (w : World) (hX : VarAt w b x.cells) :
    Calls Tryd.prog 47 #[.agg #[.int .i64 y.cnt, .int .i64 y.who, .int .i64 y.seq, .int .i64 y.kind, .int .i64 y.nc, .int .i64 y.nw, .bool y.dir, .int .i64 y.pc, .int .i64 y.pw, .string y.name, .string y.man], .pointer (some ⟨b, 0, none⟩)] w fun e w' => e = .returned (.bool (foreB x y)) ∧ Below w.heap.size w w' := by
  have hby : Below w.heap.size w (w.alloc (.cells #[.int .i64 y.cnt, .int .i64 y.who, .int .i64 y.seq, .int .i64 y.kind, .int .i64 y.nc, .int .i64 y.nw, .bool y.dir, .int .i64 y.pc, .int .i64 y.pw, .string y.name, .string y.man] 25)) := (Below.refl _ _).alloc (Nat.le_refl _) _
  have hX2 := hX.keeps ((Below.refl _ _).alloc (Nat.le_refl _) (.cells #[.int .i64 y.cnt, .int .i64 y.who, .int .i64 y.seq, .int .i64 y.kind, .int .i64 y.nc, .int .i64 y.nw, .bool y.dir, .int .i64 y.pc, .int .i64 y.pw, .string y.name, .string y.man] 25)) hX.1
  have x0 := hX.2.2 0 _ rfl
  have x1 := hX.2.2 1 _ rfl
  have z0 := hX2.2.2 0 _ rfl
  have z1 := hX2.2.2 1 _ rfl
  have hlt := hX.1
  have HL := Lib.hid fun W => cless_any x.cnt x.who y.cnt y.who W
  have HF := Lib.hid (show foreB x y = lessC x.cnt x.who y.cnt y.who from rfl)
  go_enter Tryd.func47, Tryd.ntmps47
  go_wp2_with fail
  refine (HL.out _).mono ?_
  rintro e w1 ⟨rfl, hb⟩
  go_wp2_with fail
  go_ret
  exact ⟨ret_bool HF.out.symm, hby.trans (hb.mono hby.size)⟩

set_option maxRecDepth 100000 in
set_option maxHeartbeats 1600000 in
theorem foreAt_any (a : Option Addr) (cap b : Nat) (l : List Opr) (x : Opr) (w : World) (hl : l.length ≤ 140737488351232) (ha : RowsAt oprLay w a l) (hX : VarAt w b x.cells) :
    Calls Tryd.prog 46 #[.slice a l.length cap, .func (.func 47) #[] #[.pointer (some ⟨b, 0, none⟩)]] w fun e w' => e = .returned (.int .i64 (foundO l x)) ∧ Below w.heap.size w w' := by
  have HA := Lib.hid ha
  have HF := Lib.hid fun y W (hX : VarAt W b x.cells) => fore_any b x y W hX
  have HO := Lib.hid (show foundO l x = if l.findIdx (foreB x) < l.length then (l.findIdx (foreB x) : Int) else -1 from rfl)
  generalize foreB x = fB at *
  generalize foundO l x = at' at *
  clear ha
  go_enter Tryd.func46, Tryd.ntmps46
  go_wp2_with fail
  go_loopw [5, 8] (fun _ i wr => ∃ k : Nat, k ≤ l.length ∧ i = .int .i64 k ∧ Hid (∀ j y, j < k → l[j]? = some y → fB y = false) ∧ Below w.heap.size w wr) (fun _ i _ => l.length - (RowKit.intOf i).toNat)
  case atStart => exact ⟨0, Nat.zero_le _, rfl, fun j _ hj => absurd hj (Nat.not_lt_zero _), Below.refl _ _⟩
  case round =>
    obtain ⟨k, hk, rfl, Hk, hb⟩ := hrel
    by_cases hlt : k < l.length
    · obtain ⟨y, hy⟩ := at_some hlt
      obtain ⟨b1, off, rfl, hbl, c0, c1, c2, c3, c4, c5, c6, c7, c8, c9, c10⟩ := opr_at (HA.out.keeps hb) hy
      have Hy := Lib.hid hy
      clear hy
      have hX1 := hX.keeps hb hX.1
      have HFy := Lib.hid (HF.out y wr hX1)
      have Hv := Lib.hid (rfl : fB y = fB y)
      obtain ⟨v, hv⟩ : ∃ v, fB y = v := ⟨_, rfl⟩
      rw [hv] at HFy
      cases v with
      | true =>
        have Hr := Lib.hid (show l.findIdx fB = k from (List.findIdx_eq hlt).2 ⟨by have h1 := Hy.out; rw [List.getElem?_eq_getElem hlt] at h1; cases h1; exact hv, fun j hj => Hk.out j _ hj (List.getElem?_eq_getElem (by omega))⟩)
        clear hv Hv
        go_wp2_with fail
        refine HFy.out.mono ?_
        rintro e w1 ⟨rfl, hb1⟩
        have hb2 := hb.trans (hb1.mono hb.size)
        go_wp2_with fail
        go_ret
        exact ⟨ret_int (by rw [HO.out, Hr.out, if_pos hlt]), hb2⟩
      | false =>
        have Hn := Lib.hid hv
        clear hv Hv
        go_wp2_with fail
        refine HFy.out.mono ?_
        rintro e w1 ⟨rfl, hb1⟩
        have hb2 := hb.trans (hb1.mono hb.size)
        go_wp2_with fail
        go_roundw
        case rel =>
          refine ⟨k + 1, by omega, by go_num, fun j z hj hz => ?_, hb2⟩
          by_cases e : j = k
          · subst e
            rw [Hy.out] at hz
            cases hz
            exact Hn.out
          · exact Hk.out j z (by omega) hz
        case measure => simp [RowKit.intOf]; omega
    · have Hr := Lib.hid (show l.findIdx fB = l.length from List.findIdx_eq_length.2 (fun z hz => by
        obtain ⟨j, hj, e⟩ := List.mem_iff_getElem.1 hz
        exact Hk.out j z (by omega) (by rw [List.getElem?_eq_getElem hj, e])))
      go_wp2_with fail
      go_ret
      exact ⟨ret_int (by rw [HO.out, Hr.out, if_neg (Nat.lt_irrefl _)]), hb⟩
end Go.Proofs.YtifpdejgkofnaaaDoor
