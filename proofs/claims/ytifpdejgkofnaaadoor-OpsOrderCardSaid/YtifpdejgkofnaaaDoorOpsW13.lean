import Derived.Test.YtifpdejgkofnaaaDoorOpsW12
import Derived.Test.YtifpdejgkofnaaaDoorAppends
import Derived.Test.YtifpdejgkofnaaaDoorSliced
import Derived.Deep.RegionHeld3
import Derived.Lib.SliceRun
namespace Go.Proofs.YtifpdejgkofnaaaDoor
open Go Go.RowKit Go.Lib

theorem rows_var {W : World} {b : Nat} {x : Opr} (h : VarAt W b x.cells) : RowsAt oprLay W (some ⟨b, 0, none⟩) [x] := by
  intro j y hy
  match j, hy with
  | 0, hy =>
    cases hy
    exact ⟨b, 0, rfl, h.1, fun f v hv => by simpa using h.2.2 f v hv⟩

set_option maxRecDepth 100000 in
theorem clone_any (a : Option Addr) (cap : Nat) (l : List Opr) (w : World) (hl : l.length ≤ 10000) (hnil : a = none → cap = 0) (ha : RowsAt oprLay w a l) :
    Calls Tryd.prog 49 #[.slice a l.length cap] w fun e w' => ∃ v, e = .returned v ∧ OwnRows oprLay w' w.heap.size 25 v l ∧ Below w.heap.size w w' := by
  obtain ⟨i0, hi, hz0, hz1, hz2⟩ := info_parts oprInfo
  have Hi := Lib.hid hi
  have Hz0 := Lib.hid hz0
  have Hz1 := Lib.hid hz1
  have Hz2 := Lib.hid hz2
  clear hi hz0 hz1 hz2
  cases a with
  | none =>
    obtain rfl : l = [] := by
      cases l with
      | nil => rfl
      | cons y l =>
        obtain ⟨b, off, e, _⟩ := ha 0 y rfl
        cases e
    obtain rfl := hnil rfl
    have hq : ∀ W, (binOp .eql 27 (.slice none 0 0) (.slice none 0 0)).run Tryd.prog W = .ok (.bool true) W := fun W => Lib.run_eql_slice_nil W _ _ _ _ _ _ _ Tryd.underlying27
    go_enter Tryd.func49, Tryd.ntmps49
    go_wp2_with fail
    go_ret
    exact ⟨_, rfl, OwnRows.nil _ _ _ _, Below.refl _ _⟩
  | some ad =>
    have hb0 := (Below.refl w.heap.size w).alloc (Nat.le_refl _) (.cells #[] 25)
    have ha1 := ha.keeps hb0
    have ho := OwnRows.lit w oprLay w.heap.size w.heap.size 25 #[] 0 [] rfl (Nat.le_refl _) (Nat.zero_le _) rfl rfl
    clear ha
    have hq : ∀ W, (binOp .eql 27 (.slice (some ad) l.length cap) (.slice none 0 0)).run Tryd.prog W = .ok (.bool false) W := fun W => Lib.run_eql_slice_nil W _ _ _ _ _ _ _ Tryd.underlying27
    go_enter Tryd.func49, Tryd.ntmps49
    go_wp2_with (at_builtin; refine wpList_append_from _ rfl _ _ 27 rfl oprLay w.heap.size 25 i0 (.agg #[.int .i64 0, .int .i64 0, .int .i64 0, .int .i64 0, .int .i64 0, .int .i64 0, .bool false, .int .i64 0, .int .i64 0, .string ⟨#[]⟩, .string ⟨#[]⟩]) 104 Tryd.underlying27 Hi.out Hz0.out Hz1.out Hz2.out rfl (by decide) _ [] rfl ho (some ad) cap l.length l rfl rfl ha1 (fun h => by cases h) (by unfold maxLen; simp; omega) (by simp; omega) (by simp) ?_)
    intro v w2 ho2 hg _
    have hb2 := hb0.grown hg (by simp) (fun j ej => (ho.lt ej).1)
    clear hg ho
    go_wp2_with fail
    go_ret
    exact ⟨_, rfl, by simpa using ho2, hb2⟩

set_option maxRecDepth 100000 in
theorem insertEnd_any (v : Value) (l : List Opr) (x : Opr) (vb B : Nat) (w : World) (hl : l.length ≤ 10000) (hv : OwnRows oprLay w B 25 v l) (hBw : B ≤ w.heap.size) (hx : VarAt w vb x.cells) :
    Calls Tryd.prog 48 #[v, .int .i64 l.length, .slice (some ⟨vb, 0, none⟩) 1 1] w fun e w' => ∃ v', e = .returned v' ∧ OwnRows oprLay w' B 25 v' (l ++ [x]) ∧ Below B w w' := by
  obtain ⟨i0, hi, hz0, hz1, hz2⟩ := info_parts oprInfo
  have Hi := Lib.hid hi
  have Hz0 := Lib.hid hz0
  have Hz1 := Lib.hid hz1
  have Hz2 := Lib.hid hz2
  clear hi hz0 hz1 hz2
  have hra := rows_var hx
  obtain ⟨a, cap, rfl, _, hlc, hnil, hcm⟩ := hv.read_nil
  have hsl := slice_low (P := Tryd.prog) Tryd.underlying27 (fun w => Tryd.sizeOf25 w) a l.length cap l.length (Nat.le_refl _)
  clear hx
  go_enter Tryd.func48, Tryd.ntmps48
  go_wp2_with (at_builtin; refine wpList_append_from _ rfl _ _ 27 rfl oprLay B 25 i0 (.agg #[.int .i64 0, .int .i64 0, .int .i64 0, .int .i64 0, .int .i64 0, .int .i64 0, .bool false, .int .i64 0, .int .i64 0, .string ⟨#[]⟩, .string ⟨#[]⟩]) 104 Tryd.underlying27 Hi.out Hz0.out Hz1.out Hz2.out rfl (by decide) _ l rfl hv (some ⟨vb, 0, none⟩) 1 1 [x] rfl rfl hra (fun h => by cases h) (by unfold maxLen; simp; omega) (by simp; omega) hBw ?_)
  intro v w2 ho2 hg _
  have hb2 := (Below.refl B w).grown hg hBw (fun j ej => (hv.lt ej).1)
  clear hg hv
  go_wp2_with fail
  go_ret
  exact ⟨_, rfl, ho2, hb2⟩

/-! ### A set with one more -/
def insO (l : List Opr) (x : Opr) : List Opr := l.take (atO l x) ++ x :: l.drop (atO l x)
def addO (l : List Opr) (x : Opr) : List Opr × Int :=
  if rightO x ≠ 0 then ([], rightO x) else if memB l x then (l, 0) else if fitsO l x ≠ 0 then ([], fitsO l x) else if 400 ≤ l.length then ([], 40) else (insO l x, 0)
/-- What 'slices.Insert' must give. -/
def InsOk (l : List Opr) (x : Opr) : Prop := ∀ (v : Value) (vb B : Nat) (W : World), OwnRows oprLay W B 25 v l → B ≤ W.heap.size → VarAt W vb x.cells →
  Calls Tryd.prog 48 #[v, .int .i64 (atO l x), .slice (some ⟨vb, 0, none⟩) 1 1] W fun e w' => ∃ v', e = .returned v' ∧ OwnRows oprLay w' B 25 v' (insO l x) ∧ Below B W w'
theorem right_seq {x : Opr} (h : rightO x = 0) : 1 ≤ x.seq ∧ x.seq ≤ 1099511627776 := by
  unfold rightO at h
  split at h
  · cases h
  · rename_i h2
    omega
theorem atO_le (l : List Opr) (x : Opr) : atO l x ≤ l.length := List.findIdx_le_length

theorem var_ad (W : World) (x : Opr) : VarAt (World.drew (W.alloc (.cells #[.int .i64 x.cnt, .int .i64 x.who, .int .i64 x.seq, .int .i64 x.kind, .int .i64 x.nc, .int .i64 x.nw, .bool x.dir, .int .i64 x.pc, .int .i64 x.pw, .string x.name, .string x.man] 25))) W.heap.size x.cells := (box_VarAt W x).drew 1
theorem lt_ad (W : World) (o : Obj) : W.heap.size < (World.drew (W.alloc o)).heap.size := by
  show W.heap.size < (W.alloc o).heap.size
  simp
theorem keepX {W w1 w2 : World} {b B : Nat} {x : Opr} (hX : VarAt W b x.cells) (hb : Below W.heap.size W w1) (h : Below B w1 w2) (hB : W.heap.size ≤ B) : Below W.heap.size W w2 ∧ w2.cell? ⟨b, 0, none⟩ = some (.int .i64 x.cnt) ∧ w2.cell? ⟨b, 1, none⟩ = some (.int .i64 x.who) ∧ w2.cell? ⟨b, 2, none⟩ = some (.int .i64 x.seq) ∧ w2.cell? ⟨b, 3, none⟩ = some (.int .i64 x.kind) ∧ w2.cell? ⟨b, 4, none⟩ = some (.int .i64 x.nc) ∧ w2.cell? ⟨b, 5, none⟩ = some (.int .i64 x.nw) ∧ w2.cell? ⟨b, 6, none⟩ = some (.bool x.dir) ∧ w2.cell? ⟨b, 7, none⟩ = some (.int .i64 x.pc) ∧ w2.cell? ⟨b, 8, none⟩ = some (.int .i64 x.pw) ∧ w2.cell? ⟨b, 9, none⟩ = some (.string x.name) ∧ w2.cell? ⟨b, 10, none⟩ = some (.string x.man) :=
  have hb2 := hb.trans (h.mono hB)
  have h := hX.keeps hb2 hX.1
  ⟨hb2, h.2.2 0 _ rfl, h.2.2 1 _ rfl, h.2.2 2 _ rfl, h.2.2 3 _ rfl, h.2.2 4 _ rfl, h.2.2 5 _ rfl, h.2.2 6 _ rfl, h.2.2 7 _ rfl, h.2.2 8 _ rfl, h.2.2 9 _ rfl, h.2.2 10 _ rfl⟩

set_option maxRecDepth 100000 in
set_option maxHeartbeats 6400000 in
theorem add_walk (a : Option Addr) (cap : Nat) (l : List Opr) (x : Opr) (w : World) (hl : l.length ≤ 10000) (hn : x.name.size ≤ 100000) (hm : x.man.size ≤ 100000) (hnil : a = none → cap = 0) (hlc : l.length ≤ cap) (ha : RowsAt oprLay w a l)
    (HI : rightO x = 0 → memB l x = false → fitsO l x = 0 → InsOk l x) :
    Calls Tryd.prog 18 #[.slice a l.length cap, .agg #[.int .i64 x.cnt, .int .i64 x.who, .int .i64 x.seq, .int .i64 x.kind, .int .i64 x.nc, .int .i64 x.nw, .bool x.dir, .int .i64 x.pc, .int .i64 x.pw, .string x.name, .string x.man]] w fun e w' => ∃ a' cap', e = .returned (.tuple #[.slice a' (addO l x).1.length cap', .int .i64 (addO l x).2]) ∧ RowsAt oprLay w' a' (addO l x).1 ∧ (a' = none → cap' = 0) ∧ (addO l x).1.length ≤ cap' ∧ Below w.heap.size w w' := by
  obtain ⟨WX, hWX⟩ : ∃ WX, WX = w.alloc (.cells #[.int .i64 x.cnt, .int .i64 x.who, .int .i64 x.seq, .int .i64 x.kind, .int .i64 x.nc, .int .i64 x.nw, .bool x.dir, .int .i64 x.pc, .int .i64 x.pw, .string x.name, .string x.man] 25) := ⟨_, rfl⟩
  have hbx : Below w.heap.size w WX := by rw [hWX]; exact (Below.refl _ _).alloc (Nat.le_refl _) _
  have hX : VarAt WX w.heap.size x.cells := by rw [hWX]; exact box_VarAt w x
  have HA := Lib.hid (ha.keeps hbx)
  have HR := Lib.hid fun W => oright_any x W hn hm
  have HH := Lib.hid fun W (h : RowsAt oprLay W a l) => has_any a cap l x W (by omega) h
  have HFt := Lib.hid fun W (hs : 1 ≤ x.seq ∧ x.seq ≤ 1099511627776) (h : RowsAt oprLay W a l) => fits_any a cap l x W (by omega) hs.1 hs.2 h
  have HFo := Lib.hid fun W (h : RowsAt oprLay W a l) (hX : VarAt W w.heap.size x.cells) => foreAt_any a cap w.heap.size l x W (by omega) h hX
  have HC := Lib.hid fun W (h : RowsAt oprLay W a l) => clone_any a cap l W hl hnil h
  have HS := Lib.hid (right_seq (x := x))
  have HD := Lib.hid (show addO l x = if rightO x ≠ 0 then ([], rightO x) else if memB l x then (l, 0) else if fitsO l x ≠ 0 then ([], fitsO l x) else if 400 ≤ l.length then ([], 40) else (insO l x, 0) from rfl)
  have HO := Lib.hid (show foundO l x = if atO l x < l.length then (atO l x : Int) else -1 from rfl)
  have hal := atO_le l x
  have HII := Lib.hid (show InsOk l x = ∀ (v : Value) (vb B : Nat) (W : World), OwnRows oprLay W B 25 v l → B ≤ W.heap.size → VarAt W vb x.cells → Calls Tryd.prog 48 #[v, .int .i64 (atO l x), .slice (some ⟨vb, 0, none⟩) 1 1] W fun e w' => ∃ v', e = .returned v' ∧ OwnRows oprLay w' B 25 v' (insO l x) ∧ Below B W w' from rfl)
  have HI' := Lib.hid HI
  clear HI
  generalize rightO x = ro at *
  generalize memB l x = mb at *
  generalize fitsO l x = fo at *
  generalize addO l x = ao at *
  generalize foundO l x = fd at *
  generalize insO l x = il at *
  generalize atO l x = k at *
  generalize InsOk l x = io at *
  clear ha
  have cs : ∀ W, VarAt W w.heap.size x.cells → W.cell? ⟨w.heap.size, 0, none⟩ = some (.int .i64 x.cnt) ∧ W.cell? ⟨w.heap.size, 1, none⟩ = some (.int .i64 x.who) ∧ W.cell? ⟨w.heap.size, 2, none⟩ = some (.int .i64 x.seq) ∧ W.cell? ⟨w.heap.size, 3, none⟩ = some (.int .i64 x.kind) ∧ W.cell? ⟨w.heap.size, 4, none⟩ = some (.int .i64 x.nc) ∧ W.cell? ⟨w.heap.size, 5, none⟩ = some (.int .i64 x.nw) ∧ W.cell? ⟨w.heap.size, 6, none⟩ = some (.bool x.dir) ∧ W.cell? ⟨w.heap.size, 7, none⟩ = some (.int .i64 x.pc) ∧ W.cell? ⟨w.heap.size, 8, none⟩ = some (.int .i64 x.pw) ∧ W.cell? ⟨w.heap.size, 9, none⟩ = some (.string x.name) ∧ W.cell? ⟨w.heap.size, 10, none⟩ = some (.string x.man) := fun W h => ⟨h.2.2 0 _ rfl, h.2.2 1 _ rfl, h.2.2 2 _ rfl, h.2.2 3 _ rfl, h.2.2 4 _ rfl, h.2.2 5 _ rfl, h.2.2 6 _ rfl, h.2.2 7 _ rfl, h.2.2 8 _ rfl, h.2.2 9 _ rfl, h.2.2 10 _ rfl⟩
  have HCS := Lib.hid cs
  clear cs
  by_cases hro : ro = 0
  · subst hro
    have hs := HS.out rfl
    have hD2 := HD.out.trans (if_neg (fun h => h rfl))
    have e1 : ((0 : Int) != 0) = false := rfl
    obtain ⟨x0, x1, x2, x3, x4, x5, x6, x7, x8, x9, x10⟩ := HCS.out _ hX
    go_enter Tryd.func18, Tryd.ntmps18
    go_wp2_with fail
    rw [← hWX]
    refine (HR.out _).mono ?_
    rintro e w1 ⟨rfl, hb1⟩
    have hX1 := hX.keeps hb1 hX.1
    have hc1 := hbx.trans (hb1.mono hbx.size)
    have ha1 := HA.out.keeps hb1
    clear x0 x1 x2 x3 x4 x5 x6 x7 x8 x9 x10 hWX
    obtain ⟨x0, x1, x2, x3, x4, x5, x6, x7, x8, x9, x10⟩ := HCS.out _ hX1
    go_wp2_with fail
    refine (HH.out _ ha1).mono ?_
    rintro e w2 ⟨rfl, hb2⟩
    have hX2 := hX1.keeps hb2 hX1.1
    have hc2 := hc1.trans (hb2.mono hc1.size)
    have ha2 := ha1.keeps hb2
    clear x0 x1 x2 x3 x4 x5 x6 x7 x8 x9 x10 hX hX1 ha1
    obtain ⟨x0, x1, x2, x3, x4, x5, x6, x7, x8, x9, x10⟩ := HCS.out _ hX2
    cases mb with
    | true =>
      have hD3 := hD2.trans (if_pos rfl)
      have HZ := Lib.hid hD3
      clear hD3
      go_wp2_with fail
      go_ret2
      rw [HZ.out]
      exact ⟨a, cap, rfl, ha2, hnil, hlc, hc2⟩
    | false =>
      have hD3 := hD2.trans (if_neg (fun h => by cases h))
      go_wp2_with fail
      refine (HFt.out _ hs ha2).mono ?_
      rintro e w3 ⟨rfl, hb3⟩
      have hX3 := hX2.keeps hb3 hX2.1
      have hc3 := hc2.trans (hb3.mono hc2.size)
      have ha3 := ha2.keeps hb3
      clear x0 x1 x2 x3 x4 x5 x6 x7 x8 x9 x10 hX2 ha2 hD2
      by_cases hfo : fo = 0
      · subst hfo
        have hD4 := hD3.trans (if_neg (fun h => h rfl))
        by_cases hbig : 400 ≤ l.length
        · have hD5 := hD4.trans (if_pos hbig)
          have HZ := Lib.hid hD5
          clear hD5
          go_wp2_with fail
          go_ret2
          rw [HZ.out]
          exact ⟨none, 0, rfl, RowsAt.nil _ _ _, fun _ => rfl, Nat.le_refl _, hc3⟩
        · have hD5 := hD4.trans (if_neg hbig)
          have HZ := Lib.hid hD5
          clear hD5
          clear hD4 hD3
          have hio : io := by first | exact HI'.out rfl rfl rfl | exact HI'.out trivial trivial trivial | (have := HI'.out; simp at this; exact this)
          have HIN := Lib.hid (HII.out ▸ hio)
          clear hio
          clear HI' HII
          go_wp2_with fail
          refine (HFo.out _ ha3 hX3).mono ?_
          rintro e w4 ⟨rfl, hb4⟩
          have hX4 := hX3.keeps hb4 hX3.1
          have hc4 := hc3.trans (hb4.mono hc3.size)
          have ha4 := ha3.keeps hb4
          have hlt4 := hX4.1
          clear hX3 ha3
          obtain ⟨x0, x1, x2, x3, x4, x5, x6, x7, x8, x9, x10⟩ := HCS.out _ hX4
          have hfd : (0 ≤ fd ∧ fd = k) ∨ (fd < 0 ∧ k = l.length) := by
            rw [HO.out]
            split
            · exact .inl ⟨by omega, rfl⟩
            · exact .inr ⟨by omega, by omega⟩
          rcases hfd with ⟨hp, rfl⟩ | ⟨hp, rfl⟩
          all_goals
            go_wp2_with fail
            have hlt4' := hlt4
            have hB0 := Below.refl w4.heap.size w4
            have hkc : Below w4.heap.size w4 w4.drew ∧ w4.drew.cell? ⟨w.heap.size, 0, none⟩ = some (.int .i64 x.cnt) ∧ w4.drew.cell? ⟨w.heap.size, 1, none⟩ = some (.int .i64 x.who) ∧ w4.drew.cell? ⟨w.heap.size, 2, none⟩ = some (.int .i64 x.seq) ∧ w4.drew.cell? ⟨w.heap.size, 3, none⟩ = some (.int .i64 x.kind) ∧ w4.drew.cell? ⟨w.heap.size, 4, none⟩ = some (.int .i64 x.nc) ∧ w4.drew.cell? ⟨w.heap.size, 5, none⟩ = some (.int .i64 x.nw) ∧ w4.drew.cell? ⟨w.heap.size, 6, none⟩ = some (.bool x.dir) ∧ w4.drew.cell? ⟨w.heap.size, 7, none⟩ = some (.int .i64 x.pc) ∧ w4.drew.cell? ⟨w.heap.size, 8, none⟩ = some (.int .i64 x.pw) ∧ w4.drew.cell? ⟨w.heap.size, 9, none⟩ = some (.string x.name) ∧ w4.drew.cell? ⟨w.heap.size, 10, none⟩ = some (.string x.man) := ⟨hB0.drew, x0, x1, x2, x3, x4, x5, x6, x7, x8, x9, x10⟩
            go_region_held3 (fun w' => Below w4.heap.size w4 w' ∧ w'.cell? ⟨w.heap.size, 0, none⟩ = some (.int .i64 x.cnt) ∧ w'.cell? ⟨w.heap.size, 1, none⟩ = some (.int .i64 x.who) ∧ w'.cell? ⟨w.heap.size, 2, none⟩ = some (.int .i64 x.seq) ∧ w'.cell? ⟨w.heap.size, 3, none⟩ = some (.int .i64 x.kind) ∧ w'.cell? ⟨w.heap.size, 4, none⟩ = some (.int .i64 x.nc) ∧ w'.cell? ⟨w.heap.size, 5, none⟩ = some (.int .i64 x.nw) ∧ w'.cell? ⟨w.heap.size, 6, none⟩ = some (.bool x.dir) ∧ w'.cell? ⟨w.heap.size, 7, none⟩ = some (.int .i64 x.pc) ∧ w'.cell? ⟨w.heap.size, 8, none⟩ = some (.int .i64 x.pw) ∧ w'.cell? ⟨w.heap.size, 9, none⟩ = some (.string x.name) ∧ w'.cell? ⟨w.heap.size, 10, none⟩ = some (.string x.man))
              (first | exact hkc | (go_split_ands; first | exact keepX hX4 (by assumption) hbl2 (Below.size (by assumption)) | exact keepX hX4 (by assumption) hbl (Below.size (by assumption)) | exact keepX hX4 (by assumption) ((Below.refl _ _).alloc (Nat.le_refl _) _) (Below.size (by assumption))) | go_keep)
              (first | (go_at_call 49; go_split_ands; refine (HC.out _ (ha4.keeps (by assumption))).mono ?_; rintro e w' ⟨v, rfl, hown, hbl⟩) | (go_at_call 48; go_split_ands; refine (HIN.out _ _ _ _ (by first | exact hown | exact hown.alloc _) (by first | exact hbl.size | exact Nat.le_trans hbl.size (by simp)) (by first | exact box_VarAt _ x | exact (var_ad w4 x).keeps hbl (lt_ad _ _))).mono ?_; rintro e w' ⟨v2, rfl, hown2, hbl2⟩))
          all_goals
            rename_i hH
            obtain ⟨hbz, -⟩ := hH
            obtain ⟨a', cap', rfl, hra, hlc', hnil', _⟩ := hown2.read_nil
            clear hown2 hown hbl hbl2
            go_wp2_with fail
            go_ret2
            rw [HZ.out]
            exact ⟨a', cap', rfl, hra, hnil', hlc', hc4.trans (hbz.mono hc4.size)⟩
      · have hD4 := hD3.trans (if_pos hfo)
        have e3 : (fo != 0) = true := by rw [bne_iff_ne]; exact hfo
        have HZ := Lib.hid hD4
        clear hD4
        go_wp2_with fail
        go_ret2
        rw [HZ.out]
        exact ⟨none, 0, rfl, RowsAt.nil _ _ _, fun _ => rfl, Nat.le_refl _, hc3⟩
  · have hD2 := HD.out.trans (if_pos hro)
    have e1 : (ro != 0) = true := by rw [bne_iff_ne]; exact hro
    obtain ⟨x0, x1, x2, x3, x4, x5, x6, x7, x8, x9, x10⟩ := HCS.out _ hX
    have HZ := Lib.hid hD2
    clear hD2
    go_enter Tryd.func18, Tryd.ntmps18
    go_wp2_with fail
    rw [← hWX]
    refine (HR.out _).mono ?_
    rintro e w1 ⟨rfl, hb1⟩
    have hc1 := hbx.trans (hb1.mono hbx.size)
    go_wp2_with fail
    go_ret2
    rw [HZ.out]
    exact ⟨none, 0, rfl, RowsAt.nil _ _ _, fun _ => rfl, Nat.le_refl _, hc1⟩
end Go.Proofs.YtifpdejgkofnaaaDoor
