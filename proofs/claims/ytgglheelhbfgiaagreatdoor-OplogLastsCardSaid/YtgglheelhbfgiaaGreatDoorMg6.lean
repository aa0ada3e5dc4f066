/-
  Numbers and texts as bytes: the plain law. Of no program.
-/
import Derived.Test.YtgglheelhbfgiaaGreatDoorMg5
import Derived.Deep.RegionHeld3
import Derived.Lib.SliceRun
import Derived.Test.YtgglheelhbfgiaaGreatDoorMg1
import Derived.WalkSpells
import Derived.IntWalk
namespace Go.Proofs.YtgglheelhbfgiaaGreatDoor
open Go Go.RowKit Go.Lib

theorem rows_var {W : World} {b : Nat} {x : Opr} (h : VarAt W b x.cells) : RowsAt oprLay W (some ⟨b, 0, none⟩) [x] := by
  intro j y hy
  match j, hy with
  | 0, hy =>
    cases hy
    exact ⟨b, 0, rfl, h.1, fun f v hv => by simpa using h.2.2 f v hv⟩

set_option maxRecDepth 100000 in
theorem clone_any (a : Option Addr) (cap : Nat) (l : List Opr) (w : World) (hl : l.length ≤ 10000) (hnil : a = none → cap = 0) (ha : RowsAt oprLay w a l) :
    Calls Tryz.prog 78 #[.slice a l.length cap] w fun e w' => ∃ v, e = .returned v ∧ OwnRows oprLay w' w.heap.size 66 v l ∧ Below w.heap.size w w' := by
  obtain ⟨i0, hi, hz0, hz1, hz2⟩ := info_parts oprInfo
  have Hi := Lib.hid hi
  have Hz0 := Lib.hid hz0
  have Hz1 := Lib.hid hz1
  have Hz2 := Lib.hid hz2
  clear hi hz0 hz1 hz2
  cases a with
  | none =>
    obtain rfl : l = [] := by
      cases l with
      | nil => rfl
      | cons y l =>
        obtain ⟨b, off, e, _⟩ := ha 0 y rfl
        cases e
    obtain rfl := hnil rfl
    have hq : ∀ W, (binOp .eql 68 (.slice none 0 0) (.slice none 0 0)).run Tryz.prog W = .ok (.bool true) W := fun W => Lib.run_eql_slice_nil W _ _ _ _ _ _ _ Tryz.underlying68
    go_enter Tryz.func78, Tryz.ntmps78
    go_wp2_with fail
    go_ret
    exact ⟨_, rfl, OwnRows.nil _ _ _ _, Below.refl _ _⟩
  | some ad =>
    have hb0 := (Below.refl w.heap.size w).alloc (Nat.le_refl _) (.cells #[] 66)
    have ha1 := ha.keeps hb0
    have ho := OwnRows.lit w oprLay w.heap.size w.heap.size 66 #[] 0 [] rfl (Nat.le_refl _) (Nat.zero_le _) rfl rfl
    clear ha
    have hq : ∀ W, (binOp .eql 68 (.slice (some ad) l.length cap) (.slice none 0 0)).run Tryz.prog W = .ok (.bool false) W := fun W => Lib.run_eql_slice_nil W _ _ _ _ _ _ _ Tryz.underlying68
    go_enter Tryz.func78, Tryz.ntmps78
    go_wp2_with (at_builtin; refine wpList_append_from _ rfl _ _ 68 rfl oprLay w.heap.size 66 i0 (.agg #[.int .i64 0, .int .i64 0, .int .i64 0, .int .i64 0, .int .i64 0, .int .i64 0, .bool false, .int .i64 0, .int .i64 0, .string ⟨#[]⟩, .string ⟨#[]⟩]) 104 Tryz.underlying68 Hi.out Hz0.out Hz1.out Hz2.out rfl (by decide) _ [] rfl ho (some ad) cap l.length l rfl rfl ha1 (fun h => by cases h) (by unfold maxLen; simp; omega) (by simp; omega) (by simp) ?_)
    intro v w2 ho2 hg _
    have hb2 := hb0.grown hg (by simp) (fun j ej => (ho.lt ej).1)
    clear hg ho
    go_wp2_with fail
    go_ret
    exact ⟨_, rfl, by simpa using ho2, hb2⟩

set_option maxRecDepth 100000 in
theorem insertEnd_any (v : Value) (l : List Opr) (x : Opr) (vb B : Nat) (w : World) (hl : l.length ≤ 10000) (hv : OwnRows oprLay w B 66 v l) (hBw : B ≤ w.heap.size) (hx : VarAt w vb x.cells) :
    Calls Tryz.prog 85 #[v, .int .i64 l.length, .slice (some ⟨vb, 0, none⟩) 1 1] w fun e w' => ∃ v', e = .returned v' ∧ OwnRows oprLay w' B 66 v' (l ++ [x]) ∧ Below B w w' := by
  obtain ⟨i0, hi, hz0, hz1, hz2⟩ := info_parts oprInfo
  have Hi := Lib.hid hi
  have Hz0 := Lib.hid hz0
  have Hz1 := Lib.hid hz1
  have Hz2 := Lib.hid hz2
  clear hi hz0 hz1 hz2
  have hra := rows_var hx
  obtain ⟨a, cap, rfl, _, hlc, hnil, hcm⟩ := hv.read_nil
  have hsl := slice_low (P := Tryz.prog) Tryz.underlying68 (fun w => Tryz.sizeOf66 w) a l.length cap l.length (Nat.le_refl _)
  clear hx
  go_enter Tryz.func85, Tryz.ntmps85
  go_wp2_with (at_builtin; refine wpList_append_from _ rfl _ _ 68 rfl oprLay B 66 i0 (.agg #[.int .i64 0, .int .i64 0, .int .i64 0, .int .i64 0, .int .i64 0, .int .i64 0, .bool false, .int .i64 0, .int .i64 0, .string ⟨#[]⟩, .string ⟨#[]⟩]) 104 Tryz.underlying68 Hi.out Hz0.out Hz1.out Hz2.out rfl (by decide) _ l rfl hv (some ⟨vb, 0, none⟩) 1 1 [x] rfl rfl hra (fun h => by cases h) (by unfold maxLen; simp; omega) (by simp; omega) hBw ?_)
  intro v w2 ho2 hg _
  have hb2 := (Below.refl B w).grown hg hBw (fun j ej => (hv.lt ej).1)
  clear hg hv
  go_wp2_with fail
  go_ret
  exact ⟨_, rfl, ho2, hb2⟩

/-! ### A set with one more -/
def insO (l : List Opr) (x : Opr) : List Opr := l.take (atO l x) ++ x :: l.drop (atO l x)
def addO (l : List Opr) (x : Opr) : List Opr × Int :=
  if rightO x ≠ 0 then ([], rightO x) else if memB l x then (l, 0) else if fitsO l x ≠ 0 then ([], fitsO l x) else if 400 ≤ l.length then ([], 40) else (insO l x, 0)
/-- What 'slices.Insert' must give. -/
def InsOk (l : List Opr) (x : Opr) : Prop := ∀ (v : Value) (vb B : Nat) (W : World), OwnRows oprLay W B 66 v l → B ≤ W.heap.size → VarAt W vb x.cells →
  Calls Tryz.prog 85 #[v, .int .i64 (atO l x), .slice (some ⟨vb, 0, none⟩) 1 1] W fun e w' => ∃ v', e = .returned v' ∧ OwnRows oprLay w' B 66 v' (insO l x) ∧ Below B W w'
theorem right_seq {x : Opr} (h : rightO x = 0) : 1 ≤ x.seq ∧ x.seq ≤ 1099511627776 := by
  unfold rightO at h
  split at h
  · cases h
  · rename_i h2
    omega
theorem atO_le (l : List Opr) (x : Opr) : atO l x ≤ l.length := List.findIdx_le_length

theorem var_ad (W : World) (x : Opr) : VarAt (World.drew (W.alloc (.cells #[.int .i64 x.cnt, .int .i64 x.who, .int .i64 x.seq, .int .i64 x.kind, .int .i64 x.nc, .int .i64 x.nw, .bool x.dir, .int .i64 x.pc, .int .i64 x.pw, .string x.name, .string x.man] 66))) W.heap.size x.cells := (box_VarAt W x).drew 1
theorem lt_ad (W : World) (o : Obj) : W.heap.size < (World.drew (W.alloc o)).heap.size := by
  show W.heap.size < (W.alloc o).heap.size
  simp
theorem keepX {W w1 w2 : World} {b B : Nat} {x : Opr} (hX : VarAt W b x.cells) (hb : Below W.heap.size W w1) (h : Below B w1 w2) (hB : W.heap.size ≤ B) : Below W.heap.size W w2 ∧ w2.cell? ⟨b, 0, none⟩ = some (.int .i64 x.cnt) ∧ w2.cell? ⟨b, 1, none⟩ = some (.int .i64 x.who) ∧ w2.cell? ⟨b, 2, none⟩ = some (.int .i64 x.seq) ∧ w2.cell? ⟨b, 3, none⟩ = some (.int .i64 x.kind) ∧ w2.cell? ⟨b, 4, none⟩ = some (.int .i64 x.nc) ∧ w2.cell? ⟨b, 5, none⟩ = some (.int .i64 x.nw) ∧ w2.cell? ⟨b, 6, none⟩ = some (.bool x.dir) ∧ w2.cell? ⟨b, 7, none⟩ = some (.int .i64 x.pc) ∧ w2.cell? ⟨b, 8, none⟩ = some (.int .i64 x.pw) ∧ w2.cell? ⟨b, 9, none⟩ = some (.string x.name) ∧ w2.cell? ⟨b, 10, none⟩ = some (.string x.man) :=
  have hb2 := hb.trans (h.mono hB)
  have h := hX.keeps hb2 hX.1
  ⟨hb2, h.2.2 0 _ rfl, h.2.2 1 _ rfl, h.2.2 2 _ rfl, h.2.2 3 _ rfl, h.2.2 4 _ rfl, h.2.2 5 _ rfl, h.2.2 6 _ rfl, h.2.2 7 _ rfl, h.2.2 8 _ rfl, h.2.2 9 _ rfl, h.2.2 10 _ rfl⟩

set_option maxRecDepth 100000 in
set_option maxHeartbeats 6400000 in
theorem add_walk (a : Option Addr) (cap : Nat) (l : List Opr) (x : Opr) (w : World) (hl : l.length ≤ 10000) (hn : x.name.size ≤ 100000) (hm : x.man.size ≤ 100000) (hnil : a = none → cap = 0) (hlc : l.length ≤ cap) (ha : RowsAt oprLay w a l)
    (HI : rightO x = 0 → memB l x = false → fitsO l x = 0 → InsOk l x) :
    Calls Tryz.prog 44 #[.slice a l.length cap, .agg #[.int .i64 x.cnt, .int .i64 x.who, .int .i64 x.seq, .int .i64 x.kind, .int .i64 x.nc, .int .i64 x.nw, .bool x.dir, .int .i64 x.pc, .int .i64 x.pw, .string x.name, .string x.man]] w fun e w' => ∃ a' cap', e = .returned (.tuple #[.slice a' (addO l x).1.length cap', .int .i64 (addO l x).2]) ∧ RowsAt oprLay w' a' (addO l x).1 ∧ (a' = none → cap' = 0) ∧ (addO l x).1.length ≤ cap' ∧ Below w.heap.size w w' := by
  obtain ⟨WX, hWX⟩ : ∃ WX, WX = w.alloc (.cells #[.int .i64 x.cnt, .int .i64 x.who, .int .i64 x.seq, .int .i64 x.kind, .int .i64 x.nc, .int .i64 x.nw, .bool x.dir, .int .i64 x.pc, .int .i64 x.pw, .string x.name, .string x.man] 66) := ⟨_, rfl⟩
  have hbx : Below w.heap.size w WX := by rw [hWX]; exact (Below.refl _ _).alloc (Nat.le_refl _) _
  have hX : VarAt WX w.heap.size x.cells := by rw [hWX]; exact box_VarAt w x
  have HA := Lib.hid (ha.keeps hbx)
  have HR := Lib.hid fun W => oright_any x W hn hm
  have HH := Lib.hid fun W (h : RowsAt oprLay W a l) => has_any a cap l x W (by omega) h
  have HFt := Lib.hid fun W (hs : 1 ≤ x.seq ∧ x.seq ≤ 1099511627776) (h : RowsAt oprLay W a l) => fits_any a cap l x W (by omega) hs.1 hs.2 h
  have HFo := Lib.hid fun W (h : RowsAt oprLay W a l) (hX : VarAt W w.heap.size x.cells) => foreAt_any a cap w.heap.size l x W (by omega) h hX
  have HC := Lib.hid fun W (h : RowsAt oprLay W a l) => clone_any a cap l W hl hnil h
  have HS := Lib.hid (right_seq (x := x))
  have HD := Lib.hid (show addO l x = if rightO x ≠ 0 then ([], rightO x) else if memB l x then (l, 0) else if fitsO l x ≠ 0 then ([], fitsO l x) else if 400 ≤ l.length then ([], 40) else (insO l x, 0) from rfl)
  have HO := Lib.hid (show foundO l x = if atO l x < l.length then (atO l x : Int) else -1 from rfl)
  have hal := atO_le l x
  have HII := Lib.hid (show InsOk l x = ∀ (v : Value) (vb B : Nat) (W : World), OwnRows oprLay W B 66 v l → B ≤ W.heap.size → VarAt W vb x.cells → Calls Tryz.prog 85 #[v, .int .i64 (atO l x), .slice (some ⟨vb, 0, none⟩) 1 1] W fun e w' => ∃ v', e = .returned v' ∧ OwnRows oprLay w' B 66 v' (insO l x) ∧ Below B W w' from rfl)
  have HI' := Lib.hid HI
  clear HI
  generalize rightO x = ro at *
  generalize memB l x = mb at *
  generalize fitsO l x = fo at *
  generalize addO l x = ao at *
  generalize foundO l x = fd at *
  generalize insO l x = il at *
  generalize atO l x = k at *
  generalize InsOk l x = io at *
  clear ha
  have cs : ∀ W, VarAt W w.heap.size x.cells → W.cell? ⟨w.heap.size, 0, none⟩ = some (.int .i64 x.cnt) ∧ W.cell? ⟨w.heap.size, 1, none⟩ = some (.int .i64 x.who) ∧ W.cell? ⟨w.heap.size, 2, none⟩ = some (.int .i64 x.seq) ∧ W.cell? ⟨w.heap.size, 3, none⟩ = some (.int .i64 x.kind) ∧ W.cell? ⟨w.heap.size, 4, none⟩ = some (.int .i64 x.nc) ∧ W.cell? ⟨w.heap.size, 5, none⟩ = some (.int .i64 x.nw) ∧ W.cell? ⟨w.heap.size, 6, none⟩ = some (.bool x.dir) ∧ W.cell? ⟨w.heap.size, 7, none⟩ = some (.int .i64 x.pc) ∧ W.cell? ⟨w.heap.size, 8, none⟩ = some (.int .i64 x.pw) ∧ W.cell? ⟨w.heap.size, 9, none⟩ = some (.string x.name) ∧ W.cell? ⟨w.heap.size, 10, none⟩ = some (.string x.man) := fun W h => ⟨h.2.2 0 _ rfl, h.2.2 1 _ rfl, h.2.2 2 _ rfl, h.2.2 3 _ rfl, h.2.2 4 _ rfl, h.2.2 5 _ rfl, h.2.2 6 _ rfl, h.2.2 7 _ rfl, h.2.2 8 _ rfl, h.2.2 9 _ rfl, h.2.2 10 _ rfl⟩
  have HCS := Lib.hid cs
  clear cs
  by_cases hro : ro = 0
  · subst hro
    have hs := HS.out rfl
    have hD2 := HD.out.trans (if_neg (fun h => h rfl))
    have e1 : ((0 : Int) != 0) = false := rfl
    obtain ⟨x0, x1, x2, x3, x4, x5, x6, x7, x8, x9, x10⟩ := HCS.out _ hX
    go_enter Tryz.func44, Tryz.ntmps44
    go_wp2_with fail
    rw [← hWX]
    refine (HR.out _).mono ?_
    rintro e w1 ⟨rfl, hb1⟩
    have hX1 := hX.keeps hb1 hX.1
    have hc1 := hbx.trans (hb1.mono hbx.size)
    have ha1 := HA.out.keeps hb1
    clear x0 x1 x2 x3 x4 x5 x6 x7 x8 x9 x10 hWX
    obtain ⟨x0, x1, x2, x3, x4, x5, x6, x7, x8, x9, x10⟩ := HCS.out _ hX1
    go_wp2_with fail
    refine (HH.out _ ha1).mono ?_
    rintro e w2 ⟨rfl, hb2⟩
    have hX2 := hX1.keeps hb2 hX1.1
    have hc2 := hc1.trans (hb2.mono hc1.size)
    have ha2 := ha1.keeps hb2
    clear x0 x1 x2 x3 x4 x5 x6 x7 x8 x9 x10 hX hX1 ha1
    obtain ⟨x0, x1, x2, x3, x4, x5, x6, x7, x8, x9, x10⟩ := HCS.out _ hX2
    cases mb with
    | true =>
      have hD3 := hD2.trans (if_pos rfl)
      have HZ := Lib.hid hD3
      clear hD3
      go_wp2_with fail
      go_ret2
      rw [HZ.out]
      exact ⟨a, cap, rfl, ha2, hnil, hlc, hc2⟩
    | false =>
      have hD3 := hD2.trans (if_neg (fun h => by cases h))
      go_wp2_with fail
      refine (HFt.out _ hs ha2).mono ?_
      rintro e w3 ⟨rfl, hb3⟩
      have hX3 := hX2.keeps hb3 hX2.1
      have hc3 := hc2.trans (hb3.mono hc2.size)
      have ha3 := ha2.keeps hb3
      clear x0 x1 x2 x3 x4 x5 x6 x7 x8 x9 x10 hX2 ha2 hD2
      by_cases hfo : fo = 0
      · subst hfo
        have hD4 := hD3.trans (if_neg (fun h => h rfl))
        by_cases hbig : 400 ≤ l.length
        · have hD5 := hD4.trans (if_pos hbig)
          have HZ := Lib.hid hD5
          clear hD5
          go_wp2_with fail
          go_ret2
          rw [HZ.out]
          exact ⟨none, 0, rfl, RowsAt.nil _ _ _, fun _ => rfl, Nat.le_refl _, hc3⟩
        · have hD5 := hD4.trans (if_neg hbig)
          have HZ := Lib.hid hD5
          clear hD5
          clear hD4 hD3
          have hio : io := by first | exact HI'.out rfl rfl rfl | exact HI'.out trivial trivial trivial | (have := HI'.out; simp at this; exact this)
          have HIN := Lib.hid (HII.out ▸ hio)
          clear hio
          clear HI' HII
          go_wp2_with fail
          refine (HFo.out _ ha3 hX3).mono ?_
          rintro e w4 ⟨rfl, hb4⟩
          have hX4 := hX3.keeps hb4 hX3.1
          have hc4 := hc3.trans (hb4.mono hc3.size)
          have ha4 := ha3.keeps hb4
          have hlt4 := hX4.1
          clear hX3 ha3
          obtain ⟨x0, x1, x2, x3, x4, x5, x6, x7, x8, x9, x10⟩ := HCS.out _ hX4
          have hfd : (0 ≤ fd ∧ fd = k) ∨ (fd < 0 ∧ k = l.length) := by
            rw [HO.out]
            split
            · exact .inl ⟨by omega, rfl⟩
            · exact .inr ⟨by omega, by omega⟩
          rcases hfd with ⟨hp, rfl⟩ | ⟨hp, rfl⟩
          all_goals
            go_wp2_with fail
            have hlt4' := hlt4
            have hB0 := Below.refl w4.heap.size w4
            have hkc : Below w4.heap.size w4 w4.drew ∧ w4.drew.cell? ⟨w.heap.size, 0, none⟩ = some (.int .i64 x.cnt) ∧ w4.drew.cell? ⟨w.heap.size, 1, none⟩ = some (.int .i64 x.who) ∧ w4.drew.cell? ⟨w.heap.size, 2, none⟩ = some (.int .i64 x.seq) ∧ w4.drew.cell? ⟨w.heap.size, 3, none⟩ = some (.int .i64 x.kind) ∧ w4.drew.cell? ⟨w.heap.size, 4, none⟩ = some (.int .i64 x.nc) ∧ w4.drew.cell? ⟨w.heap.size, 5, none⟩ = some (.int .i64 x.nw) ∧ w4.drew.cell? ⟨w.heap.size, 6, none⟩ = some (.bool x.dir) ∧ w4.drew.cell? ⟨w.heap.size, 7, none⟩ = some (.int .i64 x.pc) ∧ w4.drew.cell? ⟨w.heap.size, 8, none⟩ = some (.int .i64 x.pw) ∧ w4.drew.cell? ⟨w.heap.size, 9, none⟩ = some (.string x.name) ∧ w4.drew.cell? ⟨w.heap.size, 10, none⟩ = some (.string x.man) := ⟨hB0.drew, x0, x1, x2, x3, x4, x5, x6, x7, x8, x9, x10⟩
            go_region_held3 (fun w' => Below w4.heap.size w4 w' ∧ w'.cell? ⟨w.heap.size, 0, none⟩ = some (.int .i64 x.cnt) ∧ w'.cell? ⟨w.heap.size, 1, none⟩ = some (.int .i64 x.who) ∧ w'.cell? ⟨w.heap.size, 2, none⟩ = some (.int .i64 x.seq) ∧ w'.cell? ⟨w.heap.size, 3, none⟩ = some (.int .i64 x.kind) ∧ w'.cell? ⟨w.heap.size, 4, none⟩ = some (.int .i64 x.nc) ∧ w'.cell? ⟨w.heap.size, 5, none⟩ = some (.int .i64 x.nw) ∧ w'.cell? ⟨w.heap.size, 6, none⟩ = some (.bool x.dir) ∧ w'.cell? ⟨w.heap.size, 7, none⟩ = some (.int .i64 x.pc) ∧ w'.cell? ⟨w.heap.size, 8, none⟩ = some (.int .i64 x.pw) ∧ w'.cell? ⟨w.heap.size, 9, none⟩ = some (.string x.name) ∧ w'.cell? ⟨w.heap.size, 10, none⟩ = some (.string x.man))
              (first | exact hkc | (go_split_ands; first | exact keepX hX4 (by assumption) hbl2 (Below.size (by assumption)) | exact keepX hX4 (by assumption) hbl (Below.size (by assumption)) | exact keepX hX4 (by assumption) ((Below.refl _ _).alloc (Nat.le_refl _) _) (Below.size (by assumption))) | go_keep)
              (first | (go_at_call 78; go_split_ands; refine (HC.out _ (ha4.keeps (by assumption))).mono ?_; rintro e w' ⟨v, rfl, hown, hbl⟩) | (go_at_call 85; go_split_ands; refine (HIN.out _ _ _ _ (by first | exact hown | exact hown.alloc _) (by first | exact hbl.size | exact Nat.le_trans hbl.size (by simp)) (by first | exact box_VarAt _ x | exact (var_ad w4 x).keeps hbl (lt_ad _ _))).mono ?_; rintro e w' ⟨v2, rfl, hown2, hbl2⟩))
          all_goals
            rename_i hH
            obtain ⟨hbz, -⟩ := hH
            obtain ⟨a', cap', rfl, hra, hlc', hnil', _⟩ := hown2.read_nil
            clear hown2 hown hbl hbl2
            go_wp2_with fail
            go_ret2
            rw [HZ.out]
            exact ⟨a', cap', rfl, hra, hnil', hlc', hc4.trans (hbz.mono hc4.size)⟩
      · have hD4 := hD3.trans (if_pos hfo)
        have e3 : (fo != 0) = true := by rw [bne_iff_ne]; exact hfo
        have HZ := Lib.hid hD4
        clear hD4
        go_wp2_with fail
        go_ret2
        rw [HZ.out]
        exact ⟨none, 0, rfl, RowsAt.nil _ _ _, fun _ => rfl, Nat.le_refl _, hc3⟩
  · have hD2 := HD.out.trans (if_pos hro)
    have e1 : (ro != 0) = true := by rw [bne_iff_ne]; exact hro
    obtain ⟨x0, x1, x2, x3, x4, x5, x6, x7, x8, x9, x10⟩ := HCS.out _ hX
    have HZ := Lib.hid hD2
    clear hD2
    go_enter Tryz.func44, Tryz.ntmps44
    go_wp2_with fail
    rw [← hWX]
    refine (HR.out _).mono ?_
    rintro e w1 ⟨rfl, hb1⟩
    have hc1 := hbx.trans (hb1.mono hbx.size)
    go_wp2_with fail
    go_ret2
    rw [HZ.out]
    exact ⟨none, 0, rfl, RowsAt.nil _ _ _, fun _ => rfl, Nat.le_refl _, hc1⟩
end Go.Proofs.YtgglheelhbfgiaaGreatDoor

namespace Go.Proofs.YtgglheelhbfgiaaGreatDoor
open Go Go.RowKit Go.Lib

theorem snoc_ind {α : Type} {p : List α → Prop} (h0 : p []) (h1 : ∀ l b, p l → p (l ++ [b])) (l : List α) : p l := by
  have key : ∀ r : List α, p r.reverse := by
    intro r
    induction r with
    | nil => exact h0
    | cons b r ih => rw [List.reverse_cons]; exact h1 _ _ ih
  have := key l.reverse
  rwa [List.reverse_reverse] at this
/-- The last k bytes of a number, the greatest first. -/
def beF : Nat → Nat → List UInt8
  | 0, _ => []
  | k + 1, u => beF k (u / 256) ++ [UInt8.ofNat (u % 256)]
/-- How many bytes a number has. -/
def widF : Nat → Nat → Nat
  | 0, _ => 0
  | f + 1, u => if u = 0 then 0 else widF f (u / 256) + 1
def wid (u : Nat) : Nat := widF 8 u
def natL (u : Nat) : List UInt8 := UInt8.ofNat (wid u) :: beF (wid u) u
def valL (l : List UInt8) : Nat := l.foldl (fun a b => a * 256 + b.toNat) 0
/-- An int as 64 bits. -/
def u64 (n : Int) : Nat := (n % 18446744073709551616).toNat
def numL (n : Int) : List UInt8 := natL (u64 n)
def textL (s : List UInt8) : List UInt8 := natL s.length ++ s

theorem beF_len : ∀ k u, (beF k u).length = k
  | 0, _ => rfl
  | k + 1, u => by rw [beF, List.length_append, beF_len k]; rfl
theorem valL_snoc (l : List UInt8) (b : UInt8) : valL (l ++ [b]) = valL l * 256 + b.toNat := by
  unfold valL; rw [List.foldl_append]; rfl
theorem valL_beF : ∀ k u, valL (beF k u) = u % 256 ^ k
  | 0, u => by simp [beF, valL, Nat.mod_one]
  | k + 1, u => by
    rw [beF, valL_snoc, valL_beF k, Nat.pow_succ, Nat.mul_comm (256 ^ k) 256, Nat.mod_mul, UInt8.toNat_ofNat']
    omega
theorem valL_lt (l : List UInt8) : valL l < 256 ^ l.length := by
  refine snoc_ind (p := fun l => valL l < 256 ^ l.length) (by simp [valL]) (fun l b ih => ?_) l
  · rw [valL_snoc, List.length_append, List.length_singleton, Nat.pow_succ]
    have := b.toNat_lt
    omega
theorem widF_lt : ∀ f u, u < 256 ^ f → u < 256 ^ (widF f u)
  | 0, u, h => h
  | f + 1, u, h => by
    unfold widF
    split
    · omega
    · have := widF_lt f (u / 256) (by rw [Nat.pow_succ] at h; omega)
      rw [Nat.pow_succ]
      omega
theorem widF_ge : ∀ f u k, widF f u = k + 1 → 256 ^ k ≤ u
  | 0, u, k, h => by simp [widF] at h
  | f + 1, u, k, h => by
    unfold widF at h
    split at h
    · omega
    · cases k with
      | zero => omega
      | succ k =>
        have := widF_ge f (u / 256) k (by omega)
        rw [Nat.pow_succ]
        omega
theorem widF_le : ∀ f u, widF f u ≤ f
  | 0, _ => Nat.le_refl _
  | f + 1, u => by
    unfold widF
    have := widF_le f (u / 256)
    split <;> omega
theorem wid_le (u : Nat) : wid u ≤ 8 := widF_le 8 u
theorem wid_lt {u : Nat} (h : u < 18446744073709551616) : u < 256 ^ wid u := widF_lt 8 u h
theorem wid_ge {u k : Nat} (h : wid u = k + 1) : 256 ^ k ≤ u := widF_ge 8 u k h
/-- The width is the one k that fits. -/
theorem wid_eq {u k : Nat} (h1 : u < 256 ^ k) (h2 : ∀ j, k = j + 1 → 256 ^ j ≤ u) (hk : k ≤ 8) : wid u = k := by
  have hu : u < 18446744073709551616 := Nat.lt_of_lt_of_le h1 (Nat.pow_le_pow_right (by omega) hk)
  have h3 := wid_lt hu
  rcases Nat.lt_trichotomy (wid u) k with a | a | a
  · obtain ⟨j, rfl⟩ : ∃ j, k = j + 1 := ⟨k - 1, by omega⟩
    have := h2 j rfl
    have := Nat.pow_le_pow_right (show 0 < 256 by omega) (show wid u ≤ j by omega)
    omega
  · exact a
  · obtain ⟨j, hj⟩ : ∃ j, wid u = j + 1 := ⟨wid u - 1, by omega⟩
    have := wid_ge hj
    have := Nat.pow_le_pow_right (show 0 < 256 by omega) (show k ≤ j by omega)
    omega
theorem beF_get : ∀ k u t, t < k → (beF k u)[t]? = some (UInt8.ofNat (u / 256 ^ (k - 1 - t)))
  | 0, _, _, h => absurd h (Nat.not_lt_zero _)
  | k + 1, u, t, h => by
    rw [beF]
    by_cases ht : t < k
    · rw [List.getElem?_append_left (by rw [beF_len]; exact ht), beF_get k (u / 256) t ht, Nat.div_div_eq_div_mul]
      have : k + 1 - 1 - t = (k - 1 - t) + 1 := by omega
      rw [this, Nat.pow_succ, Nat.mul_comm]
    · obtain rfl : t = k := by omega
      rw [List.getElem?_append_right (by rw [beF_len]; exact Nat.le_refl _), beF_len]
      simp only [Nat.sub_self, List.getElem?_cons_zero, Nat.add_sub_cancel, Nat.pow_zero, Nat.div_one, Option.some.injEq]
      apply UInt8.toNat_inj.1
      rw [UInt8.toNat_ofNat', UInt8.toNat_ofNat']
      omega
theorem beF_succ_take (k u t : Nat) (h : t < k) : (beF k u).take (t + 1) = (beF k u).take t ++ [UInt8.ofNat (u / 256 ^ (k - 1 - t))] := by
  rw [List.take_add_one, beF_get k u t h]
  rfl
theorem beF_valL (l : List UInt8) : beF l.length (valL l) = l := by
  refine snoc_ind (p := fun l => beF l.length (valL l) = l) rfl (fun l b ih => ?_) l
  · rw [List.length_append, List.length_singleton, valL_snoc, beF]
    have hb := b.toNat_lt
    have e1 : (valL l * 256 + b.toNat) / 256 = valL l := by omega
    have e2 : (valL l * 256 + b.toNat) % 256 = b.toNat := by omega
    rw [e1, e2, ih, UInt8.ofNat_toNat]
theorem valL_first {l : List UInt8} {b : UInt8} {t : List UInt8} (h : l = b :: t) (hb : b ≠ 0) : 256 ^ t.length ≤ valL l := by
  subst h
  have key : ∀ (t : List UInt8) (a : Nat), t.foldl (fun a b => a * 256 + b.toNat) a ≥ a * 256 ^ t.length := by
    intro t
    induction t with
    | nil => intro a; simp
    | cons c t ih =>
      intro a
      rw [List.foldl_cons, List.length_cons, Nat.pow_succ]
      refine Nat.le_trans ?_ (ih _)
      rw [Nat.mul_comm (256 ^ t.length) 256, ← Nat.mul_assoc]
      exact Nat.mul_le_mul_right _ (Nat.le_add_right _ _)
  have h1 := key t b.toNat
  have h2 : 1 ≤ b.toNat := by
    rcases Nat.eq_zero_or_pos b.toNat with h | h
    · exact absurd (by rw [← UInt8.toNat_inj, h]; rfl) hb
    · exact h
  unfold valL
  rw [List.foldl_cons]
  simp only [Nat.zero_mul, Nat.zero_add]
  exact Nat.le_trans (Nat.le_mul_of_pos_left _ h2) h1

/-! ### Bytes that are read -/
structure Rd where
  err : Int
  rest : List UInt8
def Rd.raw (r : Rd) : Nat × Rd :=
  if r.err ≠ 0 then (0, r) else
  match r.rest with
  | [] => (0, ⟨10, []⟩)
  | h :: t => if 8 < h.toNat then (0, ⟨11, []⟩) else if t.length < h.toNat then (0, ⟨10, []⟩) else if h.toNat ≠ 0 ∧ t[0]? = some 0 then (0, ⟨11, []⟩) else (valL (t.take h.toNat), ⟨0, t.drop h.toNat⟩)
def Rd.num (r : Rd) : Int × Rd := (IntKind.i64.wrap r.raw.1, r.raw.2)
def Rd.text (r : Rd) : List UInt8 × Rd :=
  if r.raw.2.err ≠ 0 then ([], r.raw.2) else if r.raw.2.rest.length < r.raw.1 then ([], ⟨10, []⟩) else (r.raw.2.rest.take r.raw.1, ⟨0, r.raw.2.rest.drop r.raw.1⟩)
def Rd.fin (r : Rd) : Int := if r.err ≠ 0 then r.err else if r.rest ≠ [] then 12 else 0

theorem raw_err {r : Rd} (h : r.err ≠ 0) : r.raw = (0, r) := by unfold Rd.raw; rw [if_pos h]
theorem raw_none : Rd.raw ⟨0, []⟩ = (0, ⟨10, []⟩) := rfl
theorem raw_wide {h : UInt8} {t : List UInt8} (h1 : 8 < h.toNat) : Rd.raw ⟨0, h :: t⟩ = (0, ⟨11, []⟩) := by
  unfold Rd.raw; simp [h1]
theorem raw_short {h : UInt8} {t : List UInt8} (h1 : ¬ 8 < h.toNat) (h2 : t.length < h.toNat) : Rd.raw ⟨0, h :: t⟩ = (0, ⟨10, []⟩) := by
  unfold Rd.raw; simp [h1, h2]
theorem raw_zero {h : UInt8} {t : List UInt8} (h1 : ¬ 8 < h.toNat) (h2 : ¬ t.length < h.toNat) (h3 : h.toNat ≠ 0 ∧ t[0]? = some 0) : Rd.raw ⟨0, h :: t⟩ = (0, ⟨11, []⟩) := by
  unfold Rd.raw; simp only [ne_eq, not_true_eq_false, if_false, h1, h2]; rw [if_pos h3]
theorem raw_ok {h : UInt8} {t : List UInt8} (h1 : ¬ 8 < h.toNat) (h2 : ¬ t.length < h.toNat) (h3 : ¬ (h.toNat ≠ 0 ∧ t[0]? = some 0)) : Rd.raw ⟨0, h :: t⟩ = (valL (t.take h.toNat), ⟨0, t.drop h.toNat⟩) := by
  unfold Rd.raw; simp only [ne_eq, not_true_eq_false, if_false, h1, h2]; rw [if_neg h3]
theorem raw_bound (r : Rd) : r.raw.1 < 18446744073709551616 := by
  obtain ⟨e, l⟩ := r
  by_cases he : e = 0
  · subst he
    cases l with
    | nil => rw [raw_none]; decide
    | cons h t =>
      by_cases h1 : 8 < h.toNat
      · rw [raw_wide h1]; decide
      · by_cases h2 : t.length < h.toNat
        · rw [raw_short h1 h2]; decide
        · by_cases h3 : h.toNat ≠ 0 ∧ t[0]? = some 0
          · rw [raw_zero h1 h2 h3]; decide
          · rw [raw_ok h1 h2 h3]
            have := valL_lt (t.take h.toNat)
            have h5 : 256 ^ (t.take h.toNat).length ≤ 256 ^ 8 := Nat.pow_le_pow_right (by omega) (by rw [List.length_take]; omega)
            exact Nat.lt_of_lt_of_le this h5
  · rw [raw_err he]; exact Nat.zero_lt_succ _
/-- A number's bytes are read as it. -/
theorem raw_natL {u : Nat} (hu : u < 18446744073709551616) (rest : List UInt8) : Rd.raw ⟨0, natL u ++ rest⟩ = (u, ⟨0, rest⟩) := by
  unfold natL
  rw [List.cons_append]
  have hw := wid_le u
  have e : (UInt8.ofNat (wid u)).toNat = wid u := by rw [UInt8.toNat_ofNat']; omega
  rw [raw_ok (by omega) (by rw [List.length_append, beF_len]; omega)]
  · rw [e, List.take_left' (beF_len _ _), List.drop_left' (beF_len _ _), valL_beF, Nat.mod_eq_of_lt (wid_lt hu)]
  · rintro ⟨h1, h2⟩
    rw [e] at h1
    obtain ⟨k, hk⟩ : ∃ k, wid u = k + 1 := ⟨wid u - 1, by omega⟩
    rw [hk, List.getElem?_append_left (by rw [beF_len]; omega), beF_get _ _ _ (by omega)] at h2
    have h3 := wid_ge hk
    have h4 := wid_lt hu
    rw [hk, Nat.pow_succ] at h4
    have h5 : u / 256 ^ k < 256 := Nat.div_lt_of_lt_mul h4
    have h6 : 1 ≤ u / 256 ^ k := (Nat.le_div_iff_mul_le (Nat.pow_pos (by omega))).2 (by omega)
    have h7 := congrArg UInt8.toNat (Option.some.inj h2)
    rw [UInt8.toNat_ofNat'] at h7
    simp only [Nat.add_sub_cancel, Nat.sub_zero] at h7
    have h8 : (0 : UInt8).toNat = 0 := rfl
    rw [h8] at h7
    omega
/-- Bytes that are read as a number are its bytes. -/
theorem raw_back {l : List UInt8} {u : Nat} {rest : List UInt8} (h : Rd.raw ⟨0, l⟩ = (u, ⟨0, rest⟩)) : l = natL u ++ rest := by
  cases l with
  | nil => rw [raw_none] at h; simp at h
  | cons b t =>
    by_cases h1 : 8 < b.toNat
    · rw [raw_wide h1] at h; simp at h
    by_cases h2 : t.length < b.toNat
    · rw [raw_short h1 h2] at h; simp at h
    by_cases h3 : b.toNat ≠ 0 ∧ t[0]? = some 0
    · rw [raw_zero h1 h2 h3] at h; simp at h
    rw [raw_ok h1 h2 h3] at h
    simp only [Prod.mk.injEq, Rd.mk.injEq, true_and] at h
    obtain ⟨rfl, rfl⟩ := h
    have hl : (t.take b.toNat).length = b.toNat := by rw [List.length_take]; omega
    have hw : wid (valL (t.take b.toNat)) = b.toNat := by
      refine wid_eq (by have := valL_lt (t.take b.toNat); rwa [hl] at this) (fun j hj => ?_) (by omega)
      cases ht : t with
      | nil => rw [ht] at h2; simp at h2; omega
      | cons c t' =>
        have hc : c ≠ 0 := fun hc => h3 ⟨by omega, by rw [ht, hc]; rfl⟩
        have := valL_first (l := (c :: t').take b.toNat) (b := c) (t := t'.take j) (by rw [hj, List.take_succ_cons]) hc
        rw [List.length_take] at this
        have hl2 : j ≤ t'.length := by rw [ht] at h2; simp at h2; omega
        rwa [Nat.min_eq_left hl2] at this
    unfold natL
    rw [hw, UInt8.ofNat_toNat]
    have := beF_valL (t.take b.toNat)
    rw [hl] at this
    rw [this, List.cons_append, List.take_append_drop]
theorem u64_bound (n : Int) : u64 n < 18446744073709551616 := by unfold u64; omega
theorem u64_nat {n : Nat} (h : n < 18446744073709551616) : u64 n = n := by unfold u64; omega
theorem wrap_u64 {n : Int} (h1 : -9223372036854775808 ≤ n) (h2 : n ≤ 9223372036854775807) : IntKind.i64.wrap (u64 n : Int) = n := by
  simp only [IntKind.wrap, IntKind.signed, IntKind.bits, u64]
  simp
  omega
theorem u64_wrap (u : Nat) (h : u < 18446744073709551616) : u64 (IntKind.i64.wrap (u : Int)) = u := by
  simp only [IntKind.wrap, IntKind.signed, IntKind.bits, u64]
  simp
  omega
end Go.Proofs.YtgglheelhbfgiaaGreatDoor

namespace Go.Proofs.YtgglheelhbfgiaaGreatDoor
open Go Go.RowKit Go.Lib

/-- codec.Reader's cells. -/
def RdCells (W : World) (b : Nat) (d : ByteArray) (p : Nat) (e : Int) : Prop := W.cell? ⟨b, 0, none⟩ = some (.string d) ∧ W.cell? ⟨b, 1, none⟩ = some (.int .i64 p) ∧ W.cell? ⟨b, 2, none⟩ = some (.int .i64 e) ∧ (∀ i, W.frozen? ⟨b, i, none⟩ = false) ∧ b < W.heap.size
theorem RdCells.keeps {W W' : World} {b : Nat} {d : ByteArray} {p : Nat} {e : Int} (h : RdCells W b d p e) {B : Nat} (hb : Below B W W') (hlt : b < B) : RdCells W' b d p e := by
  obtain ⟨h0, h1, h2, hf, hl⟩ := h
  exact ⟨(hb.cell (p := ⟨b, 0, none⟩) hlt).trans h0, (hb.cell (p := ⟨b, 1, none⟩) hlt).trans h1, (hb.cell (p := ⟨b, 2, none⟩) hlt).trans h2, fun i => (hb.frozen (p := ⟨b, i, none⟩) hlt).trans (hf i), Nat.lt_of_lt_of_le hl hb.size⟩
theorem RdCells.setErr {W : World} {b : Nat} {d : ByteArray} {p : Nat} {e : Int} (h : RdCells W b d p e) (e' : Int) : RdCells (W.setCell ⟨b, 2, none⟩ (.int .i64 e')) b d p e' := by
  obtain ⟨h0, h1, h2, hf, hl⟩ := h
  refine ⟨?_, ?_, World.cell?_setCell_same _ _ _ h2, fun i => by simpa using hf i, by simpa using hl⟩
  · rw [World.cell?_setCell_other _ _ _ _ (by simp)]; exact h0
  · rw [World.cell?_setCell_other _ _ _ _ (by simp)]; exact h1
theorem RdCells.setPos {W : World} {b : Nat} {d : ByteArray} {p : Nat} {e : Int} (h : RdCells W b d p e) (p' : Nat) : RdCells (W.setCell ⟨b, 1, none⟩ (.int .i64 p')) b d p' e := by
  obtain ⟨h0, h1, h2, hf, hl⟩ := h
  refine ⟨?_, World.cell?_setCell_same _ _ _ h1, ?_, fun i => by simpa using hf i, by simpa using hl⟩
  · rw [World.cell?_setCell_other _ _ _ _ (by simp)]; exact h0
  · rw [World.cell?_setCell_other _ _ _ _ (by simp)]; exact h2
theorem RdCells.drewN {W : World} {b : Nat} {d : ByteArray} {p : Nat} {e : Int} (h : RdCells W b d p e) (n : Nat) : RdCells (W.drewN n) b d p e := h
/-- codec.Reader, as it lies in memory. -/
def RdAt (W : World) (b : Nat) (r : Rd) : Prop := ∃ (d : ByteArray) (p : Nat), RdCells W b d p r.err ∧ p ≤ d.size ∧ d.size ≤ 100000000 ∧ (r.err = 0 → r.rest = d.data.toList.drop p)
theorem RdAt.keeps {W W' : World} {b : Nat} {r : Rd} (h : RdAt W b r) {B : Nat} (hb : Below B W W') (hlt : b < B) : RdAt W' b r := by
  obtain ⟨d, p, hc, r⟩ := h
  exact ⟨d, p, hc.keeps hb hlt, r⟩
theorem RdAt.drewN {W : World} {b : Nat} {r : Rd} (h : RdAt W b r) (n : Nat) : RdAt (W.drewN n) b r := h
theorem RdAt.lt {W : World} {b : Nat} {r : Rd} (h : RdAt W b r) : b < W.heap.size := by
  obtain ⟨d, p, hc, _⟩ := h
  exact hc.2.2.2.2
def takeR (r : Rd) (n : Nat) : List UInt8 × Rd := if r.rest.length < n then ([], ⟨10, []⟩) else (r.rest.take n, ⟨0, r.rest.drop n⟩)
theorem grown_cell (w : World) (b i : Nat) (v : Value) : w.grownBy (w.setCell ⟨b, i, none⟩ v) (some b) :=
  ⟨rfl, rfl, rfl, by simp, fun k _ hne => Below.heap_setCell w _ v k (fun e => hne (by rw [e]))⟩
theorem grown_drewN (w : World) (n : Nat) (row : Option Nat) : w.grownBy (w.drewN n) row := ⟨rfl, rfl, rfl, Nat.le_refl _, fun _ _ _ => rfl⟩
theorem extract_drop (d : ByteArray) (p n : Nat) : (d.extract p (p + n)).data.toList = (d.data.toList.drop p).take n := by
  rw [ByteArray.data_extract, Array.toList_extract, List.extract_eq_take_drop]
  congr 1
  omega
theorem ret_text {d : ByteArray} {p n : Nat} {l : List UInt8} (h : l = (d.data.toList.drop p).take n) : Ending.returned (.string (d.extract p (p + n))) = .returned (.string ⟨l.toArray⟩) := by
  subst h
  congr 2
  apply ba_ext
  rw [extract_drop]

set_option maxRecDepth 100000 in
set_option maxHeartbeats 800000 in
theorem take_any (b : Nat) (r : Rd) (n : Nat) (hn : n < 18446744073709551616) (w : World) (h0 : r.err = 0) (h : RdAt w b r) :
    Calls Tryz.prog 142 #[.pointer (some ⟨b, 0, none⟩), .int .u64 n] w fun e w' => e = .returned (.string ⟨(takeR r n).1.toArray⟩) ∧ RdAt w' b (takeR r n).2 ∧ w.grownBy w' (some b) := by
  obtain ⟨d, p, hcs, hp, hd, hr⟩ := h
  have hr := hr h0
  have hlen : r.rest.length = d.size - p := by rw [hr, List.length_drop, ← size_eq]
  rw [h0] at hcs
  have hcs' := hcs
  obtain ⟨c0, c1, c2, hf, hl⟩ := hcs'
  by_cases hlt : d.size - p < n
  · have hT := Lib.hid (show takeR r n = ([], ⟨10, []⟩) by unfold takeR; rw [hlen, if_pos hlt])
    clear hr hlen h0
    go_enter Tryz.func142, Tryz.ntmps142
    go_wp2_with fail
    go_quiet (fail)
    go_wp2_with fail
    go_ret
    rw [hT.out]
    exact ⟨rfl, ⟨d, p, (hcs.drewN nq).setErr 10, hp, hd, fun h => by cases h⟩, World.grownBy.trans (grown_drewN w nq _) (grown_cell _ b 2 _)⟩
  · have hT := Lib.hid (show takeR r n = (r.rest.take n, ⟨0, r.rest.drop n⟩) by unfold takeR; rw [hlen, if_neg hlt])
    have HR := Lib.hid hr
    have hlt1 : ¬ ((d.size : Int) - p < n) := by omega
    clear hr hlen h0
    go_enter Tryz.func142, Tryz.ntmps142
    go_wp2_with fail
    go_quiet (fail)
    go_wp2_with fail
    go_quiet (fail)
    go_wp2_with fail
    go_ret
    rw [hT.out]
    exact ⟨ret_text (by rw [HR.out]), ⟨d, p + n, (hcs.drewN _).setPos (p + n), by omega, hd, fun _ => by rw [HR.out, List.drop_drop]⟩, World.grownBy.trans (grown_drewN w _ _) (grown_cell _ b 1 _)⟩
end Go.Proofs.YtgglheelhbfgiaaGreatDoor

