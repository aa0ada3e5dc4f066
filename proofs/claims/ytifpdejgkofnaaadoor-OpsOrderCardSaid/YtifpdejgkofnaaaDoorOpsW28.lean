import Derived.Test.YtifpdejgkofnaaaDoorOpsW27
import Derived.Test.YtifpdejgkofnaaaDoorOpsW22
namespace Go.Proofs.YtifpdejgkofnaaaDoor
open Go Go.RowKit Go.Lib

theorem few1d_any (b : Nat) (x : Opr) (w : World) (h : VarAt w b x.cells) : Calls Tryd.prog 12 #[.slice (some ⟨b, 0, none⟩) 1 1] w fun e w' => e = .returned (.bool (!bigO x)) ∧ w' = w := by
  have := few06_any (some ⟨b, 0, none⟩) 1 [x] w (by simp) (rows_var h)
  rw [show fewO [x] = !bigO x by simp [fewO]] at this
  exact this
theorem bigO_not2 {x : Opr} (h : bigO x = false) : x.name.size ≤ 100000 ∧ x.man.size ≤ 100000 := by
  simp [bigO] at h
  omega
theorem addO_len (l : List Opr) (x : Opr) : (addO l x).1.length ≤ l.length + 1 := by
  unfold addO
  split
  · simp
  · split
    · simp
    · split
      · simp
      · split
        · simp
        · simp [insO]; omega

set_option maxRecDepth 100000 in
set_option maxHeartbeats 1000000 in
theorem law_opsAdds (a : Option Addr) (cap : Nat) (l : List Opr) (x : Opr) (w : World) (ha : RowsAt oprLay w a l) (hlc : l.length ≤ cap) (hl : l.length ≤ 140737488351232) (hnil : a = none → cap = 0) (_ : ∀ x ∈ l, -9223372036854775808 ≤ x.who) :
    Calls Tryd.prog 5 #[.slice a l.length cap, .agg #[.int .i64 x.cnt, .int .i64 x.who, .int .i64 x.seq, .int .i64 x.kind, .int .i64 x.nc, .int .i64 x.nw, .bool x.dir, .int .i64 x.pc, .int .i64 x.pw, .string x.name, .string x.man]] w fun e w' => e = .returned (.bool true) ∧ Below w.heap.size w w' := by
  obtain ⟨i0, hi, hz0, hz1, hz2⟩ := info_parts oprInfo
  have Hi := Lib.hid hi
  have Hz0 := Lib.hid hz0
  have Hz1 := Lib.hid hz1
  have Hz2 := Lib.hid hz2
  clear hi hz0 hz1 hz2
  obtain ⟨WX, hWX⟩ : ∃ WX, WX = w.alloc (.cells #[.int .i64 x.cnt, .int .i64 x.who, .int .i64 x.seq, .int .i64 x.kind, .int .i64 x.nc, .int .i64 x.nw, .bool x.dir, .int .i64 x.pc, .int .i64 x.pw, .string x.name, .string x.man] 25) := ⟨_, rfl⟩
  have hbx : Below w.heap.size w WX := by rw [hWX]; exact (Below.refl _ _).alloc (Nat.le_refl _) _
  have hX : VarAt WX w.heap.size x.cells := by rw [hWX]; exact box_VarAt w x
  have HA := Lib.hid awake06_any
  have hax := ha.keeps hbx
  have HF := Lib.hid (few06_any a cap l WX (by omega) hax)
  have HF1 := Lib.hid (few1d_any WX.heap.size x (WX.alloc (.cells #[.int .i64 x.cnt, .int .i64 x.who, .int .i64 x.seq, .int .i64 x.kind, .int .i64 x.nc, .int .i64 x.nw, .bool x.dir, .int .i64 x.pc, .int .i64 x.pw, .string x.name, .string x.man] 25)) (box_VarAt WX x))
  have x0 := hX.2.2 0 _ rfl
  have x1 := hX.2.2 1 _ rfl
  have x2 := hX.2.2 2 _ rfl
  have x3 := hX.2.2 3 _ rfl
  have x4 := hX.2.2 4 _ rfl
  have x5 := hX.2.2 5 _ rfl
  have x6 := hX.2.2 6 _ rfl
  have x7 := hX.2.2 7 _ rfl
  have x8 := hX.2.2 8 _ rfl
  have x9 := hX.2.2 9 _ rfl
  have x10 := hX.2.2 10 _ rfl
  cases hf : fewO l with
  | false =>
    rw [hf] at HF
    go_enter Tryd.func5, Tryd.ntmps5
    go_wp2_with fail
    rw [← hWX]
    clear hWX
    refine HF.out.mono ?_
    rintro e w1 ⟨rfl, rfl⟩
    go_wp2_with fail
    refine (HA.out _).mono ?_
    rintro e w9 ⟨rfl, hb9⟩
    go_wp2_with fail
    go_ret
    exact ⟨rfl, hbx.trans (hb9.mono hbx.size)⟩
  | true =>
    rw [hf] at HF
    have hfl := few_len hf
    obtain ⟨W1, hW1⟩ : ∃ W1, W1 = WX.alloc (.cells #[.int .i64 x.cnt, .int .i64 x.who, .int .i64 x.seq, .int .i64 x.kind, .int .i64 x.nc, .int .i64 x.nw, .bool x.dir, .int .i64 x.pc, .int .i64 x.pw, .string x.name, .string x.man] 25) := ⟨_, rfl⟩
    have hb1 := hbx.alloc hbx.size (.cells #[.int .i64 x.cnt, .int .i64 x.who, .int .i64 x.seq, .int .i64 x.kind, .int .i64 x.nc, .int .i64 x.nw, .bool x.dir, .int .i64 x.pc, .int .i64 x.pw, .string x.name, .string x.man] 25)
    have hX1 := hX.keeps ((Below.refl _ _).alloc (Nat.le_refl _) (.cells #[.int .i64 x.cnt, .int .i64 x.who, .int .i64 x.seq, .int .i64 x.kind, .int .i64 x.nc, .int .i64 x.nw, .bool x.dir, .int .i64 x.pc, .int .i64 x.pw, .string x.name, .string x.man] 25)) hX.1
    obtain ⟨bg, hbg⟩ : ∃ bg, bigO x = bg := ⟨_, rfl⟩
    rw [hbg] at HF1
    cases bg with
    | true =>
      simp only [Bool.not_true] at HF1
      go_enter Tryd.func5, Tryd.ntmps5
      go_wp2_with fail
      rw [← hWX]
      clear hWX
      refine HF.out.mono ?_
      rintro e w1 ⟨rfl, rfl⟩
      go_wp2_with fail
      refine HF1.out.mono ?_
      rintro e w2 ⟨rfl, rfl⟩
      rw [← hW1]
      rw [← hW1] at hb1
      clear hW1 hX1 x0 x1 x2 x3 x4 x5 x6 x7 x8 x9 x10
      go_wp2_with fail
      refine (HA.out _).mono ?_
      rintro e w9 ⟨rfl, hb9⟩
      go_wp2_with fail
      go_ret
      exact ⟨rfl, hb1.trans (hb9.mono hb1.size)⟩
    | false =>
      simp only [Bool.not_false] at HF1
      have hsz := bigO_not2 hbg
      have HAd := Lib.hid fun a cap W hn hc (h : RowsAt oprLay W a l) => add_any a cap l x W (by omega) hsz.1 hsz.2 hn hc h
      have HRd := Lib.hid fun W (h : RowsAt oprLay W a l) => radd_any a cap l x W (by omega) hsz.1 hsz.2 hnil hlc h
      have hlen := addO_len l x
      generalize addO l x = ao at *
      obtain ⟨al, ae⟩ := ao
      dsimp only at HAd HRd hlen
      clear hf hbg
      go_enter Tryd.func5, Tryd.ntmps5
      go_wp2_with fail
      rw [← hWX]
      clear hWX
      refine HF.out.mono ?_
      rintro e w1 ⟨rfl, rfl⟩
      go_wp2_with fail
      refine HF1.out.mono ?_
      rintro e w2 ⟨rfl, rfl⟩
      rw [← hW1]
      rw [← hW1] at hb1 hX1
      clear hW1 x0 x1 x2 x3 x4 x5 x6 x7 x8 x9 x10
      have ha1 := (ha.keeps hb1).keeps ((Below.refl _ _).alloc (Nat.le_refl _) (.cells #[] 25))
      have hb2 := hb1.alloc hb1.size (.cells #[] 25)
      have ho := OwnRows.lit W1 oprLay W1.heap.size w.heap.size 25 #[] 0 [] rfl hb1.size (Nat.zero_le _) rfl rfl
      go_wp2_with (at_builtin; refine wpList_append_from _ rfl _ _ 27 rfl oprLay w.heap.size 25 i0 (.agg #[.int .i64 0, .int .i64 0, .int .i64 0, .int .i64 0, .int .i64 0, .int .i64 0, .bool false, .int .i64 0, .int .i64 0, .string ⟨#[]⟩, .string ⟨#[]⟩]) 104 Tryd.underlying27 Hi.out Hz0.out Hz1.out Hz2.out rfl (by decide) _ [] rfl ho a cap l.length l rfl rfl ha1 hnil (by unfold maxLen; simp; omega) (by simp; omega) (by have := hb1.size; simp; omega) ?_)
      intro v w3 ho3 hg _
      have hb3 := hb2.grown hg hb2.size (fun j ej => (ho.lt ej).1)
      have hX3 := (hX1.keeps ((Below.refl _ _).alloc (Nat.le_refl _) (.cells #[] 25)) hX1.1).grown hg (by have := hX1.1; simp [Value.ownBlock]; omega)
      clear hg ho ha1
      replace ho3 : OwnRows oprLay w3 w.heap.size 25 v l := by simpa using ho3
      obtain ⟨av, cv, rfl, hrv, hlv, hnv, _⟩ := ho3.read_nil
      clear ho3
      have x0 := hX3.2.2 0 _ rfl
      have x1 := hX3.2.2 1 _ rfl
      have x2 := hX3.2.2 2 _ rfl
      have x3 := hX3.2.2 3 _ rfl
      have x4 := hX3.2.2 4 _ rfl
      have x5 := hX3.2.2 5 _ rfl
      have x6 := hX3.2.2 6 _ rfl
      have x7 := hX3.2.2 7 _ rfl
      have x8 := hX3.2.2 8 _ rfl
      have x9 := hX3.2.2 9 _ rfl
      have x10 := hX3.2.2 10 _ rfl
      go_wp2_with fail
      refine (HAd.out av cv _ hnv hlv hrv).mono ?_
      rintro e w4 ⟨a4, c4, rfl, hr4, hn4, hc4, hb4⟩
      have hB4 := hb3.trans (hb4.mono hb3.size)
      have hX4 := hX3.keeps hb4 hX3.1
      clear x0 x1 x2 x3 x4 x5 x6 x7 x8 x9 x10
      have x0 := hX4.2.2 0 _ rfl
      have x1 := hX4.2.2 1 _ rfl
      have x2 := hX4.2.2 2 _ rfl
      have x3 := hX4.2.2 3 _ rfl
      have x4 := hX4.2.2 4 _ rfl
      have x5 := hX4.2.2 5 _ rfl
      have x6 := hX4.2.2 6 _ rfl
      have x7 := hX4.2.2 7 _ rfl
      have x8 := hX4.2.2 8 _ rfl
      have x9 := hX4.2.2 9 _ rfl
      have x10 := hX4.2.2 10 _ rfl
      go_wp2_with fail
      refine (HRd.out _ (ha.keeps hB4)).mono ?_
      rintro e w5 ⟨a5, c5, rfl, hr5, hn5, hc5, hb5⟩
      have hB5 := hB4.trans (hb5.mono hB4.size)
      have HO := Lib.hid (oprs_any a4 a5 c4 c5 al al w5 (by omega) (hr4.keeps hb5) hr5)
      rw [decide_eq_true rfl] at HO
      clear x0 x1 x2 x3 x4 x5 x6 x7 x8 x9 x10
      go_wp2_with fail
      refine HO.out.mono ?_
      rintro e w6 ⟨rfl, n6, rfl⟩
      have hB6 := belowDrew hB5 n6
      have HO2 := Lib.hid (oprs_any av a cv cap l l (w5.drewN n6) (by omega) (((hrv.keeps hb4).keeps hb5).keeps (belowDrew (Below.refl _ _) n6)) (ha.keeps hB6))
      rw [decide_eq_true rfl] at HO2
      go_wp2_with fail
      refine HO2.out.mono ?_
      rintro e w7 ⟨rfl, n7, rfl⟩
      have hB7 := belowDrew hB5 (n6 + n7)
      go_wp2_with fail
      refine (HA.out _).mono ?_
      rintro e w9 ⟨rfl, hb9⟩
      go_wp2_with fail
      go_ret
      exact ⟨rfl, hB7.trans (hb9.mono hB7.size)⟩
end Go.Proofs.YtifpdejgkofnaaaDoor
