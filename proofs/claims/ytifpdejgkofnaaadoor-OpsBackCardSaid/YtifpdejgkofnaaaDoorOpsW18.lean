import Derived.Test.YtifpdejgkofnaaaDoorOpsBack
import Derived.Test.YtifpdejgkofnaaaDoorOpsW14
namespace Go.Proofs.YtifpdejgkofnaaaDoor
open Go Go.RowKit Go.Lib

theorem few1c_any (b : Nat) (x : Opr) (w : World) (h : VarAt w b x.cells) : Calls Tryd.prog 12 #[.slice (some ⟨b, 0, none⟩) 1 1] w fun e w' => e = .returned (.bool (!bigO x)) ∧ w' = w := by
  have := few06_any (some ⟨b, 0, none⟩) 1 [x] w (by simp) (rows_var h)
  rw [show fewO [x] = !bigO x by simp [fewO]] at this
  exact this
theorem bigO_not'' {x : Opr} (h : bigO x = false) : x.name.size ≤ 200 ∧ x.man.size ≤ 2000 := by
  simp [bigO] at h
  omega
theorem encL_len (x : Opr) (hn : x.name.size ≤ 200) (hm : x.man.size ≤ 2000) : (encL x).length ≤ 3000 := by
  have h1 : (flatN (numsO x)).length ≤ 81 := flatN_len _
  have h2 := textL_len x.name (by omega)
  have h3 := textL_len x.man (by omega)
  rw [size_eq] at h2 h3
  unfold encL
  simp only [List.length_append] at *
  omega

set_option maxRecDepth 100000 in
set_option maxHeartbeats 6400000 in
theorem law_opsBack (x : Opr) (d : ByteArray) (w : World) (hd : d.size ≤ 140737488351232) : Calls Tryd.prog 11 #[.agg #[.int .i64 x.cnt, .int .i64 x.who, .int .i64 x.seq, .int .i64 x.kind, .int .i64 x.nc, .int .i64 x.nw, .bool x.dir, .int .i64 x.pc, .int .i64 x.pw, .string x.name, .string x.man], .string d] w fun e w' => e = .returned (.bool true) ∧ Below w.heap.size w w' := by
  obtain ⟨WX, hWX⟩ : ∃ WX, WX = w.alloc (.cells #[.int .i64 x.cnt, .int .i64 x.who, .int .i64 x.seq, .int .i64 x.kind, .int .i64 x.nc, .int .i64 x.nw, .bool x.dir, .int .i64 x.pc, .int .i64 x.pw, .string x.name, .string x.man] 25) := ⟨_, rfl⟩
  have hbx : Below w.heap.size w WX := by rw [hWX]; exact (Below.refl _ _).alloc (Nat.le_refl _) _
  have hX : VarAt WX w.heap.size x.cells := by rw [hWX]; exact box_VarAt w x
  have hWs : WX.heap.size = w.heap.size + 1 := by rw [hWX]; simp
  have HF := Lib.hid (few1c_any (w.heap.size + 1) x _ (by have := box_VarAt WX x; rw [hWs] at this; exact this))
  clear hWs
  have HA := Lib.hid awake06_any
  obtain ⟨W1, hW1⟩ : ∃ W1, W1 = WX.alloc (.cells #[.int .i64 x.cnt, .int .i64 x.who, .int .i64 x.seq, .int .i64 x.kind, .int .i64 x.nc, .int .i64 x.nw, .bool x.dir, .int .i64 x.pc, .int .i64 x.pw, .string x.name, .string x.man] 25) := ⟨_, rfl⟩
  have hX1 := hX.keeps ((Below.refl _ _).alloc (Nat.le_refl _) (.cells #[.int .i64 x.cnt, .int .i64 x.who, .int .i64 x.seq, .int .i64 x.kind, .int .i64 x.nc, .int .i64 x.nw, .bool x.dir, .int .i64 x.pc, .int .i64 x.pw, .string x.name, .string x.man] 25)) hX.1
  have hb1 := hbx.trans (((Below.refl WX.heap.size WX).alloc (Nat.le_refl _) (.cells #[.int .i64 x.cnt, .int .i64 x.who, .int .i64 x.seq, .int .i64 x.kind, .int .i64 x.nc, .int .i64 x.nw, .bool x.dir, .int .i64 x.pc, .int .i64 x.pw, .string x.name, .string x.man] 25)).mono hbx.size)
  have HD := Lib.hid fun (d : ByteArray) W (h : d.size ≤ 100000) => decode_any d W h
  have HE := Lib.hid fun (y : Opr) W (h : y.name.size ≤ 100000 ∧ y.man.size ≤ 100000) => encode_any y W h.1 h.2
  have HRT := Lib.hid fun W (h : x.name.size ≤ 100000 ∧ x.man.size ≤ 100000) => oright_any x W h.1 h.2
  have x0 := hX.2.2 0 _ rfl
  have x1 := hX.2.2 1 _ rfl
  have x2 := hX.2.2 2 _ rfl
  have x3 := hX.2.2 3 _ rfl
  have x4 := hX.2.2 4 _ rfl
  have x5 := hX.2.2 5 _ rfl
  have x6 := hX.2.2 6 _ rfl
  have x7 := hX.2.2 7 _ rfl
  have x8 := hX.2.2 8 _ rfl
  have x9 := hX.2.2 9 _ rfl
  have x10 := hX.2.2 10 _ rfl
  obtain ⟨bg, hbg⟩ : ∃ bg, bigO x = bg := ⟨_, rfl⟩
  rw [hbg] at HF
  cases bg with
  | true =>
    clear hbg
    go_enter Tryd.func11, Tryd.ntmps11
    go_wp2_with fail
    rw [← hWX]
    refine HF.out.mono ?_
    rintro e w1 ⟨rfl, rfl⟩
    rw [← hW1]
    rw [← hW1] at hb1
    clear hWX hW1 hX1 x0 x1 x2 x3 x4 x5 x6 x7 x8 x9 x10
    have hB := hb1
    by_cases hbig : 10000 < d.size
    · go_wp2_with fail
      refine (HA.out _).mono ?_
      rintro e w9 ⟨rfl, hb9⟩
      go_wp2_with fail
      go_ret
      exact ⟨rfl, hB.trans (hb9.mono hB.size)⟩
    · have HDd := Lib.hid fun W => HD.out d W (by omega)
      obtain ⟨y, er, hdec⟩ := pair_of (decO d.data.toList)
      rw [hdec] at HDd
      by_cases her : er = 0
      · subst her
        have hed := enc_dec hdec
        have hsz : y.name.size ≤ 100000 ∧ y.man.size ≤ 100000 := by
          have h1 := readO_name d.data.toList
          have h2 := readO_man d.data.toList
          have h3 : y = readO d.data.toList := by
            unfold decO at hdec
            split at hdec
            · rename_i hq
              simp only [Prod.mk.injEq] at hdec
              exact absurd hdec.2 hq
            · split at hdec
              · simp at hdec
              · simp only [Prod.mk.injEq] at hdec
                exact hdec.1.symm
          rw [← size_eq] at h1 h2
          rw [h3]
          omega
        have HEy := Lib.hid fun W => HE.out y W hsz
        have heb : encB y = d := by
          unfold encB
          rw [if_pos hed.1, hed.2, ba_self]
        rw [heb, hed.1] at HEy
        clear hdec hed heb hsz
        go_wp2_with fail
        refine (HDd.out _).mono ?_
        rintro e w6 ⟨rfl, hb6⟩
        dsimp only
        have hY := box_VarAt w6 y
        have hB6 := (hB.trans (hb6.mono hB.size)).alloc (hB.trans (hb6.mono hB.size)).size (.cells #[.int .i64 y.cnt, .int .i64 y.who, .int .i64 y.seq, .int .i64 y.kind, .int .i64 y.nc, .int .i64 y.nw, .bool y.dir, .int .i64 y.pc, .int .i64 y.pw, .string y.name, .string y.man] 25)
        have y0 := hY.2.2 0 _ rfl
        have y1 := hY.2.2 1 _ rfl
        have y2 := hY.2.2 2 _ rfl
        have y3 := hY.2.2 3 _ rfl
        have y4 := hY.2.2 4 _ rfl
        have y5 := hY.2.2 5 _ rfl
        have y6 := hY.2.2 6 _ rfl
        have y7 := hY.2.2 7 _ rfl
        have y8 := hY.2.2 8 _ rfl
        have y9 := hY.2.2 9 _ rfl
        have y10 := hY.2.2 10 _ rfl
        go_wp2_with fail
        refine (HEy.out _).mono ?_
        rintro e w7 ⟨rfl, hb7⟩
        have hB7 := hB6.trans (hb7.mono hB6.size)
        go_wp2_with fail
        refine (HA.out _).mono ?_
        rintro e w9 ⟨rfl, hb9⟩
        go_wp2_with fail
        go_ret
        exact ⟨rfl, hB7.trans (hb9.mono hB7.size)⟩
      · obtain rfl := dec_none hdec her
        have e1 : (er != 0) = true := by rw [bne_iff_ne]; exact her
        have heq := eqlOpr noOpr noOpr
        rw [decide_eq_true rfl] at heq
        dsimp only [noOpr] at heq HDd
        clear hdec
        go_wp2_with fail
        refine (HDd.out _).mono ?_
        rintro e w6 ⟨rfl, hb6⟩
        have hB6 := (hB.trans (hb6.mono hB.size)).alloc (hB.trans (hb6.mono hB.size)).size (.cells #[.int .i64 noOpr.cnt, .int .i64 noOpr.who, .int .i64 noOpr.seq, .int .i64 noOpr.kind, .int .i64 noOpr.nc, .int .i64 noOpr.nw, .bool noOpr.dir, .int .i64 noOpr.pc, .int .i64 noOpr.pw, .string noOpr.name, .string noOpr.man] 25)
        go_wp2_with fail
        refine (HA.out _).mono ?_
        rintro e w9 ⟨rfl, hb9⟩
        go_wp2_with fail
        go_ret
        exact ⟨rfl, hB6.trans (hb9.mono hB6.size)⟩
  | false =>
    have hsz := bigO_not'' hbg
    have hel := encL_len x hsz.1 hsz.2
    have HEx := Lib.hid fun W => HE.out x W ⟨by omega, by omega⟩
    have HRx := Lib.hid fun W => HRT.out W ⟨by omega, by omega⟩
    clear hbg
    by_cases hr : rightO x = 0
    · have heb : encB x = ⟨(encL x).toArray⟩ := by unfold encB; rw [if_pos hr]
      have hde := dec_enc hr (by omega) (by omega)
      have HDx := Lib.hid fun W => HD.out ⟨(encL x).toArray⟩ W (by rw [size_eq]; exact Nat.le_trans hel (by omega))
      rw [show (⟨(encL x).toArray⟩ : ByteArray).data.toList = encL x from rfl, hde] at HDx
      dsimp only at HDx
      rw [heb, hr] at HEx
      have heq := neqOpr x x
      rw [decide_eq_true rfl] at heq
      clear heb hde hsz hel hr HRx
      generalize (⟨(encL x).toArray⟩ : ByteArray) = eb at *
      go_enter Tryd.func11, Tryd.ntmps11
      go_wp2_with fail
      rw [← hWX]
      refine HF.out.mono ?_
      rintro e w1 ⟨rfl, rfl⟩
      rw [← hW1]
      rw [← hW1] at hb1 hX1
      clear hWX hW1 x0 x1 x2 x3 x4 x5 x6 x7 x8 x9 x10
      have x0 := hX1.2.2 0 _ rfl
      have x1 := hX1.2.2 1 _ rfl
      have x2 := hX1.2.2 2 _ rfl
      have x3 := hX1.2.2 3 _ rfl
      have x4 := hX1.2.2 4 _ rfl
      have x5 := hX1.2.2 5 _ rfl
      have x6 := hX1.2.2 6 _ rfl
      have x7 := hX1.2.2 7 _ rfl
      have x8 := hX1.2.2 8 _ rfl
      have x9 := hX1.2.2 9 _ rfl
      have x10 := hX1.2.2 10 _ rfl
      go_wp2_with fail
      refine (HEx.out _).mono ?_
      rintro e w2 ⟨rfl, hb2⟩
      have hX2 := hX1.keeps hb2 hX1.1
      have hB2 := hb1.trans (hb2.mono hb1.size)
      clear x0 x1 x2 x3 x4 x5 x6 x7 x8 x9 x10
      go_wp2_with fail
      refine (HDx.out _).mono ?_
      rintro e w3 ⟨rfl, hb3⟩
      have hX3 := hX2.keeps hb3 hX2.1
      have hB3 := hB2.trans (hb3.mono hB2.size)
      have hX4 := hX3.keeps ((Below.refl _ _).alloc (Nat.le_refl _) (.cells #[.int .i64 x.cnt, .int .i64 x.who, .int .i64 x.seq, .int .i64 x.kind, .int .i64 x.nc, .int .i64 x.nw, .bool x.dir, .int .i64 x.pc, .int .i64 x.pw, .string x.name, .string x.man] 25)) hX3.1
      have hB := hB3.alloc hB3.size (.cells #[.int .i64 x.cnt, .int .i64 x.who, .int .i64 x.seq, .int .i64 x.kind, .int .i64 x.nc, .int .i64 x.nw, .bool x.dir, .int .i64 x.pc, .int .i64 x.pw, .string x.name, .string x.man] 25)
      have hlt3 := hX3.1
      have x0 := hX3.2.2 0 _ rfl
      have x1 := hX3.2.2 1 _ rfl
      have x2 := hX3.2.2 2 _ rfl
      have x3 := hX3.2.2 3 _ rfl
      have x4 := hX3.2.2 4 _ rfl
      have x5 := hX3.2.2 5 _ rfl
      have x6 := hX3.2.2 6 _ rfl
      have x7 := hX3.2.2 7 _ rfl
      have x8 := hX3.2.2 8 _ rfl
      have x9 := hX3.2.2 9 _ rfl
      have x10 := hX3.2.2 10 _ rfl
      have z0 := hX4.2.2 0 _ rfl
      have z1 := hX4.2.2 1 _ rfl
      have z2 := hX4.2.2 2 _ rfl
      have z3 := hX4.2.2 3 _ rfl
      have z4 := hX4.2.2 4 _ rfl
      have z5 := hX4.2.2 5 _ rfl
      have z6 := hX4.2.2 6 _ rfl
      have z7 := hX4.2.2 7 _ rfl
      have z8 := hX4.2.2 8 _ rfl
      have z9 := hX4.2.2 9 _ rfl
      have z10 := hX4.2.2 10 _ rfl
      by_cases hbig : 10000 < d.size
      · go_wp2_with fail
        refine (HA.out _).mono ?_
        rintro e w9 ⟨rfl, hb9⟩
        go_wp2_with fail
        go_ret
        exact ⟨rfl, hB.trans (hb9.mono hB.size)⟩
      · have HDd := Lib.hid fun W => HD.out d W (by omega)
        obtain ⟨y, er, hdec⟩ := pair_of (decO d.data.toList)
        rw [hdec] at HDd
        by_cases her : er = 0
        · subst her
          have hed := enc_dec hdec
          have hsz : y.name.size ≤ 100000 ∧ y.man.size ≤ 100000 := by
            have h1 := readO_name d.data.toList
            have h2 := readO_man d.data.toList
            have h3 : y = readO d.data.toList := by
              unfold decO at hdec
              split at hdec
              · rename_i hq
                simp only [Prod.mk.injEq] at hdec
                exact absurd hdec.2 hq
              · split at hdec
                · simp at hdec
                · simp only [Prod.mk.injEq] at hdec
                  exact hdec.1.symm
            rw [← size_eq] at h1 h2
            rw [h3]
            omega
          have HEy := Lib.hid fun W => HE.out y W hsz
          have heb : encB y = d := by
            unfold encB
            rw [if_pos hed.1, hed.2, ba_self]
          rw [heb, hed.1] at HEy
          clear hdec hed heb hsz
          go_wp2_with fail
          refine (HDd.out _).mono ?_
          rintro e w6 ⟨rfl, hb6⟩
          dsimp only
          have hY := box_VarAt w6 y
          have hB6 := (hB.trans (hb6.mono hB.size)).alloc (hB.trans (hb6.mono hB.size)).size (.cells #[.int .i64 y.cnt, .int .i64 y.who, .int .i64 y.seq, .int .i64 y.kind, .int .i64 y.nc, .int .i64 y.nw, .bool y.dir, .int .i64 y.pc, .int .i64 y.pw, .string y.name, .string y.man] 25)
          have y0 := hY.2.2 0 _ rfl
          have y1 := hY.2.2 1 _ rfl
          have y2 := hY.2.2 2 _ rfl
          have y3 := hY.2.2 3 _ rfl
          have y4 := hY.2.2 4 _ rfl
          have y5 := hY.2.2 5 _ rfl
          have y6 := hY.2.2 6 _ rfl
          have y7 := hY.2.2 7 _ rfl
          have y8 := hY.2.2 8 _ rfl
          have y9 := hY.2.2 9 _ rfl
          have y10 := hY.2.2 10 _ rfl
          go_wp2_with fail
          refine (HEy.out _).mono ?_
          rintro e w7 ⟨rfl, hb7⟩
          have hB7 := hB6.trans (hb7.mono hB6.size)
          go_wp2_with fail
          refine (HA.out _).mono ?_
          rintro e w9 ⟨rfl, hb9⟩
          go_wp2_with fail
          go_ret
          exact ⟨rfl, hB7.trans (hb9.mono hB7.size)⟩
        · obtain rfl := dec_none hdec her
          have e1 : (er != 0) = true := by rw [bne_iff_ne]; exact her
          have heq := eqlOpr noOpr noOpr
          rw [decide_eq_true rfl] at heq
          dsimp only [noOpr] at heq HDd
          clear hdec
          go_wp2_with fail
          refine (HDd.out _).mono ?_
          rintro e w6 ⟨rfl, hb6⟩
          have hB6 := (hB.trans (hb6.mono hB.size)).alloc (hB.trans (hb6.mono hB.size)).size (.cells #[.int .i64 noOpr.cnt, .int .i64 noOpr.who, .int .i64 noOpr.seq, .int .i64 noOpr.kind, .int .i64 noOpr.nc, .int .i64 noOpr.nw, .bool noOpr.dir, .int .i64 noOpr.pc, .int .i64 noOpr.pw, .string noOpr.name, .string noOpr.man] 25)
          go_wp2_with fail
          refine (HA.out _).mono ?_
          rintro e w9 ⟨rfl, hb9⟩
          go_wp2_with fail
          go_ret
          exact ⟨rfl, hB6.trans (hb9.mono hB6.size)⟩
    · have heb : encB x = ⟨#[]⟩ := by unfold encB; rw [if_neg hr]
      have HDx := Lib.hid fun W => HD.out ⟨#[]⟩ W (by decide)
      rw [show (⟨#[]⟩ : ByteArray).data.toList = [] from rfl, decE] at HDx
      dsimp only [noOpr] at HDx
      rw [heb] at HEx
      generalize rightO x = ro at *
      have e1 : (ro == 0) = false := by rw [beq_eq_false_iff_ne]; exact hr
      have e2 : (ro != 0) = true := by rw [bne_iff_ne]; exact hr
      clear heb hsz hel hr
      go_enter Tryd.func11, Tryd.ntmps11
      go_wp2_with fail
      rw [← hWX]
      refine HF.out.mono ?_
      rintro e w1 ⟨rfl, rfl⟩
      rw [← hW1]
      rw [← hW1] at hb1 hX1
      clear hWX hW1 x0 x1 x2 x3 x4 x5 x6 x7 x8 x9 x10
      have x0 := hX1.2.2 0 _ rfl
      have x1 := hX1.2.2 1 _ rfl
      have x2 := hX1.2.2 2 _ rfl
      have x3 := hX1.2.2 3 _ rfl
      have x4 := hX1.2.2 4 _ rfl
      have x5 := hX1.2.2 5 _ rfl
      have x6 := hX1.2.2 6 _ rfl
      have x7 := hX1.2.2 7 _ rfl
      have x8 := hX1.2.2 8 _ rfl
      have x9 := hX1.2.2 9 _ rfl
      have x10 := hX1.2.2 10 _ rfl
      go_wp2_with fail
      refine (HEx.out _).mono ?_
      rintro e w2 ⟨rfl, hb2⟩
      have hX2 := hX1.keeps hb2 hX1.1
      have hB2 := hb1.trans (hb2.mono hb1.size)
      clear x0 x1 x2 x3 x4 x5 x6 x7 x8 x9 x10
      go_wp2_with fail
      refine (HDx.out _).mono ?_
      rintro e w3 ⟨rfl, hb3⟩
      have hX3 := hX2.keeps hb3 hX2.1
      have hB3 := hB2.trans (hb3.mono hB2.size)
      have hX4 := hX3.keeps ((Below.refl _ _).alloc (Nat.le_refl _) (.cells #[.int .i64 noOpr.cnt, .int .i64 noOpr.who, .int .i64 noOpr.seq, .int .i64 noOpr.kind, .int .i64 noOpr.nc, .int .i64 noOpr.nw, .bool noOpr.dir, .int .i64 noOpr.pc, .int .i64 noOpr.pw, .string noOpr.name, .string noOpr.man] 25)) hX3.1
      have hB4 := hB3.alloc hB3.size (.cells #[.int .i64 noOpr.cnt, .int .i64 noOpr.who, .int .i64 noOpr.seq, .int .i64 noOpr.kind, .int .i64 noOpr.nc, .int .i64 noOpr.nw, .bool noOpr.dir, .int .i64 noOpr.pc, .int .i64 noOpr.pw, .string noOpr.name, .string noOpr.man] 25)
      have hlt3 := hX3.1
      dsimp only [noOpr] at hX4 hB4
      have x0 := hX3.2.2 0 _ rfl
      have x1 := hX3.2.2 1 _ rfl
      have x2 := hX3.2.2 2 _ rfl
      have x3 := hX3.2.2 3 _ rfl
      have x4 := hX3.2.2 4 _ rfl
      have x5 := hX3.2.2 5 _ rfl
      have x6 := hX3.2.2 6 _ rfl
      have x7 := hX3.2.2 7 _ rfl
      have x8 := hX3.2.2 8 _ rfl
      have x9 := hX3.2.2 9 _ rfl
      have x10 := hX3.2.2 10 _ rfl
      have z0 := hX4.2.2 0 _ rfl
      have z1 := hX4.2.2 1 _ rfl
      have z2 := hX4.2.2 2 _ rfl
      have z3 := hX4.2.2 3 _ rfl
      have z4 := hX4.2.2 4 _ rfl
      have z5 := hX4.2.2 5 _ rfl
      have z6 := hX4.2.2 6 _ rfl
      have z7 := hX4.2.2 7 _ rfl
      have z8 := hX4.2.2 8 _ rfl
      have z9 := hX4.2.2 9 _ rfl
      have z10 := hX4.2.2 10 _ rfl
      go_wp2_with fail
      refine (HRx.out _).mono ?_
      rintro e w5 ⟨rfl, hb5⟩
      have hB := hB4.trans (hb5.mono hB4.size)
      clear x0 x1 x2 x3 x4 x5 x6 x7 x8 x9 x10
      clear z0 z1 z2 z3 z4 z5 z6 z7 z8 z9 z10
      by_cases hbig : 10000 < d.size
      · go_wp2_with fail
        refine (HA.out _).mono ?_
        rintro e w9 ⟨rfl, hb9⟩
        go_wp2_with fail
        go_ret
        exact ⟨rfl, hB.trans (hb9.mono hB.size)⟩
      · have HDd := Lib.hid fun W => HD.out d W (by omega)
        obtain ⟨y, er, hdec⟩ := pair_of (decO d.data.toList)
        rw [hdec] at HDd
        by_cases her : er = 0
        · subst her
          have hed := enc_dec hdec
          have hsz : y.name.size ≤ 100000 ∧ y.man.size ≤ 100000 := by
            have h1 := readO_name d.data.toList
            have h2 := readO_man d.data.toList
            have h3 : y = readO d.data.toList := by
              unfold decO at hdec
              split at hdec
              · rename_i hq
                simp only [Prod.mk.injEq] at hdec
                exact absurd hdec.2 hq
              · split at hdec
                · simp at hdec
                · simp only [Prod.mk.injEq] at hdec
                  exact hdec.1.symm
            rw [← size_eq] at h1 h2
            rw [h3]
            omega
          have HEy := Lib.hid fun W => HE.out y W hsz
          have heb : encB y = d := by
            unfold encB
            rw [if_pos hed.1, hed.2, ba_self]
          rw [heb, hed.1] at HEy
          clear hdec hed heb hsz
          go_wp2_with fail
          refine (HDd.out _).mono ?_
          rintro e w6 ⟨rfl, hb6⟩
          dsimp only
          have hY := box_VarAt w6 y
          have hB6 := (hB.trans (hb6.mono hB.size)).alloc (hB.trans (hb6.mono hB.size)).size (.cells #[.int .i64 y.cnt, .int .i64 y.who, .int .i64 y.seq, .int .i64 y.kind, .int .i64 y.nc, .int .i64 y.nw, .bool y.dir, .int .i64 y.pc, .int .i64 y.pw, .string y.name, .string y.man] 25)
          have y0 := hY.2.2 0 _ rfl
          have y1 := hY.2.2 1 _ rfl
          have y2 := hY.2.2 2 _ rfl
          have y3 := hY.2.2 3 _ rfl
          have y4 := hY.2.2 4 _ rfl
          have y5 := hY.2.2 5 _ rfl
          have y6 := hY.2.2 6 _ rfl
          have y7 := hY.2.2 7 _ rfl
          have y8 := hY.2.2 8 _ rfl
          have y9 := hY.2.2 9 _ rfl
          have y10 := hY.2.2 10 _ rfl
          go_wp2_with fail
          refine (HEy.out _).mono ?_
          rintro e w7 ⟨rfl, hb7⟩
          have hB7 := hB6.trans (hb7.mono hB6.size)
          go_wp2_with fail
          refine (HA.out _).mono ?_
          rintro e w9 ⟨rfl, hb9⟩
          go_wp2_with fail
          go_ret
          exact ⟨rfl, hB7.trans (hb9.mono hB7.size)⟩
        · obtain rfl := dec_none hdec her
          have e1 : (er != 0) = true := by rw [bne_iff_ne]; exact her
          have heq := eqlOpr noOpr noOpr
          rw [decide_eq_true rfl] at heq
          dsimp only [noOpr] at heq HDd
          clear hdec
          go_wp2_with fail
          refine (HDd.out _).mono ?_
          rintro e w6 ⟨rfl, hb6⟩
          have hB6 := (hB.trans (hb6.mono hB.size)).alloc (hB.trans (hb6.mono hB.size)).size (.cells #[.int .i64 noOpr.cnt, .int .i64 noOpr.who, .int .i64 noOpr.seq, .int .i64 noOpr.kind, .int .i64 noOpr.nc, .int .i64 noOpr.nw, .bool noOpr.dir, .int .i64 noOpr.pc, .int .i64 noOpr.pw, .string noOpr.name, .string noOpr.man] 25)
          go_wp2_with fail
          refine (HA.out _).mono ?_
          rintro e w9 ⟨rfl, hb9⟩
          go_wp2_with fail
          go_ret
          exact ⟨rfl, hB6.trans (hb9.mono hB6.size)⟩
end Go.Proofs.YtifpdejgkofnaaaDoor
