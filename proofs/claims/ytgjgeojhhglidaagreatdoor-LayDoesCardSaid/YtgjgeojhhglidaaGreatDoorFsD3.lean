/-
  LayDoes.
-/
import Derived.Test.YtgjgeojhhglidaaGreatDoorFsD
import Derived.Test.YtgjgeojhhglidaaGreatDoorLayW8
import Derived.Test.YtgjgeojhhglidaaGreatDoorFsArgs
namespace Go.Proofs.YtgjgeojhhglidaaGreatDoor
open Go Go.RowKit Go.Lib

theorem do_ok : ∀ {f : Fs}, FsOK f → ∀ l : List Act3, FsOK (doF f l).1
  | f, h, [] => h
  | f, h, x :: l => by
    show FsOK (if (actF f x).2 = 0 then doF (actF f x).1 l else actF f x).1
    split
    · exact do_ok (ok_act h x) l
    · exact ok_act h x
set_option maxRecDepth 100000 in
set_option maxHeartbeats 6400000 in
theorem law_layDoes (a : Option Addr) (cap : Nat) (xs : List Ask) (a2 : Option Addr) (cap2 : Nat) (ys : List Act3) (w : World) (_ : xs.length ≤ 140737488351232) (ha : RowsAt askLay w a xs) (_ : ys.length ≤ 140737488351232) (hb2 : RowsAt act3Lay w a2 ys) (hm : MaxAt w) :
    Calls Tryz.prog 3 #[.slice a xs.length cap, .slice a2 ys.length cap2] w fun e w' => e = .returned (.bool true) ∧ Below w.heap.size w w' := by
  have HN := Lib.hid (fnew_any w)
  have HAW := Lib.hid fun W => awake21_any W
  have HA := Lib.hid ha
  have HB := Lib.hid hb2
  obtain ⟨i0, hi, hz0, hz1, hz2⟩ := info_parts actInfo'
  have Hi := Lib.hid hi
  have Hz0 := Lib.hid hz0
  have Hz1 := Lib.hid hz1
  have Hz2 := Lib.hid hz2
  clear ha hb2 hi hz0 hz1 hz2
  by_cases hl1 : xs.length ≤ 60
  · have g1 : ¬ ((xs.length : Int) > 60) := by omega
    by_cases hl2 : ys.length ≤ 60
    · have g2 : ¬ ((ys.length : Int) > 60) := by omega
      go_enter Tryz.func3, Tryz.ntmps3
      go_wp2_with fail
      refine HN.out.mono ?_
      rintro e w1 ⟨rfl, hF1, hb1, hs1⟩
      obtain ⟨fb, hfb⟩ : ∃ fb, fb = w.heap.size + 1 := ⟨_, rfl⟩
      obtain ⟨mb, hmb⟩ : ∃ mb, mb = w.heap.size := ⟨_, rfl⟩
      obtain ⟨rb, hrb⟩ : ∃ rb, rb = w1.heap.size := ⟨_, rfl⟩
      rw [← hfb] at hF1 ⊢
      rw [← hmb] at hF1
      have hfw : w.heap.size ≤ fb := by omega
      have hmw : w.heap.size ≤ mb := by omega
      have hrw : w.heap.size ≤ rb := by omega
      have hfr : ¬ fb = rb := by omega
      have hmr : ¬ mb = rb := by omega
      have hal := (Below.refl w1.heap.size w1).alloc (Nat.le_refl _) (.cells #[.slice none 0 0, .int .i64 0] 30)
      have hF2 := hF1.below hal
      have hb2 := hb1.alloc hb1.size (.cells #[.slice none 0 0, .int .i64 0] 30)
      have hV2 := VarAt.new w1 #[.slice none 0 0, .int .i64 0] 30
      rw [← hrb] at hV2
      have Hrb := Lib.hid hrb
      clear hfb hmb hs1 HN hrb hal hF1 hb1
      have hR2 : RAt (w1.alloc (.cells #[.slice none 0 0, .int .i64 0] 30)) rb w.heap.size (.slice none 0 0) ⟨0, []⟩ := ⟨hV2, OwnRows.nil _ _ _ _, (fun e => nomatch e)⟩
      clear hV2
      go_wp2_with fail
      rw [← Hrb.out]
      generalize w1.alloc (.cells #[.slice none 0 0, .int .i64 0] 30) = W1 at *
      go_loopw [7, 8] (fun i _ wr => ∃ (k : Nat) (f : Fs) (mb : Nat) (v : Value), k ≤ xs.length ∧ i = .int .i64 k ∧ f.n ≤ k ∧ FAt wr fb mb f ∧ RAt wr rb w.heap.size v f ∧ Hid (FsOK f ∧ IdsOK f) ∧ w.heap.size ≤ mb ∧ ¬ mb = rb ∧ ¬ v.ownBlock = some fb ∧ ¬ v.ownBlock = some mb ∧ Below w.heap.size w wr) (fun i _ _ => xs.length - (RowKit.intOf i).toNat)
      case atStart => exact ⟨0, ⟨0, []⟩, mb, .slice none 0 0, Nat.zero_le _, rfl, Nat.zero_le _, hF2, hR2, Lib.hid ⟨ok_new, ids_new⟩, hmw, hmr, (fun e => nomatch e), (fun e => nomatch e), hb2⟩
      case round =>
        clear hmw hF2 hb2 hR2 hmr mb
        obtain ⟨k, f, mb, v, hk, rfl, hnk, hF, hR, Hok0, hmw, hmr, hvf, hvm, hb⟩ := hrel
        by_cases hlt : k < xs.length
        · obtain ⟨x, hx⟩ := at_some hlt
          obtain ⟨b, off, rfl, hbl, c0, c1, c2, c3⟩ := ask_at (HA.out.keeps hb) hx
          have hlti : (k : Int) < (xs.length : Int) := by omega
          have Hok := Lib.hid Hok0.out.1
          have Hst := Lib.hid (step_op Hok0.out.2 x)
          have Hok2 := Lib.hid (ok_op Hok.out x)
          have hopn := op_n Hok0.out.2 x
          have HDo := Lib.hid fun W hF hp ht hM => fdo_any fb mb f x W hF Hok.out (by omega) hp ht hM
          obtain ⟨r, hr⟩ : ∃ r, opF f x = r := ⟨_, rfl⟩
          rw [hr] at Hst Hok2 HDo hopn
          obtain ⟨f', er⟩ := r
          obtain ⟨xk, xp, xt, xd⟩ := x
          dsimp only at c0 c1 c2 c3 HDo hopn
          clear hx
          have hal := (Below.refl wr.heap.size wr).alloc (Nat.le_refl _) (.cells #[.int .i64 xk, .string xp, .string xt, .string xd] 32)
          have hF3 := hF.below hal
          have hR3 := hR.below hal
          have hb3w := hb.alloc hb.size (.cells #[.int .i64 xk, .string xp, .string xt, .string xd] 32)
          have hX3 := VarAt.new wr #[.int .i64 xk, .string xp, .string xt, .string xd] 32
          obtain ⟨xb, hxb⟩ : ∃ xb, xb = wr.heap.size := ⟨_, rfl⟩
          have hvlow : ∀ j, v.ownBlock = some j → w.heap.size ≤ j ∧ j < xb := fun j hj => by rw [hxb]; exact hR.rows.lt hj
          have hfx : fb < xb := by rw [hxb]; exact hF.1.1
          have hmx : mb < xb := by rw [hxb]; exact hF.2.lt
          have hrx : rb < xb := by rw [hxb]; exact hR.var.1
          rw [← hxb] at hX3
          have Hxb := Lib.hid hxb
          clear hxb hal hF hR hb
          go_upto_region 9 with fail
          rw [← Hxb.out]
          generalize wr.alloc (.cells #[.int .i64 xk, .string xp, .string xt, .string xd] 32) = w3 at *
          have y0 : w3.cell? ⟨xb, 0, none⟩ = some (.int .i64 xk) := hX3.2.2 0 _ rfl
          have y1 : w3.cell? ⟨xb, 1, none⟩ = some (.string xp) := hX3.2.2 1 _ rfl
          have y2 : w3.cell? ⟨xb, 2, none⟩ = some (.string xt) := hX3.2.2 2 _ rfl
          have y3 : w3.cell? ⟨xb, 3, none⟩ = some (.string xd) := hX3.2.2 3 _ rfl
          clear c0 c1 c2 c3
          by_cases hp1 : xp.size ≤ 300
          · have g3 : ¬ ((xp.size : Int) > 300) := by omega
            by_cases hp2 : xt.size ≤ 300
            · have g4 : ¬ ((xt.size : Int) > 300) := by omega
              by_cases hp3 : xd.size ≤ 5000
              · have g5 : ¬ ((xd.size : Int) > 5000) := by omega
                by_cases h0 : xk = 0
                · have hop := op_0 (x := ⟨xk, xp, xt, xd⟩) h0 (f := f)
                  rw [hr] at hop
                  have HC := fun W hR hbs => rmkdir_any rb w.heap.size v f xp W hR Hok.out (by omega) (by omega) hbs
                  dsimp only at hop
                  rw [← hop] at HC
                  replace HC := Lib.hid HC
                  subst h0
                  clear hop hr
                  go_wp2_with fail
                  refine (HDo.out _ hF3 (by omega) (by omega) (hm.keeps hb3w)).mono ?_
                  rintro e w4 ⟨rfl, mb', hF4, hmb', ht4⟩
                  have hz4 := ht4.size
                  have hb4w := hb3w.trans (ht4.below hb3w.size (fun j hj e => by rcases e with rfl | rfl <;> omega))
                  have hR4 := hR3.turned ht4 (fun e : rb = fb ∨ rb = mb => e.elim (fun e => hfr e.symm) (fun e => hmr e.symm)) (fun k hk (e : k = fb ∨ k = mb) => e.elim (fun e => hvf (by rw [hk, e])) (fun e => hvm (by rw [hk, e])))
                  have hX4 : VarAt w4 xb _ := hX3.same (ht4.block xb hX3.1 (fun e => by rcases e with e | e <;> omega)) hz4
                  have hmw4 : w.heap.size ≤ mb' := by
                    rcases hmb' with rfl | h1
                    · exact hmw
                    · exact Nat.le_trans hb3w.size h1
                  have hmr4 : ¬ mb' = rb := by
                    rcases hmb' with rfl | h1
                    · exact hmr
                    · have := hR3.var.1; omega
                  have hvm4 : ¬ v.ownBlock = some mb' := by
                    rcases hmb' with rfl | h1
                    · exact hvm
                    · exact fun e => by have := (hvlow mb' e).2; have := hX3.1; omega
                  have x0 : w4.cell? ⟨xb, 0, none⟩ = some (.int .i64 0) := hX4.2.2 0 _ rfl
                  have x1 : w4.cell? ⟨xb, 1, none⟩ = some (.string xp) := hX4.2.2 1 _ rfl
                  have x2 : w4.cell? ⟨xb, 2, none⟩ = some (.string xt) := hX4.2.2 2 _ rfl
                  have x3 : w4.cell? ⟨xb, 3, none⟩ = some (.string xd) := hX4.2.2 3 _ rfl
                  have hF4lt := hF4.2.lt
                  have hF4fb := hF4.1.1
                  clear HDo hF3 hR3 hX3 hb3w ht4 hmb' hvm hmr hmw
                  go_wp2_with fail
                  refine (HC.out _ hR4 hb4w.size).mono ?_
                  rintro e w5 ⟨rfl, v', hR5, hv', ht5⟩
                  have hz5 := ht5.size
                  have hF5 := hF4.turned ht5 (fun e : fb = rb ∨ v.ownBlock = some fb => e.elim hfr hvf) (fun e : mb' = rb ∨ v.ownBlock = some mb' => e.elim hmr4 hvm4)
                  have hb5w := hb4w.trans (ht5.below hb4w.size (fun j hj (e : j = rb ∨ v.ownBlock = some j) => e.elim (fun e => by omega) (fun e => by have := (hvlow j e).1; omega)))
                  have hvf' : ¬ v'.ownBlock = some fb := by
                    rcases hv' with rfl | h1
                    · exact hvf
                    · exact fun e => by have := h1 fb e; omega
                  have hvm' : ¬ v'.ownBlock = some mb' := by
                    rcases hv' with rfl | h1
                    · exact hvm4
                    · exact fun e => by have := h1 mb' e; omega
                  clear x0 x1 x2 x3
                  go_wp2_with fail
                  go_roundw
                  case rel => exact ⟨k + 1, f', mb', v', by omega, by go_num, by omega, hF5, hR5, Lib.hid ⟨Hok2.out, Hst.out.ids⟩, hmw4, hmr4, hvf', hvm', hb5w⟩
                  case measure => simp [RowKit.intOf]; omega
                have e0 := int_ne h0
                by_cases h1 : xk = 1
                · have hop := op_1 (x := ⟨xk, xp, xt, xd⟩) h1 (f := f)
                  rw [hr] at hop
                  have HC := fun W hR hbs => rwrite_any rb w.heap.size v f xp xd W hR Hok.out (by omega) (by omega) hbs
                  dsimp only at hop
                  rw [← hop] at HC
                  replace HC := Lib.hid HC
                  clear h0
                  subst h1
                  clear hop hr
                  go_wp2_with fail
                  refine (HDo.out _ hF3 (by omega) (by omega) (hm.keeps hb3w)).mono ?_
                  rintro e w4 ⟨rfl, mb', hF4, hmb', ht4⟩
                  have hz4 := ht4.size
                  have hb4w := hb3w.trans (ht4.below hb3w.size (fun j hj e => by rcases e with rfl | rfl <;> omega))
                  have hR4 := hR3.turned ht4 (fun e : rb = fb ∨ rb = mb => e.elim (fun e => hfr e.symm) (fun e => hmr e.symm)) (fun k hk (e : k = fb ∨ k = mb) => e.elim (fun e => hvf (by rw [hk, e])) (fun e => hvm (by rw [hk, e])))
                  have hX4 : VarAt w4 xb _ := hX3.same (ht4.block xb hX3.1 (fun e => by rcases e with e | e <;> omega)) hz4
                  have hmw4 : w.heap.size ≤ mb' := by
                    rcases hmb' with rfl | h1
                    · exact hmw
                    · exact Nat.le_trans hb3w.size h1
                  have hmr4 : ¬ mb' = rb := by
                    rcases hmb' with rfl | h1
                    · exact hmr
                    · have := hR3.var.1; omega
                  have hvm4 : ¬ v.ownBlock = some mb' := by
                    rcases hmb' with rfl | h1
                    · exact hvm
                    · exact fun e => by have := (hvlow mb' e).2; have := hX3.1; omega
                  have x0 : w4.cell? ⟨xb, 0, none⟩ = some (.int .i64 1) := hX4.2.2 0 _ rfl
                  have x1 : w4.cell? ⟨xb, 1, none⟩ = some (.string xp) := hX4.2.2 1 _ rfl
                  have x2 : w4.cell? ⟨xb, 2, none⟩ = some (.string xt) := hX4.2.2 2 _ rfl
                  have x3 : w4.cell? ⟨xb, 3, none⟩ = some (.string xd) := hX4.2.2 3 _ rfl
                  have hF4lt := hF4.2.lt
                  have hF4fb := hF4.1.1
                  clear HDo hF3 hR3 hX3 hb3w ht4 hmb' hvm hmr hmw
                  go_wp2_with fail
                  refine (HC.out _ hR4 hb4w.size).mono ?_
                  rintro e w5 ⟨rfl, v', hR5, hv', ht5⟩
                  have hz5 := ht5.size
                  have hF5 := hF4.turned ht5 (fun e : fb = rb ∨ v.ownBlock = some fb => e.elim hfr hvf) (fun e : mb' = rb ∨ v.ownBlock = some mb' => e.elim hmr4 hvm4)
                  have hb5w := hb4w.trans (ht5.below hb4w.size (fun j hj (e : j = rb ∨ v.ownBlock = some j) => e.elim (fun e => by omega) (fun e => by have := (hvlow j e).1; omega)))
                  have hvf' : ¬ v'.ownBlock = some fb := by
                    rcases hv' with rfl | h1
                    · exact hvf
                    · exact fun e => by have := h1 fb e; omega
                  have hvm' : ¬ v'.ownBlock = some mb' := by
                    rcases hv' with rfl | h1
                    · exact hvm4
                    · exact fun e => by have := h1 mb' e; omega
                  clear x0 x1 x2 x3
                  go_wp2_with fail
                  go_roundw
                  case rel => exact ⟨k + 1, f', mb', v', by omega, by go_num, by omega, hF5, hR5, Lib.hid ⟨Hok2.out, Hst.out.ids⟩, hmw4, hmr4, hvf', hvm', hb5w⟩
                  case measure => simp [RowKit.intOf]; omega
                have e1 := int_ne h1
                by_cases h2 : xk = 2
                · have hop := op_2 (x := ⟨xk, xp, xt, xd⟩) h2 (f := f)
                  rw [hr] at hop
                  have HC := fun W hR hbs => rrename_any rb w.heap.size v f xp xt W hR Hok.out (by omega) (by omega) hbs
                  dsimp only at hop
                  rw [← hop] at HC
                  replace HC := Lib.hid HC
                  clear h0 h1
                  subst h2
                  clear hop hr
                  go_wp2_with fail
                  refine (HDo.out _ hF3 (by omega) (by omega) (hm.keeps hb3w)).mono ?_
                  rintro e w4 ⟨rfl, mb', hF4, hmb', ht4⟩
                  have hz4 := ht4.size
                  have hb4w := hb3w.trans (ht4.below hb3w.size (fun j hj e => by rcases e with rfl | rfl <;> omega))
                  have hR4 := hR3.turned ht4 (fun e : rb = fb ∨ rb = mb => e.elim (fun e => hfr e.symm) (fun e => hmr e.symm)) (fun k hk (e : k = fb ∨ k = mb) => e.elim (fun e => hvf (by rw [hk, e])) (fun e => hvm (by rw [hk, e])))
                  have hX4 : VarAt w4 xb _ := hX3.same (ht4.block xb hX3.1 (fun e => by rcases e with e | e <;> omega)) hz4
                  have hmw4 : w.heap.size ≤ mb' := by
                    rcases hmb' with rfl | h1
                    · exact hmw
                    · exact Nat.le_trans hb3w.size h1
                  have hmr4 : ¬ mb' = rb := by
                    rcases hmb' with rfl | h1
                    · exact hmr
                    · have := hR3.var.1; omega
                  have hvm4 : ¬ v.ownBlock = some mb' := by
                    rcases hmb' with rfl | h1
                    · exact hvm
                    · exact fun e => by have := (hvlow mb' e).2; have := hX3.1; omega
                  have x0 : w4.cell? ⟨xb, 0, none⟩ = some (.int .i64 2) := hX4.2.2 0 _ rfl
                  have x1 : w4.cell? ⟨xb, 1, none⟩ = some (.string xp) := hX4.2.2 1 _ rfl
                  have x2 : w4.cell? ⟨xb, 2, none⟩ = some (.string xt) := hX4.2.2 2 _ rfl
                  have x3 : w4.cell? ⟨xb, 3, none⟩ = some (.string xd) := hX4.2.2 3 _ rfl
                  have hF4lt := hF4.2.lt
                  have hF4fb := hF4.1.1
                  clear HDo hF3 hR3 hX3 hb3w ht4 hmb' hvm hmr hmw
                  go_wp2_with fail
                  refine (HC.out _ hR4 hb4w.size).mono ?_
                  rintro e w5 ⟨rfl, v', hR5, hv', ht5⟩
                  have hz5 := ht5.size
                  have hF5 := hF4.turned ht5 (fun e : fb = rb ∨ v.ownBlock = some fb => e.elim hfr hvf) (fun e : mb' = rb ∨ v.ownBlock = some mb' => e.elim hmr4 hvm4)
                  have hb5w := hb4w.trans (ht5.below hb4w.size (fun j hj (e : j = rb ∨ v.ownBlock = some j) => e.elim (fun e => by omega) (fun e => by have := (hvlow j e).1; omega)))
                  have hvf' : ¬ v'.ownBlock = some fb := by
                    rcases hv' with rfl | h1
                    · exact hvf
                    · exact fun e => by have := h1 fb e; omega
                  have hvm' : ¬ v'.ownBlock = some mb' := by
                    rcases hv' with rfl | h1
                    · exact hvm4
                    · exact fun e => by have := h1 mb' e; omega
                  clear x0 x1 x2 x3
                  go_wp2_with fail
                  go_roundw
                  case rel => exact ⟨k + 1, f', mb', v', by omega, by go_num, by omega, hF5, hR5, Lib.hid ⟨Hok2.out, Hst.out.ids⟩, hmw4, hmr4, hvf', hvm', hb5w⟩
                  case measure => simp [RowKit.intOf]; omega
                have e2 := int_ne h2
                have hop := op_3 (x := ⟨xk, xp, xt, xd⟩) h0 h1 h2 (f := f)
                rw [hr] at hop
                have HC := fun W hR hbs => rremove_any rb w.heap.size v f xp W hR Hok.out (by omega) hbs
                dsimp only at hop
                rw [← hop] at HC
                replace HC := Lib.hid HC
                clear h0 h1 h2
                clear hop hr
                go_wp2_with fail
                refine (HDo.out _ hF3 (by omega) (by omega) (hm.keeps hb3w)).mono ?_
                rintro e w4 ⟨rfl, mb', hF4, hmb', ht4⟩
                have hz4 := ht4.size
                have hb4w := hb3w.trans (ht4.below hb3w.size (fun j hj e => by rcases e with rfl | rfl <;> omega))
                have hR4 := hR3.turned ht4 (fun e : rb = fb ∨ rb = mb => e.elim (fun e => hfr e.symm) (fun e => hmr e.symm)) (fun k hk (e : k = fb ∨ k = mb) => e.elim (fun e => hvf (by rw [hk, e])) (fun e => hvm (by rw [hk, e])))
                have hX4 : VarAt w4 xb _ := hX3.same (ht4.block xb hX3.1 (fun e => by rcases e with e | e <;> omega)) hz4
                have hmw4 : w.heap.size ≤ mb' := by
                  rcases hmb' with rfl | h1
                  · exact hmw
                  · exact Nat.le_trans hb3w.size h1
                have hmr4 : ¬ mb' = rb := by
                  rcases hmb' with rfl | h1
                  · exact hmr
                  · have := hR3.var.1; omega
                have hvm4 : ¬ v.ownBlock = some mb' := by
                  rcases hmb' with rfl | h1
                  · exact hvm
                  · exact fun e => by have := (hvlow mb' e).2; have := hX3.1; omega
                have x0 : w4.cell? ⟨xb, 0, none⟩ = some (.int .i64 xk) := hX4.2.2 0 _ rfl
                have x1 : w4.cell? ⟨xb, 1, none⟩ = some (.string xp) := hX4.2.2 1 _ rfl
                have x2 : w4.cell? ⟨xb, 2, none⟩ = some (.string xt) := hX4.2.2 2 _ rfl
                have x3 : w4.cell? ⟨xb, 3, none⟩ = some (.string xd) := hX4.2.2 3 _ rfl
                have hF4lt := hF4.2.lt
                have hF4fb := hF4.1.1
                clear HDo hF3 hR3 hX3 hb3w ht4 hmb' hvm hmr hmw
                go_wp2_with fail
                refine (HC.out _ hR4 hb4w.size).mono ?_
                rintro e w5 ⟨rfl, v', hR5, hv', ht5⟩
                have hz5 := ht5.size
                have hF5 := hF4.turned ht5 (fun e : fb = rb ∨ v.ownBlock = some fb => e.elim hfr hvf) (fun e : mb' = rb ∨ v.ownBlock = some mb' => e.elim hmr4 hvm4)
                have hb5w := hb4w.trans (ht5.below hb4w.size (fun j hj (e : j = rb ∨ v.ownBlock = some j) => e.elim (fun e => by omega) (fun e => by have := (hvlow j e).1; omega)))
                have hvf' : ¬ v'.ownBlock = some fb := by
                  rcases hv' with rfl | h1
                  · exact hvf
                  · exact fun e => by have := h1 fb e; omega
                have hvm' : ¬ v'.ownBlock = some mb' := by
                  rcases hv' with rfl | h1
                  · exact hvm4
                  · exact fun e => by have := h1 mb' e; omega
                clear x0 x1 x2 x3
                go_wp2_with fail
                go_roundw
                case rel => exact ⟨k + 1, f', mb', v', by omega, by go_num, by omega, hF5, hR5, Lib.hid ⟨Hok2.out, Hst.out.ids⟩, hmw4, hmr4, hvf', hvm', hb5w⟩
                case measure => simp [RowKit.intOf]; omega
              · have g5 : (xd.size : Int) > 5000 := by omega
                go_wp2_with fail
                refine (HAW.out _).mono ?_
                rintro e wq ⟨rfl, hbq⟩
                go_wp2_with fail
                go_ret
                exact ⟨rfl, hb3w.trans (hbq.mono hb3w.size)⟩
            · have g4 : (xt.size : Int) > 300 := by omega
              go_wp2_with fail
              refine (HAW.out _).mono ?_
              rintro e wq ⟨rfl, hbq⟩
              go_wp2_with fail
              go_ret
              exact ⟨rfl, hb3w.trans (hbq.mono hb3w.size)⟩
          · have g3 : (xp.size : Int) > 300 := by omega
            go_wp2_with fail
            refine (HAW.out _).mono ?_
            rintro e wq ⟨rfl, hbq⟩
            go_wp2_with fail
            go_ret
            exact ⟨rfl, hb3w.trans (hbq.mono hb3w.size)⟩
        · obtain rfl : k = xs.length := by omega
          obtain ⟨W9, hW9⟩ : ∃ W9, W9 = wr := ⟨_, rfl⟩
          rw [← hW9] at hF hR hb ⊢
          clear hW9 wr
          have HBk := Lib.hid fun W (h : Below W9.heap.size W9 W) => (show RowsAt act3Lay W a2 ys from (HB.out.keeps hb).keeps h)
          have hfn : f.n ≤ 60 := by omega
          clear hk hnk
          go_wp2_with fail
          go_loopw [9, 10] (fun u i wr => ∃ k : Nat, k ≤ ys.length ∧ i = .int .i64 k ∧ OwnRows act3Lay wr W9.heap.size 40 u (ys.take k) ∧ Hid (∀ x ∈ ys.take k, x.path.size ≤ 300) ∧ Below W9.heap.size W9 wr) (fun _ i _ => ys.length - (RowKit.intOf i).toNat)
          case atStart => exact ⟨0, Nat.zero_le _, rfl, OwnRows.nil _ _ _ _, Lib.hid (fun x hx => by rw [List.take_zero] at hx; cases hx), Below.refl _ _⟩
          case round =>
            obtain ⟨k, hk, rfl, ho, Hsm, hbk⟩ := hrel
            by_cases hlt : k < ys.length
            · obtain ⟨y, hy⟩ := at_some hlt
              obtain ⟨b, off, hae, hbl, c0, c1, c2⟩ := act3_at (HBk.out _ hbk) hy
              have Hst := Lib.hid (take_snoc hy)
              have hlen : (ys.take k).length ≤ 60 := by rw [List.length_take]; omega
              obtain ⟨yk, yp, yd⟩ := y
              dsimp only at c0 c1 c2
              subst hae
              have hlti : (k : Int) < (ys.length : Int) := by omega
              have hlti0 : (0 : Int) ≤ (k : Int) := by omega
              clear hy
              have hbw := hb.trans (hbk.mono hb.size)
              by_cases hp1 : yp.size ≤ 300
              · have g1 : ¬ ((yp.size : Int) > 300) := by omega
                by_cases hp2 : yd.size ≤ 5000
                · have g2 : ¬ ((yd.size : Int) > 5000) := by omega
                  have Hsm2 := Lib.hid (show ∀ x ∈ ys.take (k + 1), x.path.size ≤ 300 from fun x hx => by
                    rw [Hst.out] at hx
                    rcases List.mem_append.1 hx with hx | hx
                    · exact Hsm.out x hx
                    · rw [List.mem_singleton.1 hx]
                      exact hp1)
                  have hne : u9.ownBlock ≠ some b := fun e => by
                    have := (ho.lt e).1
                    obtain ⟨b', off', e', hbl', _⟩ := HB.out.keeps hb k ⟨yk, yp, yd⟩ (by
                      have := Hst.out
                      rw [List.take_add_one] at this
                      have h2 := List.append_cancel_left this
                      cases hq : ys[k]? with
                      | none => rw [hq] at h2; cases h2
                      | some z => rw [hq] at h2; cases h2; rfl)
                    cases e'
                    omega
                  have hsz := hbk.size
                  generalize ys.take k = acc at *
                  go_wp2_with fail
                  go_region_held3 (fun w' => w'.cell? ⟨b, off + k * 3, none⟩ = some (.int .i64 yk) ∧ w'.cell? ⟨b, off + k * 3 + 1, none⟩ = some (.string yp) ∧ w'.cell? ⟨b, off + k * 3 + 2, none⟩ = some (.string yd))
                    (first | go_keep | (go_split_ands; refine ⟨?_, ?_, ?_⟩ <;> (rw [hg4.cell_far _ (by simp; omega) (Ne.symm hne)]; assumption)))
                    ((refine step_append_rows _ (by rfl) _ _ 37 (by rfl) act3Lay W9.heap.size 40 i0 (.agg #[.int .i64 0, .string ⟨#[]⟩, .string ⟨#[]⟩]) 40 Tryz.underlying37 Hi.out Hz0.out Hz1.out Hz2.out rfl (by decide) _ _ (by rfl) ((ho.alloc _).drewN 1) ⟨wr.heap.size, 0, none⟩ 1 ⟨yk, yp, yd⟩ (by rfl) (World.news_of_block (cs := #[.int .i64 yk, .string yp, .string yd]) (t := 40) (fr := (0, 0)) (heap_alloc_new wr _)) (by unfold maxLen; omega) (by omega) (by have := hbk.size; simp; omega) ?_; intro va w4 ho4 hg4))
                  have hb4 : Below W9.heap.size W9 w4 := (belowDrew (hbk.alloc hbk.size (.cells #[.int .i64 yk, .string yp, .string yd] 40)) 1).grown hg4 (by have := hbk.size; simp; omega) (fun j ej => (ho.lt ej).1)
                  clear hg4 ho
                  go_wp2_with fail
                  go_roundw
                  case rel => exact ⟨k + 1, by omega, by go_num, by rw [Hst.out]; exact ho4, Hsm2, hb4⟩
                  case measure => simp [RowKit.intOf]; omega
                · have g2 : (yd.size : Int) > 5000 := by omega
                  go_wp2_with fail
                  refine (HAW.out _).mono ?_
                  rintro e wq ⟨rfl, hbq⟩
                  go_wp2_with fail
                  go_ret
                  exact ⟨rfl, hbw.trans (hbq.mono hbw.size)⟩
              · have g1 : (yp.size : Int) > 300 := by omega
                go_wp2_with fail
                refine (HAW.out _).mono ?_
                rintro e wq ⟨rfl, hbq⟩
                go_wp2_with fail
                go_ret
                exact ⟨rfl, hbw.trans (hbq.mono hbw.size)⟩
            · obtain rfl : k = ys.length := by omega
              rw [List.take_length] at ho
              have hsm : ∀ x ∈ ys, x.path.size ≤ 300 := by
                have h1 := Hsm.out
                rw [List.take_length] at h1
                exact h1
              have hbw : Below w.heap.size w wr.drew := belowDrew (hb.trans (hbk.mono hb.size)) 1
              have hfl := hF.1.1
              have hml := hF.2.lt
              have hrl := hR.var.1
              have hvl : ∀ j, v.ownBlock = some j → w.heap.size ≤ j ∧ j < W9.heap.size := fun j hj => hR.rows.lt hj
              obtain ⟨am, cm, rfl, hrm, hcm, hlm, hom⟩ := own_lowR ho
              have hFd : FAt wr.drew fb mb f := (hF.below hbk).below (belowDrew (Below.refl _ wr) 1)
              have hRd : RAt wr.drew rb w.heap.size v f := (hR.below hbk).below (belowDrew (Below.refl _ wr) 1)
              have hrmd : RowsAt act3Lay wr.drew am ys := hrm.keeps (belowDrew (Below.refl _ wr) 1)
              have HL1 := Lib.hid (lays_any fb mb f a2 cap2 ys wr.drew hFd Hok0.out.1 Hok0.out.2 (by omega) (by omega) (fun x hx => by have := hsm x hx; omega) (hm.keeps hbw) (HB.out.keeps hbw) (fun h0 ad e => by
                obtain ⟨b, off, e', hlt', _⟩ := HB.out 0 _ (List.getElem?_eq_getElem h0)
                rw [e] at e'
                cases e'
                dsimp only at hlt' ⊢
                rintro (e2 | e2) <;> omega) (by
                have := hm.lt
                rintro (e2 | e2) <;> omega))
              have HL2 := Lib.hid fun w1 (ht1 : Turned (FsS fb mb) wr.drew.heap.size wr.drew w1) => rlays_any rb w.heap.size v f am cm ys w1 (hRd.turned ht1 (fun e : rb = fb ∨ rb = mb => e.elim (fun e => hfr e.symm) (fun e => hmr e.symm)) (fun k hk (e : k = fb ∨ k = mb) => e.elim (fun e => hvf (by rw [hk, e])) (fun e => hvm (by rw [hk, e])))) Hok0.out.1 Hok0.out.2 (by omega) (by omega) (fun x hx => by have := hsm x hx; omega) (Nat.le_trans hbw.size ht1.size)
                (hrmd.turned2 ht1 (fun ad e _ (e2 : ad.block = fb ∨ ad.block = mb) => by have := (hlm ad e).1; omega)) (fun ad e => ⟨fun e2 => by have := (hlm ad e).1; omega, fun e2 => by have := (hlm ad e).1; have := (hvl _ e2).2; omega⟩) (fun ad e => Nat.lt_of_lt_of_le (hlm ad e).2 ht1.size)
              have Hok2 := Lib.hid (do_ok Hok0.out.1 ys)
              have hzz : wr.drew.heap.size = wr.heap.size := rfl
              have hbkz := hbk.size
              obtain ⟨r, hr⟩ : ∃ r, doF f ys = r := ⟨_, rfl⟩
              rw [hr] at HL1 HL2 Hok2
              obtain ⟨f', er⟩ := r
              dsimp only at HL1 HL2 Hok2
              have hqe : (er == er) = true := beq_self_eq_true er
              have hfew5 : f'.es.length ≤ 300 := Hok2.out.few
              have HLs := Lib.hid fun W (h : FAt W fb mb f') => flist_any fb mb f' W h Hok2.out.rise Hok2.out.few (fun y hy => path_size (Hok2.out.path y hy))
              have HF2 := Lib.hid fun (w1 w2 : World) (h : FAt w1 fb mb f') (ht : Turned (RS rb v) w1.heap.size w1 w2) => h.turned ht (fun e : fb = rb ∨ v.ownBlock = some fb => e.elim hfr hvf) (fun e : mb = rb ∨ v.ownBlock = some mb => e.elim hmr hvm)
              have hb1f := Lib.hid fun w1 (ht1 : Turned (FsS fb mb) wr.drew.heap.size wr.drew w1) => hbw.trans (ht1.below hbw.size (fun j hj (e : j = fb ∨ j = mb) => by omega))
              have hb2f := Lib.hid fun (w1 w2 : World) (hz : Below w.heap.size w w1) (ht : Turned (RS rb v) w1.heap.size w1 w2) => hz.trans (ht.below hz.size (fun j hj (e : j = rb ∨ v.ownBlock = some j) => e.elim (fun e => by omega) (fun e => by have := (hvl j e).1; omega)))
              clear hFd hRd hrmd hrm hlm hom ho hcm hr hF hR HA HB HBk Hsm hsm
              go_wp2_with fail
              go_region_law (first
                  | (go_simp; go_at_call 11; refine HL1.out.mono ?_; rintro e w1 ⟨rfl, hF1, ht1⟩; have hbz1 := hb1f.out w1 ht1)
                  | (go_simp; go_at_call 12; refine (HL2.out _ ht1).mono ?_; rintro e w2 ⟨rfl, v2, hR2, hv2, ht2⟩; have hF2 := HF2.out _ _ hF1 ht2; have hbz2 := hb2f.out _ _ hbz1 ht2; obtain ⟨av, cv, rfl, hrow2, hcv2, hlow2, hown2⟩ := own_lowR hR2.rows; have cr2 := hR2.var.2.2 0 _ rfl)
                  | (go_simp; go_at_call 14; refine (HLs.out _ hF2).mono ?_; rintro e w3 ⟨vl, rfl, hov, hb3⟩; obtain ⟨al, cl, rfl, hrl3, hcl⟩ := hov.read; have cr3 := (hb3.cell (p := ⟨rb, 0, none⟩) hR2.var.1).trans cr2)
                  | (go_simp; go_at_call 13; refine (esame_any al av cl cv f'.es f'.es _ (by omega) hrl3 (hrow2.keeps hb3)).mono ?_; rintro e w4 ⟨rfl, n4, rfl⟩)
                  | (go_simp; go_at_call 5; refine (HAW.out _).mono ?_; rintro e w5 ⟨rfl, hb5⟩))
              all_goals
                have h1 := hbz2.trans (hb3.mono hbz2.size)
                have h2 := belowDrew h1 n4
                have h3 := h2.trans (hb5.mono h2.size)
                go_wp2_with fail
                go_ret
                exact ⟨rfl, h3⟩
    · have g2 : (ys.length : Int) > 60 := by omega
      go_enter Tryz.func3, Tryz.ntmps3
      go_wp2_with fail
      refine HN.out.mono ?_
      rintro e w1 ⟨rfl, hF1, hb1, hs1⟩
      go_wp2_with fail
      refine (HAW.out _).mono ?_
      rintro e wq ⟨rfl, hbq⟩
      go_wp2_with fail
      go_ret
      exact ⟨rfl, hb1.trans (hbq.mono hb1.size)⟩
  · have g1 : (xs.length : Int) > 60 := by omega
    go_enter Tryz.func3, Tryz.ntmps3
    go_wp2_with fail
    refine HN.out.mono ?_
    rintro e w1 ⟨rfl, hF1, hb1, hs1⟩
    go_wp2_with fail
    refine (HAW.out _).mono ?_
    rintro e wq ⟨rfl, hbq⟩
    go_wp2_with fail
    go_ret
    exact ⟨rfl, hb1.trans (hbq.mono hb1.size)⟩
end Go.Proofs.YtgjgeojhhglidaaGreatDoor
