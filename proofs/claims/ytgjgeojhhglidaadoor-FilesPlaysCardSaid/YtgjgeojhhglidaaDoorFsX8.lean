/-
  FilesPlays.
-/
import Derived.Test.YtgjgeojhhglidaaDoorFsR6
import Derived.Deep.RegionHeld3
namespace Go.Proofs.YtgjgeojhhglidaaDoor
open Go Go.RowKit Go.Lib

theorem OwnRows.same_block {α : Type} {L : Lay α} {w w' : World} {base : Nat} {e : TypeId} {v : Value} {xs : List α} (h : OwnRows L w base e v xs) (hs : ∀ k, v.ownBlock = some k → k < w.heap.size → w'.heap[k]? = w.heap[k]?) : OwnRows L w' base e v xs := by
  refine ⟨h.1, ?_⟩
  rcases h.2 with hn | ⟨g, cap, cur, rfl, hg, hgg, rest⟩
  · exact .inl hn
  · refine .inr ⟨g, cap, cur, rfl, hg, ?_, rest⟩
    rw [hs g rfl (Array.getElem?_eq_some_iff.1 hgg).1]
    exact hgg
theorem RAt.turned {S : Nat → Prop} {w w' : World} {rb base : Nat} {v : Value} {f : Fs} (h : RAt w rb base v f) (ht : Turned S w.heap.size w w') (h1 : ¬ S rb) (h2 : ∀ k, v.ownBlock = some k → ¬ S k) : RAt w' rb base v f :=
  ⟨h.var.same (ht.block rb h.var.1 h1) ht.size, h.rows.same_block (fun k hk hlt => ht.block k hlt (h2 k hk)), h.ne⟩
theorem keepS {W W' W'' : World} (h : Below W.heap.size W W') (h2 : Below W'.heap.size W' W'') : Below W.heap.size W W'' := h.trans (h2.mono h.size)
set_option maxRecDepth 100000 in
set_option maxHeartbeats 6400000 in
theorem law_filesPlays (a : Option Addr) (cap : Nat) (xs : List Ask) (w : World) (_ : xs.length ≤ 140737488351232) (ha : RowsAt askLay w a xs) (hm : MaxAt w) :
    Calls Tryd.prog 3 #[.slice a xs.length cap] w fun e w' => e = .returned (.bool true) ∧ Below w.heap.size w w' := by
  have HN := Lib.hid (fnew_any w)
  have HAW := Lib.hid fun W hM => awake19_any W hM
  have HA := Lib.hid ha
  clear ha
  go_enter Tryd.func3, Tryd.ntmps3
  go_wp2_with fail
  refine HN.out.mono ?_
  rintro e w1 ⟨rfl, hF1, hb1, hs1⟩
  obtain ⟨fb, hfb⟩ : ∃ fb, fb = w.heap.size + 1 := ⟨_, rfl⟩
  obtain ⟨mb, hmb⟩ : ∃ mb, mb = w.heap.size := ⟨_, rfl⟩
  obtain ⟨rb, hrb⟩ : ∃ rb, rb = w1.heap.size := ⟨_, rfl⟩
  rw [← hfb] at hF1 ⊢
  rw [← hmb] at hF1
  have hfw : w.heap.size ≤ fb := by omega
  have hmw : w.heap.size ≤ mb := by omega
  have hrw : w.heap.size ≤ rb := by omega
  have hfr : ¬ fb = rb := by omega
  have hmr : ¬ mb = rb := by omega
  have hal := (Below.refl w1.heap.size w1).alloc (Nat.le_refl _) (.cells #[.slice none 0 0, .int .i64 0] 28)
  have hF2 := hF1.below hal
  have hb2 := hb1.alloc hb1.size (.cells #[.slice none 0 0, .int .i64 0] 28)
  have hV2 := VarAt.new w1 #[.slice none 0 0, .int .i64 0] 28
  rw [← hrb] at hV2
  have Hrb := Lib.hid hrb
  clear hfb hmb hs1 HN hrb hal hF1 hb1
  have hR2 : RAt (w1.alloc (.cells #[.slice none 0 0, .int .i64 0] 28)) rb w.heap.size (.slice none 0 0) ⟨0, []⟩ := ⟨hV2, OwnRows.nil _ _ _ _, (fun e => nomatch e)⟩
  clear hV2
  go_wp2_with fail
  rw [← Hrb.out]
  generalize w1.alloc (.cells #[.slice none 0 0, .int .i64 0] 28) = W1 at *
  go_loopw [5, 6, 7, 8, 9, 10, 11, 12] (fun i _ _ _ _ _ _ _ wr => ∃ (k : Nat) (f : Fs) (mb : Nat) (v : Value), k ≤ xs.length ∧ k ≤ 100 ∧ i = .int .i64 k ∧ f.n ≤ k ∧ FAt wr fb mb f ∧ RAt wr rb w.heap.size v f ∧ Hid (FsOK f ∧ IdsOK f) ∧ w.heap.size ≤ mb ∧ ¬ mb = rb ∧ ¬ v.ownBlock = some fb ∧ ¬ v.ownBlock = some mb ∧ Below w.heap.size w wr) (fun i _ _ _ _ _ _ _ _ => xs.length - (RowKit.intOf i).toNat)
  case atStart => exact ⟨0, ⟨0, []⟩, mb, .slice none 0 0, Nat.zero_le _, Nat.zero_le _, rfl, Nat.zero_le _, hF2, hR2, Lib.hid ⟨ok_new, ids_new⟩, hmw, hmr, (fun e => nomatch e), (fun e => nomatch e), hb2⟩
  case round =>
    clear hmw hF2 hb2 hR2 hmr mb
    obtain ⟨k, f, mb, v, hk, hk100, rfl, hnk, hF, hR, Hok0, hmw, hmr, hvf, hvm, hb⟩ := hrel
    by_cases hlt : k < xs.length
    · by_cases hc : k < 100
      · obtain ⟨x, hx⟩ := at_some hlt
        obtain ⟨b, off, rfl, hbl, c0, c1, c2, c3⟩ := ask_at (HA.out.keeps hb) hx
        have hlti : (k : Int) < (xs.length : Int) := by omega
        have Hok := Lib.hid Hok0.out.1
        have Hst := Lib.hid (step_op Hok0.out.2 x)
        have Hok2 := Lib.hid (ok_op Hok.out x)
        have hopn := op_n Hok0.out.2 x
        have HFew := Lib.hid fun W => few19_any x W
        have hsz := few_sizes (x := x)
        have HDo := Lib.hid fun W hF hp ht hM => fdo_any fb mb f x W hF Hok.out (by omega) hp ht hM
        obtain ⟨r, hr⟩ : ∃ r, opF f x = r := ⟨_, rfl⟩
        rw [hr] at Hst Hok2 HDo hopn
        obtain ⟨f', er⟩ := r
        obtain ⟨xk, xp, xt, xd⟩ := x
        dsimp only at c0 c1 c2 c3 hsz HDo hopn
        clear hx
        have hal := (Below.refl wr.heap.size wr).alloc (Nat.le_refl _) (.cells #[.int .i64 xk, .string xp, .string xt, .string xd] 30)
        have hF2 := hF.below hal
        have hR2 := hR.below hal
        have hbx := hb.alloc hb.size (.cells #[.int .i64 xk, .string xp, .string xt, .string xd] 30)
        have hX := VarAt.new wr #[.int .i64 xk, .string xp, .string xt, .string xd] 30
        obtain ⟨xb, hxb⟩ : ∃ xb, xb = wr.heap.size := ⟨_, rfl⟩
        have hvlow : ∀ j, v.ownBlock = some j → w.heap.size ≤ j ∧ j < xb := fun j hj => by rw [hxb]; exact hR.rows.lt hj
        have hfx : fb < xb := by rw [hxb]; exact hF.1.1
        have hmx : mb < xb := by rw [hxb]; exact hF.2.lt
        have hrx : rb < xb := by rw [hxb]; exact hR.var.1
        rw [← hxb] at hX
        have Hxb := Lib.hid hxb
        clear hxb hal hF hR hb
        go_wp2_with fail
        rw [← Hxb.out]
        generalize wr.alloc (.cells #[.int .i64 xk, .string xp, .string xt, .string xd] 30) = W2 at *
        refine (HFew.out _).mono ?_
        rintro e w3 ⟨rfl, hb3⟩
        have hb3w := hbx.trans (hb3.mono hbx.size)
        cases hfew : fewA ⟨xk, xp, xt, xd⟩ with
        | false =>
          go_wp2_with fail
          refine (HAW.out _ (hm.keeps hb3w)).mono ?_
          rintro e wq ⟨rfl, hbq⟩
          go_wp2_with fail
          go_ret
          exact ⟨rfl, hb3w.trans (hbq.mono hb3w.size)⟩
        | true =>
          obtain ⟨hz1, hz2, _⟩ := hsz hfew
          have hF3 := hF2.below hb3
          have hR3 := hR2.below hb3
          have hX3 := hX.keeps hb3 hX.1
          have y0 : w3.cell? ⟨xb, 0, none⟩ = some (.int .i64 xk) := hX3.2.2 0 _ rfl
          have y1 : w3.cell? ⟨xb, 1, none⟩ = some (.string xp) := hX3.2.2 1 _ rfl
          have y2 : w3.cell? ⟨xb, 2, none⟩ = some (.string xt) := hX3.2.2 2 _ rfl
          have y3 : w3.cell? ⟨xb, 3, none⟩ = some (.string xd) := hX3.2.2 3 _ rfl
          clear hF2 hR2 hX hbx hb3 hfew hsz HFew c0 c1 c2 c3
          by_cases h0 : xk = 0
          · have hop := op_0 (x := ⟨xk, xp, xt, xd⟩) h0 (f := f)
            rw [hr] at hop
            have HC := fun W hR hbs => rmkdir_any rb w.heap.size v f xp W hR Hok.out (by omega) (by omega) hbs
            dsimp only at hop
            rw [← hop] at HC
            replace HC := Lib.hid HC
            subst h0
            clear hop hr
            go_wp2_with fail
            refine (HDo.out _ hF3 (by omega) (by omega) (hm.keeps hb3w)).mono ?_
            rintro e w4 ⟨rfl, mb', hF4, hmb', ht4⟩
            have hz4 := ht4.size
            have hb4w := hb3w.trans (ht4.below hb3w.size (fun j hj e => by rcases e with rfl | rfl <;> omega))
            have hR4 := hR3.turned ht4 (fun e : rb = fb ∨ rb = mb => e.elim (fun e => hfr e.symm) (fun e => hmr e.symm)) (fun k hk (e : k = fb ∨ k = mb) => e.elim (fun e => hvf (by rw [hk, e])) (fun e => hvm (by rw [hk, e])))
            have hX4 : VarAt w4 xb _ := hX3.same (ht4.block xb hX3.1 (fun e => by rcases e with e | e <;> omega)) hz4
            have hvlow4 := hvlow
            have hmw4 : w.heap.size ≤ mb' := by
              rcases hmb' with rfl | h1
              · exact hmw
              · exact Nat.le_trans hb3w.size h1
            have hmr4 : ¬ mb' = rb := by
              rcases hmb' with rfl | h1
              · exact hmr
              · have := hR3.var.1; omega
            have hvm4 : ¬ v.ownBlock = some mb' := by
              rcases hmb' with rfl | h1
              · exact hvm
              · exact fun e => by have := (hvlow mb' e).2; have := hX3.1; omega
            have hxb4 : xb < w4.heap.size := Nat.lt_of_lt_of_le hX3.1 hz4
            have x0 : w4.cell? ⟨xb, 0, none⟩ = some (.int .i64 0) := hX4.2.2 0 _ rfl
            have x1 : w4.cell? ⟨xb, 1, none⟩ = some (.string xp) := hX4.2.2 1 _ rfl
            have x2 : w4.cell? ⟨xb, 2, none⟩ = some (.string xt) := hX4.2.2 2 _ rfl
            have x3 : w4.cell? ⟨xb, 3, none⟩ = some (.string xd) := hX4.2.2 3 _ rfl
            have hF4lt := hF4.2.lt
            clear HDo hF3 hR3 hX3 hb3w ht4 hmb' hvm hmr hmw
            go_wp2_with fail
            refine (HC.out _ hR4 hb4w.size).mono ?_
            clear x0 x1 x2 x3
            have hxb5 : ∀ n, w4.heap.size ≤ n → xb < n := fun n h => Nat.lt_of_lt_of_le hxb4 h
            rintro e w5 ⟨rfl, v', hR5, hv', ht5⟩
            have hz5 := ht5.size
            have hF5 := hF4.turned ht5 (fun e : fb = rb ∨ v.ownBlock = some fb => e.elim hfr hvf) (fun e : mb' = rb ∨ v.ownBlock = some mb' => e.elim hmr4 hvm4)
            have hb5w := hb4w.trans (ht5.below hb4w.size (fun j hj (e : j = rb ∨ v.ownBlock = some j) => e.elim (fun e => by omega) (fun e => by have := (hvlow j e).1; omega)))
            have hX5 : VarAt w5 xb _ := hX4.same (ht5.block xb hX4.1 (fun e : xb = rb ∨ v.ownBlock = some xb => e.elim (fun e => by omega) (fun e => by have := (hvlow xb e).2; omega))) hz5
            have x2 : w5.cell? ⟨xb, 2, none⟩ = some (.string xt) := hX5.2.2 2 _ rfl
            have hvf' : ¬ v'.ownBlock = some fb := by
              rcases hv' with rfl | h1
              · exact hvf
              · exact fun e => by have := h1 fb e; omega
            have hvm' : ¬ v'.ownBlock = some mb' := by
              rcases hv' with rfl | h1
              · exact hvm4
              · exact fun e => by have := h1 mb' e; omega
            have HGf := Lib.hid (fget_any fb mb' f' xt w5 hF5 (by unfold maxLen; omega))
            have HGr := Lib.hid fun W hR => rget_any rb w.heap.size v' f' xt W hR Hok2.out
            obtain ⟨G, hG⟩ : ∃ G, getF f' xt = G := ⟨_, rfl⟩
            rw [hG] at HGf HGr
            clear hG
            obtain ⟨⟨up, ui, ud, us⟩, g⟩ := G
            rw [show Ent.val ⟨up, ui, ud, us⟩ = .agg #[.string up, .int .i64 ui, .bool ud, .string us] from rfl] at HGf HGr
            clear ht5 hF4 hX4 hv' hvf hvm4 hb4w hvlow hX5 hR4
            go_wp2_with fail
            refine HGf.out.mono ?_
            rintro e w6 ⟨rfl, hb6⟩
            have hX6 := (hb6.cell (p := ⟨xb, 2, none⟩) (hxb5 _ hz5)).trans x2
            have hR6 := (hR5.below hb6).below ((Below.refl w6.heap.size w6).alloc (Nat.le_refl _) (.cells #[.string up, .int .i64 ui, .bool ud, .string us] 38))
            have hF6 := (hF5.below hb6).below ((Below.refl w6.heap.size w6).alloc (Nat.le_refl _) (.cells #[.string up, .int .i64 ui, .bool ud, .string us] 38))
            have hb6w := (hb5w.trans (hb6.mono hb5w.size)).alloc (Nat.le_trans hb5w.size hb6.size) (.cells #[.string up, .int .i64 ui, .bool ud, .string us] 38)
            have hV9 := VarAt.new w6 #[.string up, .int .i64 ui, .bool ud, .string us] 38
            have x2' : (w6.alloc (.cells #[.string up, .int .i64 ui, .bool ud, .string us] 38)).cell? ⟨xb, 2, none⟩ = some (.string xt) := (((Below.refl w6.heap.size w6).alloc (Nat.le_refl _) (.cells #[.string up, .int .i64 ui, .bool ud, .string us] 38)).cell (p := ⟨xb, 2, none⟩) (Nat.lt_of_lt_of_le (hxb5 _ hz5) hb6.size)).trans hX6
            clear hX6 hb6 hF5 hR5 x2
            obtain ⟨b9, hb9⟩ : ∃ b9, b9 = w6.heap.size := ⟨_, rfl⟩
            rw [← hb9] at hV9
            have Hb9 := Lib.hid hb9
            clear hb9
            go_wp2_with fail
            rw [← Hb9.out]
            generalize w6.alloc (.cells #[.string up, .int .i64 ui, .bool ud, .string us] 38) = W6 at *
            refine (HGr.out _ hR6).mono ?_
            rintro e w7 ⟨rfl, hb7⟩
            have hV7 := hV9.keeps hb7 hV9.1
            have hal := (Below.refl w7.heap.size w7).alloc (Nat.le_refl _) (.cells #[.string up, .int .i64 ui, .bool ud, .string us] 38)
            have hR8 := (hR6.below hb7).below hal
            have hF8 := (hF6.below hb7).below hal
            have hb8w := (hb6w.trans (hb7.mono hb6w.size)).trans (hal.mono (Nat.le_trans hb6w.size hb7.size))
            have hV8 := hV7.keeps hal hV7.1
            have hV11 := VarAt.new w7 #[.string up, .int .i64 ui, .bool ud, .string us] 38
            obtain ⟨b11, hb11⟩ : ∃ b11, b11 = w7.heap.size := ⟨_, rfl⟩
            rw [← hb11] at hV11
            have Hb11 := Lib.hid hb11
            clear hb11 hV9 hV7 hal hR6 hF6 hb6w hb7 x2'
            go_wp2_with fail
            rw [← Hb11.out]
            generalize w7.alloc (.cells #[.string up, .int .i64 ui, .bool ud, .string us] 38) = W8 at *
            obtain ⟨av, cv, rfl, hrow, hcv, hlow, hown⟩ := own_lowR hR8.rows
            have HL := Lib.hid (flist_any fb mb' f' W8.drew (hF8.below (belowDrew (Below.refl _ W8) 1)) Hok2.out.rise Hok2.out.few (fun y hy => path_size (Hok2.out.path y hy)))
            have hfew5 : f'.es.length ≤ 300 := Hok2.out.few
            have hqe : (er != er) = false := by simp
            have hqg : (g != g) = false := by simp
            have hqs : ∀ W, (binOp .neq 38 (.agg #[.string up, .int .i64 ui, .bool ud, .string us]) (.agg #[.string up, .int .i64 ui, .bool ud, .string us])).run Tryd.prog W = .ok (.bool false) W := fun W => by
              have := neqEnt ⟨up, ui, ud, us⟩ ⟨up, ui, ud, us⟩ W
              rw [decide_eq_true rfl] at this
              exact this
            have HK := Lib.hid (show ∀ W', Below W8.heap.size W8 W' → (Below W8.heap.size W8 W' ∧ W'.cell? ⟨b9, 0, none⟩ = some (.string up) ∧ W'.cell? ⟨b9, 1, none⟩ = some (.int .i64 ui) ∧ W'.cell? ⟨b9, 2, none⟩ = some (.bool ud) ∧ W'.cell? ⟨b9, 3, none⟩ = some (.string us) ∧ W'.cell? ⟨b11, 0, none⟩ = some (.string up) ∧ W'.cell? ⟨b11, 1, none⟩ = some (.int .i64 ui) ∧ W'.cell? ⟨b11, 2, none⟩ = some (.bool ud) ∧ W'.cell? ⟨b11, 3, none⟩ = some (.string us) ∧ W'.cell? ⟨rb, 0, none⟩ = some (.slice av f'.es.length cv)) from fun W' h => ⟨h, (hV8.keeps h hV8.1).2.2 0 _ rfl, (hV8.keeps h hV8.1).2.2 1 _ rfl, (hV8.keeps h hV8.1).2.2 2 _ rfl, (hV8.keeps h hV8.1).2.2 3 _ rfl, (hV11.keeps h hV11.1).2.2 0 _ rfl, (hV11.keeps h hV11.1).2.2 1 _ rfl, (hV11.keeps h hV11.1).2.2 2 _ rfl, (hV11.keeps h hV11.1).2.2 3 _ rfl, (hR8.var.keeps h hR8.var.1).2.2 0 _ rfl⟩)
            have hkb : Below W8.heap.size W8 W8.drew := belowDrew (Below.refl _ W8) 1
            have hkk := HK.out W8.drew hkb
            have HRW := Lib.hid hrow
            have HR8 := Lib.hid hR8
            have HF8 := Lib.hid hF8
            have HLs := Lib.hid fun W (h : Below W8.heap.size W8 W) => flist_any fb mb' f' W (HF8.out.below h) Hok2.out.rise Hok2.out.few (fun y hy => path_size (Hok2.out.path y hy))
            clear hrow hR8 hF8 hlow hown hV8 hV11 HL
            go_wp2_with fail
            go_region_held3 (fun w' => Below W8.heap.size W8 w' ∧ w'.cell? ⟨b9, 0, none⟩ = some (.string up) ∧ w'.cell? ⟨b9, 1, none⟩ = some (.int .i64 ui) ∧ w'.cell? ⟨b9, 2, none⟩ = some (.bool ud) ∧ w'.cell? ⟨b9, 3, none⟩ = some (.string us) ∧ w'.cell? ⟨b11, 0, none⟩ = some (.string up) ∧ w'.cell? ⟨b11, 1, none⟩ = some (.int .i64 ui) ∧ w'.cell? ⟨b11, 2, none⟩ = some (.bool ud) ∧ w'.cell? ⟨b11, 3, none⟩ = some (.string us) ∧ w'.cell? ⟨rb, 0, none⟩ = some (.slice av f'.es.length cv))
              (first | exact hkk | exact HK.out _ (keepS hkb hbl) | exact HK.out _ (belowDrew (keepS hkb hbl) _) | exact HK.out _ (keepS (by assumption) hbl) | go_keep)
              (first | (go_at_call 24; refine (HLs.out _ (by assumption)).mono ?_; rintro e w' ⟨vl, rfl, hov, hbl⟩; obtain ⟨al, cl, rfl, hrl, hcl⟩ := hov.read) | (go_at_call 23; refine (esame_any al av cl cv f'.es f'.es _ (by omega) hrl (HRW.out.keeps (keepS hkb hbl))).mono ?_; rintro e w' ⟨rfl, n10, rfl⟩))
            have hbz := belowDrew (keepS hkb hbl) n10
            clear hkk
            go_wp2_with fail
            go_roundw
            case rel => exact ⟨k + 1, f', mb', .slice av f'.es.length cv, by omega, by omega, by go_num, by omega, HF8.out.below hbz, HR8.out.below hbz, Lib.hid ⟨Hok2.out, Hst.out.ids⟩, hmw4, hmr4, hvf', hvm', hb8w.trans (hbz.mono hb8w.size)⟩
            case measure => simp [RowKit.intOf]; omega
          · have e0 := int_ne h0
            by_cases h1 : xk = 1
            · have hop := op_1 (x := ⟨xk, xp, xt, xd⟩) h1 (f := f)
              rw [hr] at hop
              have HC := fun W hR hbs => rwrite_any rb w.heap.size v f xp xd W hR Hok.out (by omega) (by omega) hbs
              dsimp only at hop
              rw [← hop] at HC
              replace HC := Lib.hid HC
              clear h0
              subst h1
              clear hop hr
              go_wp2_with fail
              refine (HDo.out _ hF3 (by omega) (by omega) (hm.keeps hb3w)).mono ?_
              rintro e w4 ⟨rfl, mb', hF4, hmb', ht4⟩
              have hz4 := ht4.size
              have hb4w := hb3w.trans (ht4.below hb3w.size (fun j hj e => by rcases e with rfl | rfl <;> omega))
              have hR4 := hR3.turned ht4 (fun e : rb = fb ∨ rb = mb => e.elim (fun e => hfr e.symm) (fun e => hmr e.symm)) (fun k hk (e : k = fb ∨ k = mb) => e.elim (fun e => hvf (by rw [hk, e])) (fun e => hvm (by rw [hk, e])))
              have hX4 : VarAt w4 xb _ := hX3.same (ht4.block xb hX3.1 (fun e => by rcases e with e | e <;> omega)) hz4
              have hvlow4 := hvlow
              have hmw4 : w.heap.size ≤ mb' := by
                rcases hmb' with rfl | h1
                · exact hmw
                · exact Nat.le_trans hb3w.size h1
              have hmr4 : ¬ mb' = rb := by
                rcases hmb' with rfl | h1
                · exact hmr
                · have := hR3.var.1; omega
              have hvm4 : ¬ v.ownBlock = some mb' := by
                rcases hmb' with rfl | h1
                · exact hvm
                · exact fun e => by have := (hvlow mb' e).2; have := hX3.1; omega
              have hxb4 : xb < w4.heap.size := Nat.lt_of_lt_of_le hX3.1 hz4
              have x0 : w4.cell? ⟨xb, 0, none⟩ = some (.int .i64 1) := hX4.2.2 0 _ rfl
              have x1 : w4.cell? ⟨xb, 1, none⟩ = some (.string xp) := hX4.2.2 1 _ rfl
              have x2 : w4.cell? ⟨xb, 2, none⟩ = some (.string xt) := hX4.2.2 2 _ rfl
              have x3 : w4.cell? ⟨xb, 3, none⟩ = some (.string xd) := hX4.2.2 3 _ rfl
              have hF4lt := hF4.2.lt
              clear HDo hF3 hR3 hX3 hb3w ht4 hmb' hvm hmr hmw
              go_wp2_with fail
              refine (HC.out _ hR4 hb4w.size).mono ?_
              clear x0 x1 x2 x3
              have hxb5 : ∀ n, w4.heap.size ≤ n → xb < n := fun n h => Nat.lt_of_lt_of_le hxb4 h
              rintro e w5 ⟨rfl, v', hR5, hv', ht5⟩
              have hz5 := ht5.size
              have hF5 := hF4.turned ht5 (fun e : fb = rb ∨ v.ownBlock = some fb => e.elim hfr hvf) (fun e : mb' = rb ∨ v.ownBlock = some mb' => e.elim hmr4 hvm4)
              have hb5w := hb4w.trans (ht5.below hb4w.size (fun j hj (e : j = rb ∨ v.ownBlock = some j) => e.elim (fun e => by omega) (fun e => by have := (hvlow j e).1; omega)))
              have hX5 : VarAt w5 xb _ := hX4.same (ht5.block xb hX4.1 (fun e : xb = rb ∨ v.ownBlock = some xb => e.elim (fun e => by omega) (fun e => by have := (hvlow xb e).2; omega))) hz5
              have x2 : w5.cell? ⟨xb, 2, none⟩ = some (.string xt) := hX5.2.2 2 _ rfl
              have hvf' : ¬ v'.ownBlock = some fb := by
                rcases hv' with rfl | h1
                · exact hvf
                · exact fun e => by have := h1 fb e; omega
              have hvm' : ¬ v'.ownBlock = some mb' := by
                rcases hv' with rfl | h1
                · exact hvm4
                · exact fun e => by have := h1 mb' e; omega
              have HGf := Lib.hid (fget_any fb mb' f' xt w5 hF5 (by unfold maxLen; omega))
              have HGr := Lib.hid fun W hR => rget_any rb w.heap.size v' f' xt W hR Hok2.out
              obtain ⟨G, hG⟩ : ∃ G, getF f' xt = G := ⟨_, rfl⟩
              rw [hG] at HGf HGr
              clear hG
              obtain ⟨⟨up, ui, ud, us⟩, g⟩ := G
              rw [show Ent.val ⟨up, ui, ud, us⟩ = .agg #[.string up, .int .i64 ui, .bool ud, .string us] from rfl] at HGf HGr
              clear ht5 hF4 hX4 hv' hvf hvm4 hb4w hvlow hX5 hR4
              go_wp2_with fail
              refine HGf.out.mono ?_
              rintro e w6 ⟨rfl, hb6⟩
              have hX6 := (hb6.cell (p := ⟨xb, 2, none⟩) (hxb5 _ hz5)).trans x2
              have hR6 := (hR5.below hb6).below ((Below.refl w6.heap.size w6).alloc (Nat.le_refl _) (.cells #[.string up, .int .i64 ui, .bool ud, .string us] 38))
              have hF6 := (hF5.below hb6).below ((Below.refl w6.heap.size w6).alloc (Nat.le_refl _) (.cells #[.string up, .int .i64 ui, .bool ud, .string us] 38))
              have hb6w := (hb5w.trans (hb6.mono hb5w.size)).alloc (Nat.le_trans hb5w.size hb6.size) (.cells #[.string up, .int .i64 ui, .bool ud, .string us] 38)
              have hV9 := VarAt.new w6 #[.string up, .int .i64 ui, .bool ud, .string us] 38
              have x2' : (w6.alloc (.cells #[.string up, .int .i64 ui, .bool ud, .string us] 38)).cell? ⟨xb, 2, none⟩ = some (.string xt) := (((Below.refl w6.heap.size w6).alloc (Nat.le_refl _) (.cells #[.string up, .int .i64 ui, .bool ud, .string us] 38)).cell (p := ⟨xb, 2, none⟩) (Nat.lt_of_lt_of_le (hxb5 _ hz5) hb6.size)).trans hX6
              clear hX6 hb6 hF5 hR5 x2
              obtain ⟨b9, hb9⟩ : ∃ b9, b9 = w6.heap.size := ⟨_, rfl⟩
              rw [← hb9] at hV9
              have Hb9 := Lib.hid hb9
              clear hb9
              go_wp2_with fail
              rw [← Hb9.out]
              generalize w6.alloc (.cells #[.string up, .int .i64 ui, .bool ud, .string us] 38) = W6 at *
              refine (HGr.out _ hR6).mono ?_
              rintro e w7 ⟨rfl, hb7⟩
              have hV7 := hV9.keeps hb7 hV9.1
              have hal := (Below.refl w7.heap.size w7).alloc (Nat.le_refl _) (.cells #[.string up, .int .i64 ui, .bool ud, .string us] 38)
              have hR8 := (hR6.below hb7).below hal
              have hF8 := (hF6.below hb7).below hal
              have hb8w := (hb6w.trans (hb7.mono hb6w.size)).trans (hal.mono (Nat.le_trans hb6w.size hb7.size))
              have hV8 := hV7.keeps hal hV7.1
              have hV11 := VarAt.new w7 #[.string up, .int .i64 ui, .bool ud, .string us] 38
              obtain ⟨b11, hb11⟩ : ∃ b11, b11 = w7.heap.size := ⟨_, rfl⟩
              rw [← hb11] at hV11
              have Hb11 := Lib.hid hb11
              clear hb11 hV9 hV7 hal hR6 hF6 hb6w hb7 x2'
              go_wp2_with fail
              rw [← Hb11.out]
              generalize w7.alloc (.cells #[.string up, .int .i64 ui, .bool ud, .string us] 38) = W8 at *
              obtain ⟨av, cv, rfl, hrow, hcv, hlow, hown⟩ := own_lowR hR8.rows
              have HL := Lib.hid (flist_any fb mb' f' W8.drew (hF8.below (belowDrew (Below.refl _ W8) 1)) Hok2.out.rise Hok2.out.few (fun y hy => path_size (Hok2.out.path y hy)))
              have hfew5 : f'.es.length ≤ 300 := Hok2.out.few
              have hqe : (er != er) = false := by simp
              have hqg : (g != g) = false := by simp
              have hqs : ∀ W, (binOp .neq 38 (.agg #[.string up, .int .i64 ui, .bool ud, .string us]) (.agg #[.string up, .int .i64 ui, .bool ud, .string us])).run Tryd.prog W = .ok (.bool false) W := fun W => by
                have := neqEnt ⟨up, ui, ud, us⟩ ⟨up, ui, ud, us⟩ W
                rw [decide_eq_true rfl] at this
                exact this
              have HK := Lib.hid (show ∀ W', Below W8.heap.size W8 W' → (Below W8.heap.size W8 W' ∧ W'.cell? ⟨b9, 0, none⟩ = some (.string up) ∧ W'.cell? ⟨b9, 1, none⟩ = some (.int .i64 ui) ∧ W'.cell? ⟨b9, 2, none⟩ = some (.bool ud) ∧ W'.cell? ⟨b9, 3, none⟩ = some (.string us) ∧ W'.cell? ⟨b11, 0, none⟩ = some (.string up) ∧ W'.cell? ⟨b11, 1, none⟩ = some (.int .i64 ui) ∧ W'.cell? ⟨b11, 2, none⟩ = some (.bool ud) ∧ W'.cell? ⟨b11, 3, none⟩ = some (.string us) ∧ W'.cell? ⟨rb, 0, none⟩ = some (.slice av f'.es.length cv)) from fun W' h => ⟨h, (hV8.keeps h hV8.1).2.2 0 _ rfl, (hV8.keeps h hV8.1).2.2 1 _ rfl, (hV8.keeps h hV8.1).2.2 2 _ rfl, (hV8.keeps h hV8.1).2.2 3 _ rfl, (hV11.keeps h hV11.1).2.2 0 _ rfl, (hV11.keeps h hV11.1).2.2 1 _ rfl, (hV11.keeps h hV11.1).2.2 2 _ rfl, (hV11.keeps h hV11.1).2.2 3 _ rfl, (hR8.var.keeps h hR8.var.1).2.2 0 _ rfl⟩)
              have hkb : Below W8.heap.size W8 W8.drew := belowDrew (Below.refl _ W8) 1
              have hkk := HK.out W8.drew hkb
              have HRW := Lib.hid hrow
              have HR8 := Lib.hid hR8
              have HF8 := Lib.hid hF8
              have HLs := Lib.hid fun W (h : Below W8.heap.size W8 W) => flist_any fb mb' f' W (HF8.out.below h) Hok2.out.rise Hok2.out.few (fun y hy => path_size (Hok2.out.path y hy))
              clear hrow hR8 hF8 hlow hown hV8 hV11 HL
              go_wp2_with fail
              go_region_held3 (fun w' => Below W8.heap.size W8 w' ∧ w'.cell? ⟨b9, 0, none⟩ = some (.string up) ∧ w'.cell? ⟨b9, 1, none⟩ = some (.int .i64 ui) ∧ w'.cell? ⟨b9, 2, none⟩ = some (.bool ud) ∧ w'.cell? ⟨b9, 3, none⟩ = some (.string us) ∧ w'.cell? ⟨b11, 0, none⟩ = some (.string up) ∧ w'.cell? ⟨b11, 1, none⟩ = some (.int .i64 ui) ∧ w'.cell? ⟨b11, 2, none⟩ = some (.bool ud) ∧ w'.cell? ⟨b11, 3, none⟩ = some (.string us) ∧ w'.cell? ⟨rb, 0, none⟩ = some (.slice av f'.es.length cv))
                (first | exact hkk | exact HK.out _ (keepS hkb hbl) | exact HK.out _ (belowDrew (keepS hkb hbl) _) | exact HK.out _ (keepS (by assumption) hbl) | go_keep)
                (first | (go_at_call 24; refine (HLs.out _ (by assumption)).mono ?_; rintro e w' ⟨vl, rfl, hov, hbl⟩; obtain ⟨al, cl, rfl, hrl, hcl⟩ := hov.read) | (go_at_call 23; refine (esame_any al av cl cv f'.es f'.es _ (by omega) hrl (HRW.out.keeps (keepS hkb hbl))).mono ?_; rintro e w' ⟨rfl, n10, rfl⟩))
              have hbz := belowDrew (keepS hkb hbl) n10
              clear hkk
              go_wp2_with fail
              go_roundw
              case rel => exact ⟨k + 1, f', mb', .slice av f'.es.length cv, by omega, by omega, by go_num, by omega, HF8.out.below hbz, HR8.out.below hbz, Lib.hid ⟨Hok2.out, Hst.out.ids⟩, hmw4, hmr4, hvf', hvm', hb8w.trans (hbz.mono hb8w.size)⟩
              case measure => simp [RowKit.intOf]; omega
            · have e1 := int_ne h1
              by_cases h2 : xk = 2
              · have hop := op_2 (x := ⟨xk, xp, xt, xd⟩) h2 (f := f)
                rw [hr] at hop
                have HC := fun W hR hbs => rrename_any rb w.heap.size v f xp xt W hR Hok.out (by omega) (by omega) hbs
                dsimp only at hop
                rw [← hop] at HC
                replace HC := Lib.hid HC
                clear h0 h1
                subst h2
                clear hop hr
                go_wp2_with fail
                refine (HDo.out _ hF3 (by omega) (by omega) (hm.keeps hb3w)).mono ?_
                rintro e w4 ⟨rfl, mb', hF4, hmb', ht4⟩
                have hz4 := ht4.size
                have hb4w := hb3w.trans (ht4.below hb3w.size (fun j hj e => by rcases e with rfl | rfl <;> omega))
                have hR4 := hR3.turned ht4 (fun e : rb = fb ∨ rb = mb => e.elim (fun e => hfr e.symm) (fun e => hmr e.symm)) (fun k hk (e : k = fb ∨ k = mb) => e.elim (fun e => hvf (by rw [hk, e])) (fun e => hvm (by rw [hk, e])))
                have hX4 : VarAt w4 xb _ := hX3.same (ht4.block xb hX3.1 (fun e => by rcases e with e | e <;> omega)) hz4
                have hvlow4 := hvlow
                have hmw4 : w.heap.size ≤ mb' := by
                  rcases hmb' with rfl | h1
                  · exact hmw
                  · exact Nat.le_trans hb3w.size h1
                have hmr4 : ¬ mb' = rb := by
                  rcases hmb' with rfl | h1
                  · exact hmr
                  · have := hR3.var.1; omega
                have hvm4 : ¬ v.ownBlock = some mb' := by
                  rcases hmb' with rfl | h1
                  · exact hvm
                  · exact fun e => by have := (hvlow mb' e).2; have := hX3.1; omega
                have hxb4 : xb < w4.heap.size := Nat.lt_of_lt_of_le hX3.1 hz4
                have x0 : w4.cell? ⟨xb, 0, none⟩ = some (.int .i64 2) := hX4.2.2 0 _ rfl
                have x1 : w4.cell? ⟨xb, 1, none⟩ = some (.string xp) := hX4.2.2 1 _ rfl
                have x2 : w4.cell? ⟨xb, 2, none⟩ = some (.string xt) := hX4.2.2 2 _ rfl
                have x3 : w4.cell? ⟨xb, 3, none⟩ = some (.string xd) := hX4.2.2 3 _ rfl
                have hF4lt := hF4.2.lt
                clear HDo hF3 hR3 hX3 hb3w ht4 hmb' hvm hmr hmw
                go_wp2_with fail
                refine (HC.out _ hR4 hb4w.size).mono ?_
                clear x0 x1 x2 x3
                have hxb5 : ∀ n, w4.heap.size ≤ n → xb < n := fun n h => Nat.lt_of_lt_of_le hxb4 h
                rintro e w5 ⟨rfl, v', hR5, hv', ht5⟩
                have hz5 := ht5.size
                have hF5 := hF4.turned ht5 (fun e : fb = rb ∨ v.ownBlock = some fb => e.elim hfr hvf) (fun e : mb' = rb ∨ v.ownBlock = some mb' => e.elim hmr4 hvm4)
                have hb5w := hb4w.trans (ht5.below hb4w.size (fun j hj (e : j = rb ∨ v.ownBlock = some j) => e.elim (fun e => by omega) (fun e => by have := (hvlow j e).1; omega)))
                have hX5 : VarAt w5 xb _ := hX4.same (ht5.block xb hX4.1 (fun e : xb = rb ∨ v.ownBlock = some xb => e.elim (fun e => by omega) (fun e => by have := (hvlow xb e).2; omega))) hz5
                have x2 : w5.cell? ⟨xb, 2, none⟩ = some (.string xt) := hX5.2.2 2 _ rfl
                have hvf' : ¬ v'.ownBlock = some fb := by
                  rcases hv' with rfl | h1
                  · exact hvf
                  · exact fun e => by have := h1 fb e; omega
                have hvm' : ¬ v'.ownBlock = some mb' := by
                  rcases hv' with rfl | h1
                  · exact hvm4
                  · exact fun e => by have := h1 mb' e; omega
                have HGf := Lib.hid (fget_any fb mb' f' xt w5 hF5 (by unfold maxLen; omega))
                have HGr := Lib.hid fun W hR => rget_any rb w.heap.size v' f' xt W hR Hok2.out
                obtain ⟨G, hG⟩ : ∃ G, getF f' xt = G := ⟨_, rfl⟩
                rw [hG] at HGf HGr
                clear hG
                obtain ⟨⟨up, ui, ud, us⟩, g⟩ := G
                rw [show Ent.val ⟨up, ui, ud, us⟩ = .agg #[.string up, .int .i64 ui, .bool ud, .string us] from rfl] at HGf HGr
                clear ht5 hF4 hX4 hv' hvf hvm4 hb4w hvlow hX5 hR4
                go_wp2_with fail
                refine HGf.out.mono ?_
                rintro e w6 ⟨rfl, hb6⟩
                have hX6 := (hb6.cell (p := ⟨xb, 2, none⟩) (hxb5 _ hz5)).trans x2
                have hR6 := (hR5.below hb6).below ((Below.refl w6.heap.size w6).alloc (Nat.le_refl _) (.cells #[.string up, .int .i64 ui, .bool ud, .string us] 38))
                have hF6 := (hF5.below hb6).below ((Below.refl w6.heap.size w6).alloc (Nat.le_refl _) (.cells #[.string up, .int .i64 ui, .bool ud, .string us] 38))
                have hb6w := (hb5w.trans (hb6.mono hb5w.size)).alloc (Nat.le_trans hb5w.size hb6.size) (.cells #[.string up, .int .i64 ui, .bool ud, .string us] 38)
                have hV9 := VarAt.new w6 #[.string up, .int .i64 ui, .bool ud, .string us] 38
                have x2' : (w6.alloc (.cells #[.string up, .int .i64 ui, .bool ud, .string us] 38)).cell? ⟨xb, 2, none⟩ = some (.string xt) := (((Below.refl w6.heap.size w6).alloc (Nat.le_refl _) (.cells #[.string up, .int .i64 ui, .bool ud, .string us] 38)).cell (p := ⟨xb, 2, none⟩) (Nat.lt_of_lt_of_le (hxb5 _ hz5) hb6.size)).trans hX6
                clear hX6 hb6 hF5 hR5 x2
                obtain ⟨b9, hb9⟩ : ∃ b9, b9 = w6.heap.size := ⟨_, rfl⟩
                rw [← hb9] at hV9
                have Hb9 := Lib.hid hb9
                clear hb9
                go_wp2_with fail
                rw [← Hb9.out]
                generalize w6.alloc (.cells #[.string up, .int .i64 ui, .bool ud, .string us] 38) = W6 at *
                refine (HGr.out _ hR6).mono ?_
                rintro e w7 ⟨rfl, hb7⟩
                have hV7 := hV9.keeps hb7 hV9.1
                have hal := (Below.refl w7.heap.size w7).alloc (Nat.le_refl _) (.cells #[.string up, .int .i64 ui, .bool ud, .string us] 38)
                have hR8 := (hR6.below hb7).below hal
                have hF8 := (hF6.below hb7).below hal
                have hb8w := (hb6w.trans (hb7.mono hb6w.size)).trans (hal.mono (Nat.le_trans hb6w.size hb7.size))
                have hV8 := hV7.keeps hal hV7.1
                have hV11 := VarAt.new w7 #[.string up, .int .i64 ui, .bool ud, .string us] 38
                obtain ⟨b11, hb11⟩ : ∃ b11, b11 = w7.heap.size := ⟨_, rfl⟩
                rw [← hb11] at hV11
                have Hb11 := Lib.hid hb11
                clear hb11 hV9 hV7 hal hR6 hF6 hb6w hb7 x2'
                go_wp2_with fail
                rw [← Hb11.out]
                generalize w7.alloc (.cells #[.string up, .int .i64 ui, .bool ud, .string us] 38) = W8 at *
                obtain ⟨av, cv, rfl, hrow, hcv, hlow, hown⟩ := own_lowR hR8.rows
                have HL := Lib.hid (flist_any fb mb' f' W8.drew (hF8.below (belowDrew (Below.refl _ W8) 1)) Hok2.out.rise Hok2.out.few (fun y hy => path_size (Hok2.out.path y hy)))
                have hfew5 : f'.es.length ≤ 300 := Hok2.out.few
                have hqe : (er != er) = false := by simp
                have hqg : (g != g) = false := by simp
                have hqs : ∀ W, (binOp .neq 38 (.agg #[.string up, .int .i64 ui, .bool ud, .string us]) (.agg #[.string up, .int .i64 ui, .bool ud, .string us])).run Tryd.prog W = .ok (.bool false) W := fun W => by
                  have := neqEnt ⟨up, ui, ud, us⟩ ⟨up, ui, ud, us⟩ W
                  rw [decide_eq_true rfl] at this
                  exact this
                have HK := Lib.hid (show ∀ W', Below W8.heap.size W8 W' → (Below W8.heap.size W8 W' ∧ W'.cell? ⟨b9, 0, none⟩ = some (.string up) ∧ W'.cell? ⟨b9, 1, none⟩ = some (.int .i64 ui) ∧ W'.cell? ⟨b9, 2, none⟩ = some (.bool ud) ∧ W'.cell? ⟨b9, 3, none⟩ = some (.string us) ∧ W'.cell? ⟨b11, 0, none⟩ = some (.string up) ∧ W'.cell? ⟨b11, 1, none⟩ = some (.int .i64 ui) ∧ W'.cell? ⟨b11, 2, none⟩ = some (.bool ud) ∧ W'.cell? ⟨b11, 3, none⟩ = some (.string us) ∧ W'.cell? ⟨rb, 0, none⟩ = some (.slice av f'.es.length cv)) from fun W' h => ⟨h, (hV8.keeps h hV8.1).2.2 0 _ rfl, (hV8.keeps h hV8.1).2.2 1 _ rfl, (hV8.keeps h hV8.1).2.2 2 _ rfl, (hV8.keeps h hV8.1).2.2 3 _ rfl, (hV11.keeps h hV11.1).2.2 0 _ rfl, (hV11.keeps h hV11.1).2.2 1 _ rfl, (hV11.keeps h hV11.1).2.2 2 _ rfl, (hV11.keeps h hV11.1).2.2 3 _ rfl, (hR8.var.keeps h hR8.var.1).2.2 0 _ rfl⟩)
                have hkb : Below W8.heap.size W8 W8.drew := belowDrew (Below.refl _ W8) 1
                have hkk := HK.out W8.drew hkb
                have HRW := Lib.hid hrow
                have HR8 := Lib.hid hR8
                have HF8 := Lib.hid hF8
                have HLs := Lib.hid fun W (h : Below W8.heap.size W8 W) => flist_any fb mb' f' W (HF8.out.below h) Hok2.out.rise Hok2.out.few (fun y hy => path_size (Hok2.out.path y hy))
                clear hrow hR8 hF8 hlow hown hV8 hV11 HL
                go_wp2_with fail
                go_region_held3 (fun w' => Below W8.heap.size W8 w' ∧ w'.cell? ⟨b9, 0, none⟩ = some (.string up) ∧ w'.cell? ⟨b9, 1, none⟩ = some (.int .i64 ui) ∧ w'.cell? ⟨b9, 2, none⟩ = some (.bool ud) ∧ w'.cell? ⟨b9, 3, none⟩ = some (.string us) ∧ w'.cell? ⟨b11, 0, none⟩ = some (.string up) ∧ w'.cell? ⟨b11, 1, none⟩ = some (.int .i64 ui) ∧ w'.cell? ⟨b11, 2, none⟩ = some (.bool ud) ∧ w'.cell? ⟨b11, 3, none⟩ = some (.string us) ∧ w'.cell? ⟨rb, 0, none⟩ = some (.slice av f'.es.length cv))
                  (first | exact hkk | exact HK.out _ (keepS hkb hbl) | exact HK.out _ (belowDrew (keepS hkb hbl) _) | exact HK.out _ (keepS (by assumption) hbl) | go_keep)
                  (first | (go_at_call 24; refine (HLs.out _ (by assumption)).mono ?_; rintro e w' ⟨vl, rfl, hov, hbl⟩; obtain ⟨al, cl, rfl, hrl, hcl⟩ := hov.read) | (go_at_call 23; refine (esame_any al av cl cv f'.es f'.es _ (by omega) hrl (HRW.out.keeps (keepS hkb hbl))).mono ?_; rintro e w' ⟨rfl, n10, rfl⟩))
                have hbz := belowDrew (keepS hkb hbl) n10
                clear hkk
                go_wp2_with fail
                go_roundw
                case rel => exact ⟨k + 1, f', mb', .slice av f'.es.length cv, by omega, by omega, by go_num, by omega, HF8.out.below hbz, HR8.out.below hbz, Lib.hid ⟨Hok2.out, Hst.out.ids⟩, hmw4, hmr4, hvf', hvm', hb8w.trans (hbz.mono hb8w.size)⟩
                case measure => simp [RowKit.intOf]; omega
              · have e2 := int_ne h2
                have hop := op_3 (x := ⟨xk, xp, xt, xd⟩) h0 h1 h2 (f := f)
                rw [hr] at hop
                have HC := fun W hR hbs => rremove_any rb w.heap.size v f xp W hR Hok.out (by omega) hbs
                dsimp only at hop
                rw [← hop] at HC
                replace HC := Lib.hid HC
                clear h0 h1 h2
                clear hop hr
                go_wp2_with fail
                refine (HDo.out _ hF3 (by omega) (by omega) (hm.keeps hb3w)).mono ?_
                rintro e w4 ⟨rfl, mb', hF4, hmb', ht4⟩
                have hz4 := ht4.size
                have hb4w := hb3w.trans (ht4.below hb3w.size (fun j hj e => by rcases e with rfl | rfl <;> omega))
                have hR4 := hR3.turned ht4 (fun e : rb = fb ∨ rb = mb => e.elim (fun e => hfr e.symm) (fun e => hmr e.symm)) (fun k hk (e : k = fb ∨ k = mb) => e.elim (fun e => hvf (by rw [hk, e])) (fun e => hvm (by rw [hk, e])))
                have hX4 : VarAt w4 xb _ := hX3.same (ht4.block xb hX3.1 (fun e => by rcases e with e | e <;> omega)) hz4
                have hvlow4 := hvlow
                have hmw4 : w.heap.size ≤ mb' := by
                  rcases hmb' with rfl | h1
                  · exact hmw
                  · exact Nat.le_trans hb3w.size h1
                have hmr4 : ¬ mb' = rb := by
                  rcases hmb' with rfl | h1
                  · exact hmr
                  · have := hR3.var.1; omega
                have hvm4 : ¬ v.ownBlock = some mb' := by
                  rcases hmb' with rfl | h1
                  · exact hvm
                  · exact fun e => by have := (hvlow mb' e).2; have := hX3.1; omega
                have hxb4 : xb < w4.heap.size := Nat.lt_of_lt_of_le hX3.1 hz4
                have x0 : w4.cell? ⟨xb, 0, none⟩ = some (.int .i64 xk) := hX4.2.2 0 _ rfl
                have x1 : w4.cell? ⟨xb, 1, none⟩ = some (.string xp) := hX4.2.2 1 _ rfl
                have x2 : w4.cell? ⟨xb, 2, none⟩ = some (.string xt) := hX4.2.2 2 _ rfl
                have x3 : w4.cell? ⟨xb, 3, none⟩ = some (.string xd) := hX4.2.2 3 _ rfl
                have hF4lt := hF4.2.lt
                clear HDo hF3 hR3 hX3 hb3w ht4 hmb' hvm hmr hmw
                go_wp2_with fail
                refine (HC.out _ hR4 hb4w.size).mono ?_
                clear x0 x1 x2 x3
                have hxb5 : ∀ n, w4.heap.size ≤ n → xb < n := fun n h => Nat.lt_of_lt_of_le hxb4 h
                rintro e w5 ⟨rfl, v', hR5, hv', ht5⟩
                have hz5 := ht5.size
                have hF5 := hF4.turned ht5 (fun e : fb = rb ∨ v.ownBlock = some fb => e.elim hfr hvf) (fun e : mb' = rb ∨ v.ownBlock = some mb' => e.elim hmr4 hvm4)
                have hb5w := hb4w.trans (ht5.below hb4w.size (fun j hj (e : j = rb ∨ v.ownBlock = some j) => e.elim (fun e => by omega) (fun e => by have := (hvlow j e).1; omega)))
                have hX5 : VarAt w5 xb _ := hX4.same (ht5.block xb hX4.1 (fun e : xb = rb ∨ v.ownBlock = some xb => e.elim (fun e => by omega) (fun e => by have := (hvlow xb e).2; omega))) hz5
                have x2 : w5.cell? ⟨xb, 2, none⟩ = some (.string xt) := hX5.2.2 2 _ rfl
                have hvf' : ¬ v'.ownBlock = some fb := by
                  rcases hv' with rfl | h1
                  · exact hvf
                  · exact fun e => by have := h1 fb e; omega
                have hvm' : ¬ v'.ownBlock = some mb' := by
                  rcases hv' with rfl | h1
                  · exact hvm4
                  · exact fun e => by have := h1 mb' e; omega
                have HGf := Lib.hid (fget_any fb mb' f' xt w5 hF5 (by unfold maxLen; omega))
                have HGr := Lib.hid fun W hR => rget_any rb w.heap.size v' f' xt W hR Hok2.out
                obtain ⟨G, hG⟩ : ∃ G, getF f' xt = G := ⟨_, rfl⟩
                rw [hG] at HGf HGr
                clear hG
                obtain ⟨⟨up, ui, ud, us⟩, g⟩ := G
                rw [show Ent.val ⟨up, ui, ud, us⟩ = .agg #[.string up, .int .i64 ui, .bool ud, .string us] from rfl] at HGf HGr
                clear ht5 hF4 hX4 hv' hvf hvm4 hb4w hvlow hX5 hR4
                go_wp2_with fail
                refine HGf.out.mono ?_
                rintro e w6 ⟨rfl, hb6⟩
                have hX6 := (hb6.cell (p := ⟨xb, 2, none⟩) (hxb5 _ hz5)).trans x2
                have hR6 := (hR5.below hb6).below ((Below.refl w6.heap.size w6).alloc (Nat.le_refl _) (.cells #[.string up, .int .i64 ui, .bool ud, .string us] 38))
                have hF6 := (hF5.below hb6).below ((Below.refl w6.heap.size w6).alloc (Nat.le_refl _) (.cells #[.string up, .int .i64 ui, .bool ud, .string us] 38))
                have hb6w := (hb5w.trans (hb6.mono hb5w.size)).alloc (Nat.le_trans hb5w.size hb6.size) (.cells #[.string up, .int .i64 ui, .bool ud, .string us] 38)
                have hV9 := VarAt.new w6 #[.string up, .int .i64 ui, .bool ud, .string us] 38
                have x2' : (w6.alloc (.cells #[.string up, .int .i64 ui, .bool ud, .string us] 38)).cell? ⟨xb, 2, none⟩ = some (.string xt) := (((Below.refl w6.heap.size w6).alloc (Nat.le_refl _) (.cells #[.string up, .int .i64 ui, .bool ud, .string us] 38)).cell (p := ⟨xb, 2, none⟩) (Nat.lt_of_lt_of_le (hxb5 _ hz5) hb6.size)).trans hX6
                clear hX6 hb6 hF5 hR5 x2
                obtain ⟨b9, hb9⟩ : ∃ b9, b9 = w6.heap.size := ⟨_, rfl⟩
                rw [← hb9] at hV9
                have Hb9 := Lib.hid hb9
                clear hb9
                go_wp2_with fail
                rw [← Hb9.out]
                generalize w6.alloc (.cells #[.string up, .int .i64 ui, .bool ud, .string us] 38) = W6 at *
                refine (HGr.out _ hR6).mono ?_
                rintro e w7 ⟨rfl, hb7⟩
                have hV7 := hV9.keeps hb7 hV9.1
                have hal := (Below.refl w7.heap.size w7).alloc (Nat.le_refl _) (.cells #[.string up, .int .i64 ui, .bool ud, .string us] 38)
                have hR8 := (hR6.below hb7).below hal
                have hF8 := (hF6.below hb7).below hal
                have hb8w := (hb6w.trans (hb7.mono hb6w.size)).trans (hal.mono (Nat.le_trans hb6w.size hb7.size))
                have hV8 := hV7.keeps hal hV7.1
                have hV11 := VarAt.new w7 #[.string up, .int .i64 ui, .bool ud, .string us] 38
                obtain ⟨b11, hb11⟩ : ∃ b11, b11 = w7.heap.size := ⟨_, rfl⟩
                rw [← hb11] at hV11
                have Hb11 := Lib.hid hb11
                clear hb11 hV9 hV7 hal hR6 hF6 hb6w hb7 x2'
                go_wp2_with fail
                rw [← Hb11.out]
                generalize w7.alloc (.cells #[.string up, .int .i64 ui, .bool ud, .string us] 38) = W8 at *
                obtain ⟨av, cv, rfl, hrow, hcv, hlow, hown⟩ := own_lowR hR8.rows
                have HL := Lib.hid (flist_any fb mb' f' W8.drew (hF8.below (belowDrew (Below.refl _ W8) 1)) Hok2.out.rise Hok2.out.few (fun y hy => path_size (Hok2.out.path y hy)))
                have hfew5 : f'.es.length ≤ 300 := Hok2.out.few
                have hqe : (er != er) = false := by simp
                have hqg : (g != g) = false := by simp
                have hqs : ∀ W, (binOp .neq 38 (.agg #[.string up, .int .i64 ui, .bool ud, .string us]) (.agg #[.string up, .int .i64 ui, .bool ud, .string us])).run Tryd.prog W = .ok (.bool false) W := fun W => by
                  have := neqEnt ⟨up, ui, ud, us⟩ ⟨up, ui, ud, us⟩ W
                  rw [decide_eq_true rfl] at this
                  exact this
                have HK := Lib.hid (show ∀ W', Below W8.heap.size W8 W' → (Below W8.heap.size W8 W' ∧ W'.cell? ⟨b9, 0, none⟩ = some (.string up) ∧ W'.cell? ⟨b9, 1, none⟩ = some (.int .i64 ui) ∧ W'.cell? ⟨b9, 2, none⟩ = some (.bool ud) ∧ W'.cell? ⟨b9, 3, none⟩ = some (.string us) ∧ W'.cell? ⟨b11, 0, none⟩ = some (.string up) ∧ W'.cell? ⟨b11, 1, none⟩ = some (.int .i64 ui) ∧ W'.cell? ⟨b11, 2, none⟩ = some (.bool ud) ∧ W'.cell? ⟨b11, 3, none⟩ = some (.string us) ∧ W'.cell? ⟨rb, 0, none⟩ = some (.slice av f'.es.length cv)) from fun W' h => ⟨h, (hV8.keeps h hV8.1).2.2 0 _ rfl, (hV8.keeps h hV8.1).2.2 1 _ rfl, (hV8.keeps h hV8.1).2.2 2 _ rfl, (hV8.keeps h hV8.1).2.2 3 _ rfl, (hV11.keeps h hV11.1).2.2 0 _ rfl, (hV11.keeps h hV11.1).2.2 1 _ rfl, (hV11.keeps h hV11.1).2.2 2 _ rfl, (hV11.keeps h hV11.1).2.2 3 _ rfl, (hR8.var.keeps h hR8.var.1).2.2 0 _ rfl⟩)
                have hkb : Below W8.heap.size W8 W8.drew := belowDrew (Below.refl _ W8) 1
                have hkk := HK.out W8.drew hkb
                have HRW := Lib.hid hrow
                have HR8 := Lib.hid hR8
                have HF8 := Lib.hid hF8
                have HLs := Lib.hid fun W (h : Below W8.heap.size W8 W) => flist_any fb mb' f' W (HF8.out.below h) Hok2.out.rise Hok2.out.few (fun y hy => path_size (Hok2.out.path y hy))
                clear hrow hR8 hF8 hlow hown hV8 hV11 HL
                go_wp2_with fail
                go_region_held3 (fun w' => Below W8.heap.size W8 w' ∧ w'.cell? ⟨b9, 0, none⟩ = some (.string up) ∧ w'.cell? ⟨b9, 1, none⟩ = some (.int .i64 ui) ∧ w'.cell? ⟨b9, 2, none⟩ = some (.bool ud) ∧ w'.cell? ⟨b9, 3, none⟩ = some (.string us) ∧ w'.cell? ⟨b11, 0, none⟩ = some (.string up) ∧ w'.cell? ⟨b11, 1, none⟩ = some (.int .i64 ui) ∧ w'.cell? ⟨b11, 2, none⟩ = some (.bool ud) ∧ w'.cell? ⟨b11, 3, none⟩ = some (.string us) ∧ w'.cell? ⟨rb, 0, none⟩ = some (.slice av f'.es.length cv))
                  (first | exact hkk | exact HK.out _ (keepS hkb hbl) | exact HK.out _ (belowDrew (keepS hkb hbl) _) | exact HK.out _ (keepS (by assumption) hbl) | go_keep)
                  (first | (go_at_call 24; refine (HLs.out _ (by assumption)).mono ?_; rintro e w' ⟨vl, rfl, hov, hbl⟩; obtain ⟨al, cl, rfl, hrl, hcl⟩ := hov.read) | (go_at_call 23; refine (esame_any al av cl cv f'.es f'.es _ (by omega) hrl (HRW.out.keeps (keepS hkb hbl))).mono ?_; rintro e w' ⟨rfl, n10, rfl⟩))
                have hbz := belowDrew (keepS hkb hbl) n10
                clear hkk
                go_wp2_with fail
                go_roundw
                case rel => exact ⟨k + 1, f', mb', .slice av f'.es.length cv, by omega, by omega, by go_num, by omega, HF8.out.below hbz, HR8.out.below hbz, Lib.hid ⟨Hok2.out, Hst.out.ids⟩, hmw4, hmr4, hvf', hvm', hb8w.trans (hbz.mono hb8w.size)⟩
                case measure => simp [RowKit.intOf]; omega
      · have h1 : ¬ ((k : Int) < 100) := by omega
        go_wp2_with fail
        refine (HAW.out _ (hm.keeps hb)).mono ?_
        rintro e wq ⟨rfl, hbq⟩
        go_wp2_with fail
        go_ret
        exact ⟨rfl, hb.trans (hbq.mono hb.size)⟩
    · have h1 : ¬ ((k : Int) < xs.length) := by omega
      go_wp2_with fail
      refine (HAW.out _ (hm.keeps hb)).mono ?_
      rintro e wq ⟨rfl, hbq⟩
      go_wp2_with fail
      go_ret
      exact ⟨rfl, hb.trans (hbq.mono hb.size)⟩
end Go.Proofs.YtgjgeojhhglidaaDoor
