/-
  The reference's Rename.
-/
import Derived.Test.YtgjgeojhhglidaaDoorFsR5
namespace Go.Proofs.YtgjgeojhhglidaaDoor
open Go Go.RowKit Go.Lib

set_option maxRecDepth 100000 in
set_option maxHeartbeats 6400000 in
/-- **Rename.** -/
theorem rrename_any (rb base : Nat) (v : Value) (f : Fs) (a b : ByteArray) (w : World) (h : RAt w rb base v f) (hok : FsOK f) (hpa : a.size ≤ 100000) (hpb : b.size ≤ 100000) (hbase : base ≤ w.heap.size) :
    Calls Tryd.prog 19 #[.pointer (some ⟨rb, 0, none⟩), .string a, .string b] w fun e w' => e = .returned (.int .i64 (renameF f a b).2) ∧ ∃ v', RAt w' rb base v' (renameF f a b).1 ∧ (v' = v ∨ ∀ k, v'.ownBlock = some k → w.heap.size ≤ k) ∧ Turned (RS rb v) w.heap.size w w' := by
  obtain ⟨av, cv, hve, hrow, hcv, hlow, hown⟩ := own_lowR h.rows
  have hfew := hok.few
  have Hok := Lib.hid hok
  have HA := Lib.hid fun W (hb : Below w.heap.size w W) => rat_any rb av cv f.n f.es a W (by have := (h.below hb).var; rw [hve] at this; exact this) (hrow.keeps hb) Hok.out.rise (by omega)
  have HB := Lib.hid fun W (hb : Below w.heap.size w W) => rat_any rb av cv f.n f.es b W (by have := (h.below hb).var; rw [hve] at this; exact this) (hrow.keeps hb) Hok.out.rise (by omega)
  have HP := Lib.hid fun W => rpath_any b W hpb
  have HIn := Lib.hid fun q W => rin_any q a W hpa
  have HPut := Lib.hid fun (s : Option Addr × Nat) (l : List Ent) (x : Ent) (W : World) (hR : RowsAt entLay W s.1 l) (hl : l.length ≤ 1000) => rput_any s.1 s.2 l x W hR hl
  clear hok
  cases hfa : findE f.es a with
  | none =>
    have hM := rename_no (b := b) hfa
    rw [hfa] at HA
    clear hfa
    go_enter Tryd.func19, Tryd.ntmps19
    go_wp2_with fail
    refine (HA.out _ (Below.refl _ _)).mono ?_
    rintro e w2 ⟨k, rfl, hkf, n2, rfl⟩
    have hb2 := belowDrew (Below.refl w.heap.size w) n2
    generalize w.drewN n2 = w3 at *
    clear hkf
    go_wp2_with fail
    go_ret
    rw [hM]
    exact ⟨rfl, _, h.below hb2, .inl rfl, Turned.of_below hb2 (Nat.le_refl _)⟩
  | some x0 =>
    rw [hfa] at HA
    cases hpg : pathG b.data.toList with
    | false =>
      have hM := rename_bad hfa hpg
      rw [hpg] at HP
      clear hfa
      go_enter Tryd.func19, Tryd.ntmps19
      go_wp2_with fail
      refine (HA.out _ (Below.refl _ _)).mono ?_
      rintro e w2 ⟨k, rfl, hkf, n2, rfl⟩
      have hb2 := belowDrew (Below.refl w.heap.size w) n2
      generalize w.drewN n2 = w3 at *
      clear hkf
      go_wp2_with fail
      refine (HP.out w3).mono ?_
      rintro e w4 ⟨rfl, hbp⟩
      have hb4 := hb2.trans (hbp.mono hb2.size)
      go_wp2_with fail
      go_ret
      rw [hM]
      exact ⟨rfl, _, h.below hb4, .inl rfl, Turned.of_below hb4 (Nat.le_refl _)⟩
    | true =>
      rw [hpg] at HP
      have hb400 := path_size hpg
      have HS := Lib.hid fun W (hb : Below w.heap.size w W) => rstands_any rb av cv f.n f.es b W (by have := (h.below hb).var; rw [hve] at this; exact this) (hrow.keeps hb) Hok.out.rise (by omega) hpb (path_rights hpg)
      cases hfb : findE f.es b with
      | some y0 =>
        have hM := rename_twice hfa hpg hfb
        rw [hfb] at HB
        clear hfa hfb
        go_enter Tryd.func19, Tryd.ntmps19
        go_wp2_with fail
        refine (HA.out _ (Below.refl _ _)).mono ?_
        rintro e w2 ⟨k, rfl, hkf, n2, rfl⟩
        have hb2 := belowDrew (Below.refl w.heap.size w) n2
        generalize w.drewN n2 = w3 at *
        clear hkf
        go_wp2_with fail
        refine (HP.out w3).mono ?_
        rintro e w4 ⟨rfl, hbp⟩
        have hb4 := hb2.trans (hbp.mono hb2.size)
        go_wp2_with fail
        refine (HB.out _ hb4).mono ?_
        rintro e w5 ⟨k2, rfl, hkf2, n5, rfl⟩
        have hb5 := belowDrew hb4 n5
        generalize w4.drewN n5 = w6 at *
        clear hkf2
        go_wp2_with fail
        go_ret
        rw [hM]
        exact ⟨rfl, _, h.below hb5, .inl rfl, Turned.of_below hb5 (Nat.le_refl _)⟩
      | none =>
        rw [hfb] at HB
        cases hst : standsE f.es b with
        | false =>
          have hM := rename_dir hfa hpg hfb (.inl hst)
          rw [hst] at HS
          clear hfa hfb hst
          go_enter Tryd.func19, Tryd.ntmps19
          go_wp2_with fail
          refine (HA.out _ (Below.refl _ _)).mono ?_
          rintro e w2 ⟨k, rfl, hkf, n2, rfl⟩
          have hb2 := belowDrew (Below.refl w.heap.size w) n2
          generalize w.drewN n2 = w3 at *
          clear hkf
          go_wp2_with fail
          refine (HP.out w3).mono ?_
          rintro e w4 ⟨rfl, hbp⟩
          have hb4 := hb2.trans (hbp.mono hb2.size)
          go_wp2_with fail
          refine (HB.out _ hb4).mono ?_
          rintro e w5 ⟨k2, rfl, hkf2, n5, rfl⟩
          have hb5 := belowDrew hb4 n5
          generalize w4.drewN n5 = w6 at *
          clear hkf2
          go_wp2_with fail
          refine (HS.out _ hb5).mono ?_
          rintro e w7 ⟨rfl, n7, rfl⟩
          have hb7 := belowDrew hb5 n7
          generalize w6.drewN n7 = w8 at *
          go_wp2_with fail
          go_ret
          rw [hM]
          exact ⟨rfl, _, h.below hb7, .inl rfl, Turned.of_below hb7 (Nat.le_refl _)⟩
        | true =>
          rw [hst] at HS
          cases hun : underB b a with
          | true =>
            have hM := rename_dir hfa hpg hfb (.inr hun)
            clear hfa hfb hst
            go_enter Tryd.func19, Tryd.ntmps19
            go_wp2_with fail
            refine (HA.out _ (Below.refl _ _)).mono ?_
            rintro e w2 ⟨k, rfl, hkf, n2, rfl⟩
            have hb2 := belowDrew (Below.refl w.heap.size w) n2
            generalize w.drewN n2 = w3 at *
            clear hkf
            go_wp2_with fail
            refine (HP.out w3).mono ?_
            rintro e w4 ⟨rfl, hbp⟩
            have hb4 := hb2.trans (hbp.mono hb2.size)
            go_wp2_with fail
            refine (HB.out _ hb4).mono ?_
            rintro e w5 ⟨k2, rfl, hkf2, n5, rfl⟩
            have hb5 := belowDrew hb4 n5
            generalize w4.drewN n5 = w6 at *
            clear hkf2
            go_wp2_with fail
            refine (HS.out _ hb5).mono ?_
            rintro e w7 ⟨rfl, n7, rfl⟩
            have hb7 := belowDrew hb5 n7
            generalize w6.drewN n7 = w8 at *
            go_wp2_with fail
            refine (HIn.out b _).mono ?_
            rintro e w9 ⟨rfl, hw9⟩
            rw [hw9]
            clear hw9 w9
            rw [hun]
            go_wp2_with fail
            go_ret
            rw [hM]
            exact ⟨rfl, _, h.below hb7, .inl rfl, Turned.of_below hb7 (Nat.le_refl _)⟩
          | false =>
            have HMay := Lib.hid (show (∀ x ∈ f.es, inE a x.path = true → pathG (newP a b x.path).data.toList = true) → renameF f a b = (⟨f.n, sortE (f.es.map (movE a b))⟩, 0) from fun hall => rename_does ⟨⟨_, hfa⟩, hpg, hfb, hst, hun, hall⟩)
            have HDeep := Lib.hid (show ∀ y ∈ f.es, inE a y.path = true → pathG (newP a b y.path).data.toList = false → renameF f a b = (f, 23) from fun y hy h1 h2 => rename_deep hfa hpg hfb hst hun hy h1 h2)
            have Hpg := Lib.hid hpg
            have Hfb := Lib.hid hfb
            have Hun := Lib.hid hun
            clear hfa hfb hst hpg hun
            go_enter Tryd.func19, Tryd.ntmps19
            go_wp2_with fail
            refine (HA.out _ (Below.refl _ _)).mono ?_
            rintro e w2 ⟨k, rfl, hkf, n2, rfl⟩
            have hb2 := belowDrew (Below.refl w.heap.size w) n2
            generalize w.drewN n2 = w3 at *
            clear hkf
            go_wp2_with fail
            refine (HP.out w3).mono ?_
            rintro e w4 ⟨rfl, hbp⟩
            have hb4 := hb2.trans (hbp.mono hb2.size)
            go_wp2_with fail
            refine (HB.out _ hb4).mono ?_
            rintro e w5 ⟨k2, rfl, hkf2, n5, rfl⟩
            have hb5 := belowDrew hb4 n5
            generalize w4.drewN n5 = w6 at *
            clear hkf2
            go_wp2_with fail
            refine (HS.out _ hb5).mono ?_
            rintro e w7 ⟨rfl, n7, rfl⟩
            have hb7 := belowDrew hb5 n7
            generalize w6.drewN n7 = w8 at *
            go_wp2_with fail
            refine (HIn.out b _).mono ?_
            rintro e w9 ⟨rfl, hw9⟩
            rw [hw9]
            clear hw9 w9
            rw [Hun.out]
            have HRW := Lib.hid (hrow.keeps hb7)
            have hvar3 := (h.below hb7).var
            have hrbw : rb < w8.heap.size := hvar3.1
            have hrb0 := h.var.1
            have hz8 := hb7.size
            rw [hve] at hvar3
            have HV := Lib.hid hvar3
            clear hvar3 HA HB HS
            go_wp2_with fail
            go_loopw [11, 12, 13] (fun v i _ wr => ∃ (k : Nat) (R : List Ent), k ≤ f.es.length ∧ i = .int .i64 k ∧ OwnRows entLay wr w8.heap.size 38 v R ∧ Rising R ∧ Hid (∀ z, z ∈ R ↔ ∃ x ∈ f.es.take k, z = movE a b x) ∧ Hid (∀ x ∈ f.es.take k, inE a x.path = true → pathG (newP a b x.path).data.toList = true) ∧ R.length ≤ k ∧ Below w8.heap.size w8 wr) (fun _ i _ _ => f.es.length - (RowKit.intOf i).toNat)
            case atStart => exact ⟨0, [], Nat.zero_le _, rfl, OwnRows.nil _ _ _ _, List.Pairwise.nil, Lib.hid (fun z => by rw [List.take_zero]; exact ⟨(fun h => nomatch h), (fun ⟨_, h, _⟩ => nomatch h)⟩), Lib.hid (fun x hx => by rw [List.take_zero] at hx; cases hx), Nat.le_refl _, Below.refl _ _⟩
            case round =>
              obtain ⟨k, R, hk, rfl, ho, hrR, HmR, HpR, hlR, hb⟩ := hrel
              have q0 := (HV.out.keeps hb hrbw).2.2 0 _ rfl
              by_cases hlt : k < f.es.length
              · obtain ⟨x, hx⟩ := at_some hlt
                have hxm := List.mem_of_getElem? hx
                obtain ⟨bb, off, hae, hbl, d0, d1, d2, d3⟩ := ent_at (HRW.out.keeps hb) hx
                rw [hae] at q0
                have hlti : (k : Int) < (f.es.length : Int) := by omega
                have Hx := Lib.hid hx
                have Hdeep := Lib.hid (HDeep.out x hxm)
                have hps := path_size (Hok.out.path x hxm)
                have Hnew := Lib.hid (show ∀ y0 ∈ f.es.take k, (movE a b y0).path ≠ (movE a b x).path from fun y0 hy0 e => by
                  have h1 := mov_one Hok.out Hpg.out Hfb.out (List.mem_of_mem_take hy0) hxm e
                  obtain ⟨j, hj⟩ := List.mem_iff_getElem?.1 hy0
                  have hj2 := (List.getElem?_eq_some_iff.1 hj).1
                  rw [List.length_take] at hj2
                  rw [List.getElem?_take_of_lt (by omega), h1] at hj
                  have := nodup_at (rising_nodup Hok.out.rise) hj hx
                  omega)
                obtain ⟨xp, xi, xd, xs⟩ := x
                dsimp only at d0 d1 d2 d3 hps Hdeep
                clear hx hxm
                have hbx := hb.alloc hb.size (.cells #[.string xp, .int .i64 xi, .bool xd, .string xs] 38)
                have hVx := VarAt.new wr #[.string xp, .int .i64 xi, .bool xd, .string xs] 38
                have hox := ho.alloc (.cells #[.string xp, .int .i64 xi, .bool xd, .string xs] 38)
                obtain ⟨bx, hbxe⟩ : ∃ bx, bx = wr.heap.size := ⟨_, rfl⟩
                have hbx8 : w8.heap.size ≤ bx := by rw [hbxe]; exact hb.size
                have hown5 : ∀ g, u11.ownBlock = some g → g < bx := fun g hg => by rw [hbxe]; exact (ho.lt hg).2
                rw [← hbxe] at hVx
                have Hbx := Lib.hid hbxe
                clear hbxe
                go_upto_region 16 with fail
                rw [← Hbx.out]
                generalize wr.alloc (.cells #[.string xp, .int .i64 xi, .bool xd, .string xs] 38) = Wx at *
                have v0 : Wx.cell? ⟨bx, 0, none⟩ = some (.string xp) := hVx.2.2 0 _ rfl
                go_cut [66] from 41 to 81 (fun c wx => c = .bool (inE a xp) ∧ wx = Wx)
                case first =>
                  by_cases h0 : xp = a
                  · have e1 := str_eq h0
                    have hin : inE a xp = true := inE_iff.2 (.inl h0)
                    clear h0
                    go_wp2_with fail
                    go_meet
                    exact ⟨by rw [hin], rfl⟩
                  · have e1 := str_ne h0
                    have hin : inE a xp = underB xp a := by
                      unfold inE
                      rw [decide_eq_false h0, Bool.false_or]
                    clear h0
                    go_wp2_with fail
                    refine (HIn.out xp _).mono ?_
                    rintro e w10 ⟨rfl, rfl⟩
                    go_wp2_with fail
                    go_meet
                    exact ⟨by rw [hin], rfl⟩
                case rest =>
                  obtain ⟨hc, hwc⟩ := hcut
                  rw [← hwc] at hVx hox hbx
                  clear v0 hwc d0 d1 d2 d3 hbl ho hb q0 Hbx
                  obtain ⟨al, cl, rfl, hrl, hcl⟩ := hox.read
                  cases hin : inE a xp with
                  | true =>
                    replace hc := hc.trans (show _ = Value.bool true by rw [hin])
                    subst hc
                    have Hgood0 := hin
                    have has := in_size hin
                    have hmv := movE_in (b := b) (x := ⟨xp, xi, xd, xs⟩) hin
                    have Hd := Lib.hid (Hdeep.out hin)
                    dsimp only at hmv
                    have Hmv := Lib.hid hmv
                    have hnw := Hnew.out
                    rw [hmv] at hnw
                    have Hnew := Lib.hid hnw
                    clear hmv hin hnw Hdeep
                    have hs0 : (0 : Int) ≤ (a.size : Int) := by omega
                    have hs1 : (a.size : Int) ≤ (xp.size : Int) := by omega
                    have hB1 : ¬ (b.size + (xp.size - a.size) > 9223372036854775807) := by omega
                    have hB2 : b.size + (xp.size - a.size) ≤ 9223372036854775807 := by omega
                    have Hnp := Lib.hid (show newP a b xp = b ++ xp.extract a.size xp.size from rfl)
                    have hns := newP_size (a := a) hb400 hps
                    have v0 : wc.cell? ⟨bx, 0, none⟩ = some (.string xp) := hVx.2.2 0 _ rfl
                    have z0 : wc.frozen? ⟨bx, 0, none⟩ = false := hVx.2.1 0
                    have hVs := hVx.set 0 (.string (b ++ xp.extract a.size xp.size)) (by simp)
                    dsimp only [List.set] at hVs
                    have y0 : (wc.setCell ⟨bx, 0, none⟩ (.string (b ++ xp.extract a.size xp.size))).cell? ⟨bx, 0, none⟩ = some (.string (b ++ xp.extract a.size xp.size)) := hVs.2.2 0 _ rfl
                    have hbs := hbx.setCell (p := ⟨bx, 0, none⟩) hbx8 (.string (b ++ xp.extract a.size xp.size))
                    have hrs := hrl.turned (S := fun j => j = bx) ((Turned.refl (fun j => j = bx) bx wc).set 0 (.string (b ++ xp.extract a.size xp.size)) (fun _ => rfl)) (fun ad e => by
                      have := hown5 ad.block (by rw [e]; rfl)
                      exact ⟨this, by show ¬ ad.block = bx; omega⟩)
                    have HPq := Lib.hid fun W => rpath_any (newP a b xp) W (by omega)
                    go_wp2_with fail
                    rw [← Hnp.out]
                    rw [← Hnp.out] at hVs y0 hbs hrs
                    generalize wc.setCell ⟨bx, 0, none⟩ (.string (newP a b xp)) = Wy at *
                    refine (HPq.out _).mono ?_
                    rintro e w11 ⟨rfl, hb11⟩
                    have hby := hbs.trans (hb11.mono hbs.size)
                    cases hpn : pathG (newP a b xp).data.toList with
                    | false =>
                      have hM := Hd.out hpn
                      have hb11w := hb7.trans (hby.mono hz8)
                      go_wp2_with fail
                      go_ret
                      rw [hM]
                      exact ⟨rfl, _, h.below hb11w, .inl rfl, Turned.of_below hb11w (Nat.le_refl _)⟩
                    | true =>
                      have Hgood := Lib.hid (show inE a xp = true → pathG (newP a b xp).data.toList = true from fun _ => hpn)
                      have hVy := hVs.keeps hb11 hVs.1
                      have y0 : w11.cell? ⟨bx, 0, none⟩ = some (.string (newP a b xp)) := hVy.2.2 0 _ rfl
                      have y1 : w11.cell? ⟨bx, 1, none⟩ = some (.int .i64 xi) := hVy.2.2 1 _ rfl
                      have y2 : w11.cell? ⟨bx, 2, none⟩ = some (.bool xd) := hVy.2.2 2 _ rfl
                      have y3 : w11.cell? ⟨bx, 3, none⟩ = some (.string xs) := hVy.2.2 3 _ rfl
                      have hry := hrs.keeps hb11
                      clear hVs hbs hrs hVx hbx hrl hox v0 z0
                      go_wp2_with fail
                      refine (HPut.out (al, cl) R ⟨newP a b xp, xi, xd, xs⟩ _ hry (by omega)).mono ?_
                      rintro e w12 ⟨v2, rfl, ho12, hb12⟩
                      have hz12 := hby.size
                      have hb12w := hby.trans (hb12.mono hby.size)
                      go_wp2_with fail
                      go_roundw
                      case rel =>
                        refine ⟨k + 1, insE ⟨newP a b xp, xi, xd, xs⟩ R, by omega, by go_num, ho12.lower hz12, rising_ins hrR (fun y hy e => ?_), Lib.hid (fun z => ?_), Lib.hid (fun z hz hi => ?_), by rw [len_ins]; omega, hb12w⟩
                        · obtain ⟨y0, hy0, rfl⟩ := (HmR.out y).1 hy
                          exact Hnew.out y0 hy0 e
                        · rw [mem_insE, HmR.out z, take_snoc Hx.out]
                          constructor
                          · rintro (rfl | ⟨x0, hx0, e⟩)
                            · exact ⟨_, List.mem_append_right _ (List.mem_singleton.2 rfl), Hmv.out.symm⟩
                            · exact ⟨x0, List.mem_append_left _ hx0, e⟩
                          · rintro ⟨x0, hx0, e⟩
                            rcases List.mem_append.1 hx0 with hx0 | hx0
                            · exact .inr ⟨x0, hx0, e⟩
                            · rw [List.mem_singleton.1 hx0, Hmv.out] at e
                              exact .inl e
                        · rw [take_snoc Hx.out] at hz
                          rcases List.mem_append.1 hz with hz | hz
                          · exact HpR.out z hz hi
                          · rw [List.mem_singleton.1 hz] at hi ⊢
                            exact Hgood.out hi
                      case measure => simp [RowKit.intOf]; omega
                  | false =>
                    replace hc := hc.trans (show _ = Value.bool false by rw [hin])
                    subst hc
                    have hmv := movE_out (b := b) (x := ⟨xp, xi, xd, xs⟩) hin
                    have Hgood := Lib.hid (show inE a xp = true → pathG (newP a b xp).data.toList = true from fun e => by rw [hin] at e; cases e)
                    have Hmv := Lib.hid hmv
                    have hnw := Hnew.out
                    rw [hmv] at hnw
                    have Hnew := Lib.hid hnw
                    clear hmv hin hnw Hdeep
                    have y0 : wc.cell? ⟨bx, 0, none⟩ = some (.string xp) := hVx.2.2 0 _ rfl
                    have y1 : wc.cell? ⟨bx, 1, none⟩ = some (.int .i64 xi) := hVx.2.2 1 _ rfl
                    have y2 : wc.cell? ⟨bx, 2, none⟩ = some (.bool xd) := hVx.2.2 2 _ rfl
                    have y3 : wc.cell? ⟨bx, 3, none⟩ = some (.string xs) := hVx.2.2 3 _ rfl
                    clear hVx hox
                    go_wp2_with fail
                    refine (HPut.out (al, cl) R ⟨xp, xi, xd, xs⟩ _ hrl (by omega)).mono ?_
                    rintro e w12 ⟨v2, rfl, ho12, hb12⟩
                    have hz12 := hbx.size
                    have hb12w := hbx.trans (hb12.mono hbx.size)
                    go_wp2_with fail
                    go_roundw
                    case rel =>
                      refine ⟨k + 1, insE ⟨xp, xi, xd, xs⟩ R, by omega, by go_num, ho12.lower hz12, rising_ins hrR (fun y hy e => ?_), Lib.hid (fun z => ?_), Lib.hid (fun z hz hi => ?_), by rw [len_ins]; omega, hb12w⟩
                      · obtain ⟨y0, hy0, rfl⟩ := (HmR.out y).1 hy
                        exact Hnew.out y0 hy0 e
                      · rw [mem_insE, HmR.out z, take_snoc Hx.out]
                        constructor
                        · rintro (rfl | ⟨x0, hx0, e⟩)
                          · exact ⟨_, List.mem_append_right _ (List.mem_singleton.2 rfl), Hmv.out.symm⟩
                          · exact ⟨x0, List.mem_append_left _ hx0, e⟩
                        · rintro ⟨x0, hx0, e⟩
                          rcases List.mem_append.1 hx0 with hx0 | hx0
                          · exact .inr ⟨x0, hx0, e⟩
                          · rw [List.mem_singleton.1 hx0, Hmv.out] at e
                            exact .inl e
                      · rw [take_snoc Hx.out] at hz
                        rcases List.mem_append.1 hz with hz | hz
                        · exact HpR.out z hz hi
                        · rw [List.mem_singleton.1 hz] at hi ⊢
                          exact Hgood.out hi
                    case measure => simp [RowKit.intOf]; omega
              · obtain rfl : k = f.es.length := by omega
                have hmR := HmR.out
                have hpR := HpR.out
                rw [List.take_length] at hmR hpR
                have hRe := renamed_ext Hok.out Hpg.out Hfb.out hrR hmR
                have hM := HMay.out hpR
                rw [hRe] at ho
                obtain ⟨av2, cv2, rfl, hrow2, hcv2⟩ := ho.read
                have hVr := HV.out.keeps hb hrbw
                have qf := hVr.2.1 0
                have hbz := hb7.trans (hb.mono hz8)
                have hzr := hb.size
                go_wp2_with fail
                go_ret
                rw [hM]
                refine ⟨rfl, _, ⟨hVr.set 0 _ (by simp), (ho.turned (S := fun k => k = rb) ((Turned.refl _ _ _).set 0 _ (fun _ => rfl)) (fun k hk => by rw [hk]; omega)).lower (by omega), fun e => ?_⟩, .inr fun k hk => ?_, (Turned.of_below hbz (Nat.le_refl _)).set 0 _ (fun _ => .inl rfl)⟩
                · have := (ho.lt e).1
                  omega
                · have := (ho.lt hk).1
                  omega
end Go.Proofs.YtgjgeojhhglidaaDoor
