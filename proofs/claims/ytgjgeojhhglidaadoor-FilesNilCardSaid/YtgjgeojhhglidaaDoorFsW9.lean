/-
  Rename.
-/
import Derived.Test.YtgjgeojhhglidaaDoorFsW8
namespace Go.Proofs.YtgjgeojhhglidaaDoor
open Go Go.RowKit Go.Lib

section
variable {P : Program}
theorem wpList_update_run {ops : Array Oper} {rest : List Oper} {o : Oper} {a : Act} {w : World} {Q : Exit → Act → World → Prop} (hg : o.guard = none) (m x v : Operand) (t : TypeId) (hop : o.op = Op.mapUpdate t m x v)
    (mv kv vv : Value) (hm : a.eval m = mv) (hx : a.eval x = kv) (hv : a.eval v = vv) {w' : World} (hr : (Instr.mapUpdate t mv kv vv).run P w = .ok () w') (hK : wpList P ops Q rest (a.put o.dst undef) w') :
    wpList P ops Q (o :: rest) a w := by
  refine wpList_plain hg fun K' hK' => ?_
  unfold Oper.wp
  simp [execOp, hop, hm, hx, hv, hr, Result.andThen]
  exact hK' _ _ hK
end
set_option maxRecDepth 100000 in
set_option maxHeartbeats 6400000 in
/-- **Rename.** -/
theorem frename_any (fb mb : Nat) (f : Fs) (a b : ByteArray) (w : World) (h : FAt w fb mb f) (hok : FsOK f) (hpa : a.size ≤ 100000) (hpb : b.size ≤ 100000) (hm : MaxAt w) :
    Calls Tryd.prog 26 #[.pointer (some ⟨fb, 0, none⟩), .string a, .string b] w fun e w' => e = .returned (.int .i64 (renameF f a b).2) ∧ ∃ mb', FAt w' fb mb' (renameF f a b).1 ∧ (mb' = mb ∨ w.heap.size ≤ mb') ∧ Turned (FsS fb mb) w.heap.size w w' := by
  have HG := Lib.hid (fget_any fb mb f a w h (by unfold maxLen; omega))
  have HP := Lib.hid fun W hM => path_any b W hpb hM
  have HPN := Lib.hid fun q W (hq : q.size ≤ 100000) hM => path_any q W hq hM
  have HB := Lib.hid fun W hF => fbelow_any fb mb f a W hF hok hpa
  have Hok := Lib.hid hok
  have hfew := hok.few
  clear hok
  cases hfa : findE f.es a with
  | none =>
    have hM := rename_no (b := b) hfa
    rw [getF_none hfa] at HG
    rw [show noEnt.val = .agg #[.string ⟨#[]⟩, .int .i64 0, .bool false, .string ⟨#[]⟩] from rfl] at HG
    dsimp only at HG
    clear hfa HB HP HPN
    go_enter Tryd.func26, Tryd.ntmps26
    go_wp2_with fail
    refine HG.out.mono ?_
    rintro e w1 ⟨rfl, hb1⟩
    have hbz := hb1.alloc hb1.size (.cells #[.string ⟨#[]⟩, .int .i64 0, .bool false, .string ⟨#[]⟩] 38)
    go_wp2_with fail
    go_ret
    rw [hM]
    exact ⟨rfl, mb, h.below hbz, .inl rfl, Turned.of_below hbz (Nat.le_refl _)⟩
  | some x =>
    rw [getF_some hfa] at HG
    have hxa : x.path = a := (find_some hfa).2
    obtain ⟨xp, xi, xd, xs⟩ := x
    rw [show Ent.val ⟨xp, xi, xd, xs⟩ = .agg #[.string xp, .int .i64 xi, .bool xd, .string xs] from rfl] at HG
    dsimp only at HG hxa
    have ha400 : a.size ≤ 400 := by
      rw [← hxa]
      exact path_size (Hok.out.path _ (find_some hfa).1)
    clear hxa
    cases hpg : pathG b.data.toList with
    | false =>
      have hM := rename_bad hfa hpg
      rw [hpg] at HP
      clear hfa HB HPN
      go_enter Tryd.func26, Tryd.ntmps26
      go_wp2_with fail
      refine HG.out.mono ?_
      rintro e w1 ⟨rfl, hb1⟩
      have hbz := hb1.alloc hb1.size (.cells #[.string xp, .int .i64 xi, .bool xd, .string xs] 38)
      go_wp2_with fail
      generalize w1.alloc (.cells #[.string xp, .int .i64 xi, .bool xd, .string xs] 38) = W1 at *
      refine (HP.out _ (hm.keeps hbz)).mono ?_
      rintro e w2 ⟨rfl, hb2⟩
      have hb2w := hbz.trans (hb2.mono hbz.size)
      have hF2 := h.below hb2w
      go_wp2_with fail
      go_ret
      rw [hM]
      exact ⟨rfl, mb, hF2, .inl rfl, Turned.of_below hb2w (Nat.le_refl _)⟩
    | true =>
      rw [hpg] at HP
      have hb400 := path_size hpg
      cases hfb : findE f.es b with
      | some y =>
        have hM := rename_twice hfa hpg hfb
        obtain ⟨yp, yi, yd, ys⟩ := y
        clear hfa HB HPN
        go_enter Tryd.func26, Tryd.ntmps26
        go_wp2_with fail
        refine HG.out.mono ?_
        rintro e w1 ⟨rfl, hb1⟩
        have hbz := hb1.alloc hb1.size (.cells #[.string xp, .int .i64 xi, .bool xd, .string xs] 38)
        go_wp2_with fail
        generalize w1.alloc (.cells #[.string xp, .int .i64 xi, .bool xd, .string xs] 38) = W1 at *
        refine (HP.out _ (hm.keeps hbz)).mono ?_
        rintro e w2 ⟨rfl, hb2⟩
        have hb2w := hbz.trans (hb2.mono hbz.size)
        have hF2 := h.below hb2w
        have k1 := hF2.1.2.2 1 _ rfl
        have hl := hF2.2.look (p := b) (by unfold maxLen; omega)
        rw [hfb] at hl
        rw [show ((some (⟨yp, yi, yd, ys⟩ : Ent)).getD noEnt).val = .agg #[.string yp, .int .i64 yi, .bool yd, .string ys] from rfl, show (some (⟨yp, yi, yd, ys⟩ : Ent)).isSome = true from rfl] at hl
        have hbq := hb2w.alloc hb2w.size (.cells #[.string yp, .int .i64 yi, .bool yd, .string ys] 38)
        go_wp2_with fail
        go_ret
        rw [hM]
        exact ⟨rfl, mb, h.below hbq, .inl rfl, Turned.of_below hbq (Nat.le_refl _)⟩
      | none =>
        cases hst : standsE f.es b with
        | false =>
          have hM := rename_dir hfa hpg hfb (.inl hst)
          clear hfa HB HPN
          go_enter Tryd.func26, Tryd.ntmps26
          go_wp2_with fail
          refine HG.out.mono ?_
          rintro e w1 ⟨rfl, hb1⟩
          have hbz := hb1.alloc hb1.size (.cells #[.string xp, .int .i64 xi, .bool xd, .string xs] 38)
          go_wp2_with fail
          generalize w1.alloc (.cells #[.string xp, .int .i64 xi, .bool xd, .string xs] 38) = W1 at *
          refine (HP.out _ (hm.keeps hbz)).mono ?_
          rintro e w2 ⟨rfl, hb2⟩
          have hb2w := hbz.trans (hb2.mono hbz.size)
          have hF2 := h.below hb2w
          have k1 := hF2.1.2.2 1 _ rfl
          have hl := hF2.2.look (p := b) (by unfold maxLen; omega)
          rw [hfb] at hl
          rw [show ((none : Option Ent).getD noEnt).val = .agg #[.string ⟨#[]⟩, .int .i64 0, .bool false, .string ⟨#[]⟩] from rfl, show (none : Option Ent).isSome = false from rfl] at hl
          have hb3 := hb2w.alloc hb2w.size (.cells #[.string ⟨#[]⟩, .int .i64 0, .bool false, .string ⟨#[]⟩] 38)
          have hF3 := h.below hb3
          go_wp2_with fail
          clear hF2 k1 hl
          generalize w2.alloc (.cells #[.string ⟨#[]⟩, .int .i64 0, .bool false, .string ⟨#[]⟩] 38) = W3 at *
          have HS := Lib.hid (fstands_any fb mb f b W3 hF3 (by omega))
          rw [hst] at HS
          refine HS.out.mono ?_
          rintro e w4 ⟨rfl, n4, rfl⟩
          have hb4 := belowDrew hb3 n4
          have hF4 : FAt (W3.drewN n4) fb mb f := ⟨hF3.1, hF3.2.same rfl⟩
          generalize W3.drewN n4 = W4 at *
          go_wp2_with fail
          go_ret
          rw [hM]
          exact ⟨rfl, mb, hF4, .inl rfl, Turned.of_below hb4 (Nat.le_refl _)⟩
        | true =>
          have HH := Lib.hid fun W => (Tryd.strings_HasPrefix b (a ++ ⟨#[47]⟩) W).mono fun _ _ h => (⟨h.1, h.2.symm⟩ : _ ∧ W = _)
          rw [pref_under (path_rights hpg)] at HH
          have hA1 : ¬ (a.size + 1 > 9223372036854775807) := by omega
          have hA2 : a.size + 1 ≤ 9223372036854775807 := by omega
          cases hun : underB b a with
          | true =>
            have hM := rename_dir hfa hpg hfb (.inr hun)
            rw [hun] at HH
            clear hfa HB HPN
            go_enter Tryd.func26, Tryd.ntmps26
            go_wp2_with fail
            refine HG.out.mono ?_
            rintro e w1 ⟨rfl, hb1⟩
            have hbz := hb1.alloc hb1.size (.cells #[.string xp, .int .i64 xi, .bool xd, .string xs] 38)
            go_wp2_with fail
            generalize w1.alloc (.cells #[.string xp, .int .i64 xi, .bool xd, .string xs] 38) = W1 at *
            refine (HP.out _ (hm.keeps hbz)).mono ?_
            rintro e w2 ⟨rfl, hb2⟩
            have hb2w := hbz.trans (hb2.mono hbz.size)
            have hF2 := h.below hb2w
            have k1 := hF2.1.2.2 1 _ rfl
            have hl := hF2.2.look (p := b) (by unfold maxLen; omega)
            rw [hfb] at hl
            rw [show ((none : Option Ent).getD noEnt).val = .agg #[.string ⟨#[]⟩, .int .i64 0, .bool false, .string ⟨#[]⟩] from rfl, show (none : Option Ent).isSome = false from rfl] at hl
            have hb3 := hb2w.alloc hb2w.size (.cells #[.string ⟨#[]⟩, .int .i64 0, .bool false, .string ⟨#[]⟩] 38)
            have hF3 := h.below hb3
            go_wp2_with fail
            clear hF2 k1 hl
            generalize w2.alloc (.cells #[.string ⟨#[]⟩, .int .i64 0, .bool false, .string ⟨#[]⟩] 38) = W3 at *
            have HS := Lib.hid (fstands_any fb mb f b W3 hF3 (by omega))
            rw [hst] at HS
            refine HS.out.mono ?_
            rintro e w4 ⟨rfl, n4, rfl⟩
            have hb4 := belowDrew hb3 n4
            have hF4 : FAt (W3.drewN n4) fb mb f := ⟨hF3.1, hF3.2.same rfl⟩
            generalize W3.drewN n4 = W4 at *
            go_wp2_with fail
            refine (HH.out _).mono ?_
            rintro e w5 ⟨rfl, rfl⟩
            go_wp2_with fail
            go_ret
            rw [hM]
            exact ⟨rfl, mb, hF4, .inl rfl, Turned.of_below hb4 (Nat.le_refl _)⟩
          | false =>
            rw [hun] at HH
            have HMay := Lib.hid (show (∀ x ∈ f.es, inE a x.path = true → pathG (newP a b x.path).data.toList = true) → renameF f a b = (⟨f.n, sortE (f.es.map (movE a b))⟩, 0) from fun hall => rename_does ⟨⟨_, hfa⟩, hpg, hfb, hst, hun, hall⟩)
            have HDeep := Lib.hid (show ∀ y ∈ f.es, inE a y.path = true → pathG (newP a b y.path).data.toList = false → renameF f a b = (f, 23) from fun y hy h1 h2 => rename_deep hfa hpg hfb hst hun hy h1 h2)
            have Hpg := Lib.hid hpg
            have Hfb := Lib.hid hfb
            clear hfa hun
            go_enter Tryd.func26, Tryd.ntmps26
            go_wp2_with fail
            refine HG.out.mono ?_
            rintro e w1 ⟨rfl, hb1⟩
            have hbz := hb1.alloc hb1.size (.cells #[.string xp, .int .i64 xi, .bool xd, .string xs] 38)
            go_wp2_with fail
            generalize w1.alloc (.cells #[.string xp, .int .i64 xi, .bool xd, .string xs] 38) = W1 at *
            refine (HP.out _ (hm.keeps hbz)).mono ?_
            rintro e w2 ⟨rfl, hb2⟩
            have hb2w := hbz.trans (hb2.mono hbz.size)
            have hF2 := h.below hb2w
            have k1 := hF2.1.2.2 1 _ rfl
            have hl := hF2.2.look (p := b) (by unfold maxLen; omega)
            rw [hfb] at hl
            rw [show ((none : Option Ent).getD noEnt).val = .agg #[.string ⟨#[]⟩, .int .i64 0, .bool false, .string ⟨#[]⟩] from rfl, show (none : Option Ent).isSome = false from rfl] at hl
            clear hpg hfb
            have hb3 := hb2w.alloc hb2w.size (.cells #[.string ⟨#[]⟩, .int .i64 0, .bool false, .string ⟨#[]⟩] 38)
            have hF3 := h.below hb3
            go_wp2_with fail
            clear hF2 k1 hl
            generalize w2.alloc (.cells #[.string ⟨#[]⟩, .int .i64 0, .bool false, .string ⟨#[]⟩] 38) = W3 at *
            have HS := Lib.hid (fstands_any fb mb f b W3 hF3 (by omega))
            rw [hst] at HS
            refine HS.out.mono ?_
            rintro e w4 ⟨rfl, n4, rfl⟩
            have hb4 := belowDrew hb3 n4
            have hF4 : FAt (W3.drewN n4) fb mb f := ⟨hF3.1, hF3.2.same rfl⟩
            generalize W3.drewN n4 = W4 at *
            go_wp2_with fail
            refine (HH.out _).mono ?_
            rintro e w5 ⟨rfl, rfl⟩
            have k1 := hF4.1.2.2 1 _ rfl
            have HC := Lib.hid (mclone_any hF4.2)
            go_wp2_with fail
            refine HC.out.mono ?_
            rintro e w6 ⟨rfl, hN6, hb6, hs6⟩
            have hb6w := hb4.trans (hb6.mono hb4.size)
            have hF6 := hF4.below hb6
            go_wp2_with fail
            refine (HB.out _ hF6).mono ?_
            rintro e w7 ⟨v, ss, rfl, hov, hperm, hb7⟩
            have hb7w := hb6w.trans (hb7.mono hb6w.size)
            have hF7 := hF6.below hb7
            have hN7 := hN6.keeps hb7 hs6
            obtain ⟨nb, hnb⟩ : ∃ nb, nb = W4.heap.size := ⟨_, rfl⟩
            rw [← hnb] at hN7 hs6 ⊢
            have hnw : w.heap.size ≤ nb := by rw [hnb]; exact hb4.size
            clear hnb
            obtain ⟨av, cv, rfl, hrow, hcv⟩ := hov.read
            have HR := Lib.hid hrow
            have hsl : ss.length ≤ 300 := by
              have h1 := hperm.length_eq
              have h2 := List.length_filter_le (inE a) (f.es.map (·.path))
              rw [List.length_map] at h2
              omega
            have Hss := Lib.hid (show ∀ q ∈ ss, inE a q = true ∧ ∃ x ∈ f.es, x.path = q from fun q hq => by
              obtain ⟨h1, h2⟩ := List.mem_filter.1 (hperm.mem_iff.1 hq)
              obtain ⟨z, hz, e⟩ := List.mem_map.1 h1
              exact ⟨h2, z, hz, e⟩)
            have Hnd := Lib.hid (show ss.Nodup from hperm.nodup_iff.2 (List.Pairwise.filter _ (List.pairwise_map.2 (Hok.out.rise.imp fun hb => befE_ne hb))))
            have Hperm := Lib.hid hperm
            have Hlow := Lib.hid (show ∀ a0, av = some a0 → a0.block < w7.heap.size → a0.block < w7.heap.size ∧ ¬ (fun j => j = nb) a0.block from fun a0 e hlt => ⟨hlt, by
              rcases hov.2 with ⟨hn, _⟩ | ⟨g, cap, cur, hv, hg, _⟩
              · rw [e] at hn; cases hn
              · rw [e] at hv
                cases hv
                show ¬ g = nb
                omega⟩)
            have l1 := h.1.1
            have l2 := h.2.lt
            have hz7 := hb7w.size
            have hz6 := hb7.size
            clear hov hrow hperm k1 HB HC HH hN6 hF6 hF4
            go_wp2_with fail
            go_loopw [13, 14, 56] (fun _ _ i wr => ∃ (k : Nat) (R : List Ent), k ≤ ss.length ∧ i = .int .i64 k ∧ MapE Tryd.prog 9 wr nb R ∧ Rising R ∧ R.length ≤ 300 + k ∧ Hid (∀ z, z ∈ R ↔ ∃ x ∈ f.es, z = mvK a b (ss.take k) x) ∧ Hid (∀ q ∈ ss.take k, pathG (newP a b q).data.toList = true) ∧ Turned (fun j => j = nb) w7.heap.size w7 wr) (fun _ _ i _ => ss.length - (RowKit.intOf i).toNat)
            case atStart => exact ⟨0, f.es, Nat.zero_le _, rfl, hN7, Hok.out.rise, by omega, Lib.hid (fun z => by rw [List.take_zero]; exact ren_start f.es a b z), Lib.hid (by rw [List.take_zero]; intro q hq; cases hq), Turned.refl _ _ _⟩
            case round =>
              obtain ⟨k, R, hk, rfl, hMR, hrR, hlR, HmR, HpR, ht⟩ := hrel
              have hbr : Below w.heap.size w wr := hb7w.trans (ht.below (by omega) (fun j hj e => by have e2 : j = nb := e; omega))
              have hFr := hF7.turned ht (by show ¬ fb = nb; omega) (by show ¬ mb = nb; omega)
              have hzr := ht.size
              by_cases hlt : k < ss.length
              · obtain ⟨q, hq⟩ := at_some hlt
                obtain ⟨b', off, rfl, hbl, c0⟩ := str_at (HR.out.turned ht (fun ad e => Hlow.out ad e (by
                  obtain ⟨b', off', e', hbl', _⟩ := str_at HR.out hq
                  rw [e] at e'
                  cases e'
                  exact hbl'))) hq
                obtain ⟨hqi, x0, hx0, hxq⟩ := Hss.out q (List.mem_of_getElem? hq)
                have Hstep := Lib.hid (fun z => ren_step Hok.out Hpg.out Hfb.out Hnd.out (fun q hq => (Hss.out q hq).1) hq hx0 hxq HmR.out z)
                have Htk := Lib.hid (take_mem hq)
                obtain ⟨yp, yi, yd, ys⟩ := x0
                dsimp only at hxq
                subst hxq
                have hps := path_size (Hok.out.path _ hx0)
                dsimp only at hps
                have has := in_size hqi
                have k1 := hFr.1.2.2 1 _ rfl
                have hlk := hFr.2.look1 (p := yp) (by unfold maxLen; omega)
                have hfx := find_of Hok.out.rise hx0
                dsimp only at hfx
                rw [hfx, show ((some (⟨yp, yi, yd, ys⟩ : Ent)).getD noEnt).val = .agg #[.string yp, .int .i64 yi, .bool yd, .string ys] from rfl] at hlk
                have hs0 : (0 : Int) ≤ (a.size : Int) := by omega
                have hs1 : (a.size : Int) ≤ (yp.size : Int) := by omega
                have hB1 : ¬ (b.size + (yp.size - a.size) > 9223372036854775807) := by omega
                have hB2 : b.size + (yp.size - a.size) ≤ 9223372036854775807 := by omega
                have Hnew := Lib.hid (show newP a b yp = b ++ yp.extract a.size yp.size from rfl)
                have hns := newP_size (a := a) hb400 hps
                have Hdeep := Lib.hid (HDeep.out _ hx0 hqi)
                have hmv := movE_in (b := b) (x := ⟨yp, yi, yd, ys⟩) hqi
                dsimp only at hmv
                have Hmv := Lib.hid hmv
                dsimp only at Hdeep
                rw [hmv] at Hstep
                clear hx0 hfx hq hmv
                have hbx := hbr.alloc hbr.size (.cells #[.string (b ++ yp.extract a.size yp.size), .int .i64 yi, .bool yd, .string ys] 38)
                have HPq := Lib.hid (HPN.out (b ++ yp.extract a.size yp.size) _ (by rw [← Hnew.out]; omega) (hm.keeps hbx))
                rw [← Hnew.out] at HPq hbx
                have hVx := VarAt.new wr #[.string (newP a b yp), .int .i64 yi, .bool yd, .string ys] 38
                have hbwr := (Below.refl wr.heap.size wr).alloc (Nat.le_refl _) (.cells #[.string (newP a b yp), .int .i64 yi, .bool yd, .string ys] 38)
                have hMx := hMR.keeps hbwr hMR.lt
                have htx := ht.alloc hzr (.cells #[.string (newP a b yp), .int .i64 yi, .bool yd, .string ys] 38)
                obtain ⟨bx, hbxe⟩ : ∃ bx, bx = wr.heap.size := ⟨_, rfl⟩
                have hnbx : nb ≠ bx := by have := hMR.lt; omega
                rw [← hbxe] at hVx
                have Hbxe := Lib.hid hbxe
                clear hbxe
                go_wp2_with fail
                rw [← Hnew.out, ← Hbxe.out]
                generalize wr.alloc (.cells #[.string (newP a b yp), .int .i64 yi, .bool yd, .string ys] 38) = Wx at *
                refine HPq.out.mono ?_
                rintro e w9 ⟨rfl, hb9⟩
                have hb9w := hbx.trans (hb9.mono hbx.size)
                have hV9 := hVx.keeps hb9 hVx.1
                have hM9 := hMx.keeps hb9 hMx.lt
                have ht9 := htx.trans (Turned.of_below hb9 htx.size)
                cases hpn : pathG (newP a b yp).data.toList with
                | false =>
                  have hM := Hdeep.out hpn
                  go_wp2_with fail
                  go_ret
                  rw [hM]
                  exact ⟨rfl, mb, h.below hb9w, .inl rfl, Turned.of_below hb9w (Nat.le_refl _)⟩
                | true =>
                  have Hpn := Lib.hid hpn
                  have hb9r := hbwr.trans (hb9.mono hbwr.size)
                  have e0 := (hb9r.cell (p := ⟨b', off + k, none⟩) hbl).trans c0
                  clear c0 hlk k1 hMx hVx htx hbwr hb9
                  obtain ⟨w10, hrun10, hM10, hg10⟩ := hM9.del yp (by unfold maxLen; omega) 0
                  have hV10 := hV9.grown hg10 (by simpa using hnbx.symm)
                  have ht10 := ht9.trans (Turned.of_grown (S := fun j => j = nb) (B := w7.heap.size) hg10 (by have := ht9.size; omega) (fun j e _ => by cases e; rfl))
                  clear hM9
                  have v0 : w10.cell? ⟨bx, 0, none⟩ = some (.string (newP a b yp)) := hV10.2.2 0 _ rfl
                  have v1 : w10.cell? ⟨bx, 1, none⟩ = some (.int .i64 yi) := hV10.2.2 1 _ rfl
                  have v2 : w10.cell? ⟨bx, 2, none⟩ = some (.bool yd) := hV10.2.2 2 _ rfl
                  have v3 : w10.cell? ⟨bx, 3, none⟩ = some (.string ys) := hV10.2.2 3 _ rfl
                  have hlen10 : (delE R yp).length ≤ 700 := by have := len_del_le R yp; omega
                  obtain ⟨w11, hrun11, hM11, hg11⟩ := hM10.put ⟨newP a b yp, yi, yd, ys⟩ (by show (newP a b yp).size ≤ maxLen; unfold maxLen; omega) (by unfold maxLen; omega)
                  replace hrun11 : (Instr.mapUpdate 68 (.map (some nb)) (.string (newP a b yp)) (.agg #[.string (newP a b yp), .int .i64 yi, .bool yd, .string ys])).run Tryd.prog w10 = .ok () w11 := hrun11
                  have ht11 := ht10.trans (Turned.of_grown (S := fun j => j = nb) (B := w7.heap.size) hg11 (by have := ht10.size; omega) (fun j e _ => by cases e; rfl))
                  go_wp2_with (first | (at_delete; refine wpList_delete_run rfl _ _ 68 9 rfl _ _ rfl rfl hrun10 ?_) | (at_mapUpdate; refine wpList_update_run rfl _ _ _ 68 rfl _ _ _ rfl rfl rfl hrun11 ?_))
                  go_roundw
                  case rel =>
                    refine ⟨k + 1, putE (delE R yp) ⟨newP a b yp, yi, yd, ys⟩, by omega, by go_num, hM11, rising_put (rising_filter hrR _) _, ?_, Hstep, Lib.hid (fun q hq => ?_), ht11⟩
                    · have h1 := len_put_le (delE R yp) ⟨newP a b yp, yi, yd, ys⟩
                      have h2 := len_del_le R yp
                      omega
                    · rcases (Htk.out q).1 hq with hq | rfl
                      · exact HpR.out q hq
                      · exact Hpn.out
                  case measure => simp [RowKit.intOf]; omega
              · obtain rfl : k = ss.length := by omega
                have hmR := HmR.out
                have hpR := HpR.out
                rw [List.take_length] at hmR hpR
                have hR := ren_end Hok.out Hpg.out Hfb.out Hperm.out hrR hmR
                have hM := HMay.out fun x hx hi => hpR x.path (Hperm.out.mem_iff.2 (List.mem_filter.2 ⟨List.mem_map.2 ⟨x, hx, rfl⟩, hi⟩))
                rw [hR] at hMR
                have hV := hFr.1
                have g1 := hV.2.1 1
                have k1 := hV.2.2 1 _ rfl
                have hVs := hV.set 1 (.map (some nb)) (by simp)
                dsimp only [List.set] at hVs
                go_wp2_with fail
                go_ret
                rw [hM]
                exact ⟨rfl, nb, ⟨hVs, hMR.same (heap_other _ _ (by omega))⟩, .inr hnw, (Turned.of_below hbr (Nat.le_refl _)).set 1 _ (fun _ => .inl rfl)⟩
end Go.Proofs.YtgjgeojhhglidaaDoor
