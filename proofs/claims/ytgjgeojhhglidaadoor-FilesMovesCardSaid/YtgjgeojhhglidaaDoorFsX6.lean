/-
  FilesMoves.
-/
import Derived.Test.YtgjgeojhhglidaaDoorFsX5
namespace Go.Proofs.YtgjgeojhhglidaaDoor
open Go Go.RowKit Go.Lib

set_option maxRecDepth 100000 in
set_option maxHeartbeats 6400000 in
theorem law_filesMoves (a : Option Addr) (cap : Nat) (xs : List Ask) (p t : ByteArray) (w : World) (_ : xs.length ≤ 140737488351232) (ha : RowsAt askLay w a xs) (hm : MaxAt w) :
    Calls Tryd.prog 5 #[.slice a xs.length cap, .string p, .string t] w fun e w' => e = .returned (.bool true) ∧ Below w.heap.size w w' := by
  have HN := Lib.hid (fnew_any w)
  have HAW := Lib.hid fun W hM => awake19_any W hM
  have HA := Lib.hid ha
  clear ha
  by_cases h1 : p.size ≤ 1000
  · have g1 : ¬ ((p.size : Int) > 1000) := by omega
    by_cases h2 : t.size ≤ 1000
    · have g2 : ¬ ((t.size : Int) > 1000) := by omega
      go_enter Tryd.func5, Tryd.ntmps5
      go_wp2_with fail
      refine HN.out.mono ?_
      rintro e w1 ⟨rfl, hF1, hb1, hs1⟩
      obtain ⟨fb, hfb⟩ : ∃ fb, fb = w.heap.size + 1 := ⟨_, rfl⟩
      obtain ⟨mb, hmb⟩ : ∃ mb, mb = w.heap.size := ⟨_, rfl⟩
      rw [← hfb] at hF1 ⊢
      rw [← hmb] at hF1
      have hfw : w.heap.size ≤ fb := by omega
      have hmw : w.heap.size ≤ mb := by omega
      clear hfb hmb hs1 HN
      go_wp2_with fail
      go_loopw [8] (fun i wr => ∃ (k : Nat) (f : Fs) (mb : Nat), k ≤ xs.length ∧ k ≤ 60 ∧ i = .int .i64 k ∧ f.n ≤ k ∧ FAt wr fb mb f ∧ Hid (FsOK f ∧ IdsOK f) ∧ w.heap.size ≤ mb ∧ Below w.heap.size w wr) (fun i _ => xs.length - (RowKit.intOf i).toNat)
      case atStart => exact ⟨0, ⟨0, []⟩, mb, Nat.zero_le _, Nat.zero_le _, rfl, Nat.zero_le _, hF1, Lib.hid ⟨ok_new, ids_new⟩, hmw, hb1⟩
      case round =>
        clear hmw hF1 hb1 mb
        obtain ⟨k, f, mb, hk, hk100, rfl, hnk, hF, Hok, hmw, hb⟩ := hrel
        go_upto_region 5 with fail
        go_cut [40] from 33 to 55 (fun c wx => c = .bool (decide (k < xs.length ∧ k < 60)) ∧ wx = wr)
        case first =>
          by_cases hlt : k < xs.length
          · by_cases hc : k < 60
            · go_wp2_with fail
              go_meet
              exact ⟨by rw [decide_eq_true (show k < xs.length ∧ k < 60 from ⟨hlt, hc⟩)] <;> first | rfl | exact congrArg Value.bool (decide_eq_true (by omega)), rfl⟩
            · have h1 : ¬ ((k : Int) < 60) := by omega
              go_wp2_with fail
              go_meet
              exact ⟨by rw [decide_eq_false (show ¬ (k < xs.length ∧ k < 60) from fun h => hc h.2)] <;> first | rfl | exact congrArg Value.bool (decide_eq_false (by omega)), rfl⟩
          · have h1 : ¬ ((k : Int) < xs.length) := by omega
            go_wp2_with fail
            go_meet
            exact ⟨by rw [decide_eq_false (show ¬ (k < xs.length ∧ k < 60) from fun h => hlt h.1)] <;> first | rfl | exact congrArg Value.bool (decide_eq_false (by omega)), rfl⟩
        case rest =>
          obtain ⟨rfl, rfl⟩ := hcut
          by_cases hex : k < xs.length ∧ k < 60
          · rw [decide_eq_true hex]
            obtain ⟨hlt, hc⟩ := hex
            obtain ⟨x, hx⟩ := at_some hlt
            obtain ⟨b, off, rfl, hbl, c0, c1, c2, c3⟩ := ask_at (HA.out.keeps hb) hx
            have Hst := Lib.hid (step_op Hok.out.2 x)
            have Hok2 := Lib.hid (ok_op Hok.out.1 x)
            have hopn := op_n Hok.out.2 x
            have HFew := Lib.hid fun W => few19_any x W
            have hsz := few_sizes (x := x)
            have HDo := Lib.hid fun W hF hp ht hM => fdo_any fb mb f x W hF Hok.out.1 (by omega) hp ht hM
            generalize opF f x = r at *
            obtain ⟨f', er⟩ := r
            obtain ⟨xk, xp, xt, xd⟩ := x
            dsimp only at c0 c1 c2 c3 hsz HDo hopn
            have hlti : (k : Int) < (xs.length : Int) := by omega
            clear hx
            go_wp2_with fail
            refine (HFew.out _).mono ?_
            rintro e w2 ⟨rfl, hb2⟩
            have hb2w := hb.trans (hb2.mono hb.size)
            cases hfew : fewA ⟨xk, xp, xt, xd⟩ with
            | false =>
              go_wp2_with fail
              refine (HAW.out _ (hm.keeps hb2w)).mono ?_
              rintro e wq ⟨rfl, hbq⟩
              go_wp2_with fail
              go_ret
              exact ⟨rfl, hb2w.trans (hbq.mono hb2w.size)⟩
            | true =>
              obtain ⟨hz1, hz2, _⟩ := hsz hfew
              have hF2 := hF.below hb2
              have e0 := (hb2.cell (p := ⟨b, off + k * 4, none⟩) hbl).trans c0
              have e1 := (hb2.cell (p := ⟨b, off + k * 4 + 1, none⟩) hbl).trans c1
              have e2 := (hb2.cell (p := ⟨b, off + k * 4 + 2, none⟩) hbl).trans c2
              have e3 := (hb2.cell (p := ⟨b, off + k * 4 + 3, none⟩) hbl).trans c3
              clear c0 c1 c2 c3 hb hb2 hF hsz hfew HFew hbl
              go_wp2_with fail
              refine (HDo.out _ hF2 (by omega) (by omega) (hm.keeps hb2w)).mono ?_
              rintro e w4 ⟨rfl, mb', hF4, hmb', ht4⟩
              have hb4w := hb2w.trans (ht4.below hb2w.size (fun j hj e => by rcases e with rfl | rfl <;> omega))
              have hmw' : w.heap.size ≤ mb' := by
                rcases hmb' with rfl | h1
                · exact hmw
                · exact Nat.le_trans hb2w.size h1
              go_wp2_with fail
              go_roundw
              case rel => exact ⟨k + 1, f', mb', by omega, by omega, by go_num, by omega, hF4, Lib.hid ⟨Hok2.out, Hst.out.ids⟩, hmw', hb4w⟩
              case measure => simp [RowKit.intOf]; omega
          · rw [decide_eq_false hex]
            clear hex
            have hmk := hm.keeps hb
            have hfewf : f.es.length ≤ 300 := Hok.out.1.few
            have HL := Lib.hid (flist_any fb mb f wc hF Hok.out.1.rise hfewf (fun y hy => path_size (Hok.out.1.path y hy)))
            go_wp2_with fail
            refine HL.out.mono ?_
            rintro e w3 ⟨v, rfl, hov, hb3⟩
            obtain ⟨av, cv, rfl, hrow, hcv, hlow⟩ := own_low hov
            have hb3w := hb.trans (hb3.mono hb.size)
            have hF3 := hF.below hb3
            have hl1 := hF.1.1
            have hl2 := hF.2.lt
            have hl3 := hb3.size
            have HR1 := frename_any fb mb f p t w3 hF3 Hok.out.1 (by omega) (by omega) (hm.keeps hb3w)
            clear HL hov hb3 hF
            rcases rename_may (f := f) (a := p) (b := t) with ⟨er, hne, hren⟩ | hmay
            · rw [hren] at HR1
              dsimp only at HR1
              replace HR1 := Lib.hid HR1
              have hq : (er != 0) = true := bne_iff_ne.2 hne
              clear hren
              go_wp2_with fail
              refine HR1.out.mono ?_
              rintro e w4 ⟨rfl, mb', hF4, hmb', ht4⟩
              have hb4w := hb3w.trans (ht4.below hb3w.size (fun j hj e => by rcases e with rfl | rfl <;> omega))
              have hrow4 := hrow.turned ht4 (fun ad e => ⟨(hlow ad e).2, by have := (hlow ad e).1; rintro (e2 | e2) <;> omega⟩)
              have HL := Lib.hid (flist_any fb mb' f w4 hF4 Hok.out.1.rise hfewf (fun y hy => path_size (Hok.out.1.path y hy)))
              clear hrow hlow hF3 HR1 ht4
              go_wp2_with fail
              refine HL.out.mono ?_
              rintro e w5 ⟨v, rfl, hov, hb5⟩
              obtain ⟨al, cl, rfl, hrl, hcl⟩ := hov.read
              have hb5w := hb4w.trans (hb5.mono hb4w.size)
              have HS := Lib.hid (esame_any al av cl cv f.es f.es w5 (by omega) hrl (hrow4.keeps hb5))
              rw [show decide (f.es = f.es) = true from decide_eq_true rfl] at HS
              go_wp2_with fail
              refine HS.out.mono ?_
              rintro e w6 ⟨rfl, n6, rfl⟩
              have hb6w := belowDrew hb5w n6
              go_wp2_with fail
              refine (HAW.out _ (hm.keeps hb6w)).mono ?_
              rintro e wq ⟨rfl, hbq⟩
              go_wp2_with fail
              go_ret
              exact ⟨rfl, hb6w.trans (hbq.mono hb6w.size)⟩
            · have hf0 : (renameF f p t).2 = 0 := by rw [rename_does hmay]
              have hgone := ren_gone Hok.out.1 hmay
              have hthere := ren_there Hok.out.1 hmay
              have hlen := ren_len hmay
              have hback := ren_back Hok.out.1 hmay
              have Hok2 := Lib.hid (ok_rename Hok.out.1 p t)
              obtain ⟨f', hf'⟩ : ∃ f', (renameF f p t).1 = f' := ⟨_, rfl⟩
              rw [hf0, hf'] at HR1
              rw [hf'] at hgone hthere hlen hback Hok2
              replace HR1 := Lib.hid HR1
              have HG1 := Lib.hid fun mb' W hF => fget_any fb mb' f' p W hF (by unfold maxLen; omega)
              rw [getF_none hgone, show noEnt.val = .agg #[.string ⟨#[]⟩, .int .i64 0, .bool false, .string ⟨#[]⟩] from rfl] at HG1
              obtain ⟨u, hu⟩ := Option.isSome_iff_exists.1 hthere
              have HG2 := Lib.hid fun mb' W hF => fget_any fb mb' f' t W hF (by unfold maxLen; omega)
              rw [getF_some hu] at HG2
              obtain ⟨up, ui, ud, us⟩ := u
              rw [show Ent.val ⟨up, ui, ud, us⟩ = .agg #[.string up, .int .i64 ui, .bool ud, .string us] from rfl] at HG2
              have HR2 := fun mb' W hF hM => frename_any fb mb' f' t p W hF Hok2.out (by omega) (by omega) hM
              rw [hback] at HR2
              replace HR2 := Lib.hid HR2
              clear hmay hgone hthere hback hf0 hf' hu
              go_wp2_with fail
              refine HR1.out.mono ?_
              rintro e w4 ⟨rfl, mb', hF4, hmb', ht4⟩
              have hb4w := hb3w.trans (ht4.below hb3w.size (fun j hj e => by rcases e with rfl | rfl <;> omega))
              have hmw' : w.heap.size ≤ mb' := by
                rcases hmb' with rfl | h1
                · exact hmw
                · exact Nat.le_trans hb3w.size h1
              have hrow4 := hrow.turned ht4 (fun ad e => ⟨(hlow ad e).2, by have := (hlow ad e).1; rintro (e2 | e2) <;> omega⟩)
              have hlow4 : ∀ ad, av = some ad → ad.block < w4.heap.size ∧ ¬ FsS fb mb' ad.block := fun ad e => by
                have h1 := hlow ad e
                have h2 := ht4.size
                refine ⟨by omega, ?_⟩
                rintro (e2 | e2)
                · omega
                · rcases hmb' with rfl | h3 <;> omega
              clear hrow hlow hF3 HR1 ht4 hmb' hmw
              go_wp2_with fail
              refine (HG1.out _ _ hF4).mono ?_
              rintro e w5 ⟨rfl, hb5⟩
              have hb5x := hb5.alloc hb5.size (.cells #[.string ⟨#[]⟩, .int .i64 0, .bool false, .string ⟨#[]⟩] 38)
              go_wp2_with fail
              generalize w5.alloc (.cells #[.string ⟨#[]⟩, .int .i64 0, .bool false, .string ⟨#[]⟩] 38) = W5 at *
              have hF5 := hF4.below hb5x
              refine (HG2.out _ _ hF5).mono ?_
              rintro e w6 ⟨rfl, hb6⟩
              have hb6x := hb6.alloc hb6.size (.cells #[.string up, .int .i64 ui, .bool ud, .string us] 38)
              go_wp2_with fail
              generalize w6.alloc (.cells #[.string up, .int .i64 ui, .bool ud, .string us] 38) = W6 at *
              have hF6 := hF5.below hb6x
              have HL := Lib.hid (flist_any fb mb' f' W6 hF6 Hok2.out.rise Hok2.out.few (fun y hy => path_size (Hok2.out.path y hy)))
              refine HL.out.mono ?_
              rintro e w7 ⟨v, rfl, hov, hb7⟩
              obtain ⟨al, cl, rfl, _, _⟩ := hov.read
              have hb7x := (hb5x.trans (hb6x.mono hb5x.size)).trans (hb7.mono (Nat.le_trans hb5x.size hb6x.size))
              have hb7w := hb4w.trans (hb7x.mono hb4w.size)
              have hF7 := hF6.below hb7
              have hrow7 := hrow4.keeps hb7x
              have hlow7 : ∀ ad, av = some ad → ad.block < w7.heap.size ∧ ¬ FsS fb mb' ad.block := fun ad e => ⟨Nat.lt_of_lt_of_le (hlow4 ad e).1 hb7x.size, (hlow4 ad e).2⟩
              rw [hlen]
              have hfe : ((f.es.length : Int) == (f.es.length : Int)) = true := beq_self_eq_true _
              clear HL hov hb7 hb6 hb5 hF4 hF5 hF6 hrow4 hlow4 hb7x hb6x hb5x
              go_wp2_with fail
              refine (HR2.out _ _ hF7 (hm.keeps hb7w)).mono ?_
              rintro e w8 ⟨rfl, mb2, hF8, _, ht8⟩
              have hb8w := hb7w.trans (ht8.below hb7w.size (fun j hj e => by rcases e with rfl | rfl <;> omega))
              have hrow8 := hrow7.turned ht8 hlow7
              have HL := Lib.hid (flist_any fb mb2 f w8 hF8 Hok.out.1.rise hfewf (fun y hy => path_size (Hok.out.1.path y hy)))
              clear hF7 hrow7 hlow7 ht8
              go_wp2_with fail
              refine HL.out.mono ?_
              rintro e w9 ⟨v, rfl, hov, hb9⟩
              obtain ⟨am, cm, rfl, hrm, hcm⟩ := hov.read
              have hb9w := hb8w.trans (hb9.mono hb8w.size)
              have HS := Lib.hid (esame_any am av cm cv f.es f.es w9 (by omega) hrm (hrow8.keeps hb9))
              rw [show decide (f.es = f.es) = true from decide_eq_true rfl] at HS
              go_wp2_with fail
              refine HS.out.mono ?_
              rintro e w10 ⟨rfl, n10, rfl⟩
              have hb10w := belowDrew hb9w n10
              go_wp2_with fail
              refine (HAW.out _ (hm.keeps hb10w)).mono ?_
              rintro e wq ⟨rfl, hbq⟩
              go_wp2_with fail
              go_ret
              exact ⟨rfl, hb10w.trans (hbq.mono hb10w.size)⟩
    · have g2 : (t.size : Int) > 1000 := by omega
      go_enter Tryd.func5, Tryd.ntmps5
      go_wp2_with fail
      refine HN.out.mono ?_
      rintro e w1 ⟨rfl, hF1, hb1, hs1⟩
      obtain ⟨fb, hfb⟩ : ∃ fb, fb = w.heap.size + 1 := ⟨_, rfl⟩
      obtain ⟨mb, hmb⟩ : ∃ mb, mb = w.heap.size := ⟨_, rfl⟩
      rw [← hfb] at hF1 ⊢
      rw [← hmb] at hF1
      have hfw : w.heap.size ≤ fb := by omega
      have hmw : w.heap.size ≤ mb := by omega
      clear hfb hmb hs1 HN
      go_wp2_with fail
      refine (HAW.out _ (hm.keeps hb1)).mono ?_
      rintro e wq ⟨rfl, hbq⟩
      go_wp2_with fail
      go_ret
      exact ⟨rfl, hb1.trans (hbq.mono hb1.size)⟩
  · have g1 : (p.size : Int) > 1000 := by omega
    go_enter Tryd.func5, Tryd.ntmps5
    go_wp2_with fail
    refine HN.out.mono ?_
    rintro e w1 ⟨rfl, hF1, hb1, hs1⟩
    obtain ⟨fb, hfb⟩ : ∃ fb, fb = w.heap.size + 1 := ⟨_, rfl⟩
    obtain ⟨mb, hmb⟩ : ∃ mb, mb = w.heap.size := ⟨_, rfl⟩
    rw [← hfb] at hF1 ⊢
    rw [← hmb] at hF1
    have hfw : w.heap.size ≤ fb := by omega
    have hmw : w.heap.size ≤ mb := by omega
    clear hfb hmb hs1 HN
    go_wp2_with fail
    refine (HAW.out _ (hm.keeps hb1)).mono ?_
    rintro e wq ⟨rfl, hbq⟩
    go_wp2_with fail
    go_ret
    exact ⟨rfl, hb1.trans (hbq.mono hb1.size)⟩
end Go.Proofs.YtgjgeojhhglidaaDoor
