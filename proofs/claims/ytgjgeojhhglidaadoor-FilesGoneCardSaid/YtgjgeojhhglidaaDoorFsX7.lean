/-
  FilesGone.
-/
import Derived.Test.YtgjgeojhhglidaaDoorFsX5
import Derived.Test.YtgjgeojhhglidaaDoorAppends
namespace Go.Proofs.YtgjgeojhhglidaaDoor
open Go Go.RowKit Go.Lib

theorem in_same {p q : ByteArray} (h : q = p) : inE p q = true := inE_iff.2 (.inl h)
theorem in_yes {p q : ByteArray} (hq : pathG q.data.toList = true) (h1 : p.size < q.size) (h2 : q.extract 0 p.size = p) (h3 : q[p.size] = 47) : inE p q = true := by
  have h4 : p.size + 1 < q.size := by
    refine Nat.lt_of_le_of_ne h1 fun e => ?_
    have h5 := path_rights hq
    have h6 : q.data.toList = p.data.toList ++ 47 :: [] := by
      rw [← List.take_append_drop p.size q.data.toList]
      congr 1
      · have := extract_take q p.size
        rw [h2] at this
        exact this.symm
      · have hl : p.size < q.data.toList.length := by rw [← size_eq]; omega
        rw [List.drop_eq_getElem_cons hl, List.drop_eq_nil_of_le (by rw [← size_eq]; omega)]
        congr 1
    rw [h6, rights_join, rights_nil, Bool.and_false] at h5
    cases h5
  unfold inE
  rw [under_yes h4 h2 h3, Bool.or_true]
theorem in_no {p q : ByteArray} (h : q ≠ p) (h2 : underB q p = false) : inE p q = false := by
  unfold inE
  rw [h2, decide_eq_false h]
  rfl
theorem filt_snoc (q : Bool) (p : ByteArray) (l : List Ent) (x : Ent) : (l ++ [x]).filter (fun y => !inE p y.path || q) = l.filter (fun y => !inE p y.path || q) ++ (if !inE p x.path || q then [x] else []) := by
  rw [List.filter_append]
  congr 1
  rw [List.filter_cons, List.filter_nil]
theorem gone_list (f : Fs) (p : ByteArray) : (removeF f p).1.es = f.es.filter (fun y => !inE p y.path || ((removeF f p).2 != 0)) := by
  by_cases h : (removeF f p).2 = 0
  · rw [h, (remove_ok h).2]
    refine List.filter_congr fun y _ => ?_
    cases inE p y.path <;> rfl
  · have h2 : ((removeF f p).2 != 0) = true := bne_iff_ne.2 h
    rw [h2, (remove_err h).2]
    refine (List.filter_eq_self.2 fun y _ => ?_).symm
    rw [Bool.or_true]
theorem gone_len (f : Fs) (p : ByteArray) : ((removeF f p).2 = 0 → (removeF f p).1.es.length < f.es.length) ∧ ((removeF f p).2 ≠ 0 → (removeF f p).1.es.length = f.es.length) := by
  constructor
  · intro h
    rw [(remove_ok h).2]
    exact remove_less h
  · intro h
    rw [(remove_err h).2]
set_option maxRecDepth 100000 in
set_option maxHeartbeats 6400000 in
theorem law_filesGone (a : Option Addr) (cap : Nat) (xs : List Ask) (p : ByteArray) (w : World) (_ : xs.length ≤ 140737488351232) (ha : RowsAt askLay w a xs) (hm : MaxAt w) :
    Calls Tryd.prog 7 #[.slice a xs.length cap, .string p] w fun e w' => e = .returned (.bool true) ∧ Below w.heap.size w w' := by
  have HN := Lib.hid (fnew_any w)
  have HAW := Lib.hid fun W hM => awake19_any W hM
  have HA := Lib.hid ha
  clear ha
  by_cases h1 : p.size ≤ 1000
  · have g1 : ¬ ((p.size : Int) > 1000) := by omega
    go_enter Tryd.func7, Tryd.ntmps7
    go_wp2_with fail
    refine HN.out.mono ?_
    rintro e w1 ⟨rfl, hF1, hb1, hs1⟩
    obtain ⟨fb, hfb⟩ : ∃ fb, fb = w.heap.size + 1 := ⟨_, rfl⟩
    obtain ⟨mb, hmb⟩ : ∃ mb, mb = w.heap.size := ⟨_, rfl⟩
    rw [← hfb] at hF1 ⊢
    rw [← hmb] at hF1
    have hfw : w.heap.size ≤ fb := by omega
    have hmw : w.heap.size ≤ mb := by omega
    clear hfb hmb hs1 HN
    go_wp2_with fail
    go_loopw [6] (fun i wr => ∃ (k : Nat) (f : Fs) (mb : Nat), k ≤ xs.length ∧ k ≤ 60 ∧ i = .int .i64 k ∧ f.n ≤ k ∧ FAt wr fb mb f ∧ Hid (FsOK f ∧ IdsOK f) ∧ w.heap.size ≤ mb ∧ Below w.heap.size w wr) (fun i _ => xs.length - (RowKit.intOf i).toNat)
    case atStart => exact ⟨0, ⟨0, []⟩, mb, Nat.zero_le _, Nat.zero_le _, rfl, Nat.zero_le _, hF1, Lib.hid ⟨ok_new, ids_new⟩, hmw, hb1⟩
    case round =>
      clear hmw hF1 hb1 mb
      obtain ⟨k, f, mb, hk, hk100, rfl, hnk, hF, Hok, hmw, hb⟩ := hrel
      go_upto_region 5 with fail
      go_cut [35] from 28 to 50 (fun c wx => c = .bool (decide (k < xs.length ∧ k < 60)) ∧ wx = wr)
      case first =>
        by_cases hlt : k < xs.length
        · by_cases hc : k < 60
          · go_wp2_with fail
            go_meet
            exact ⟨by rw [decide_eq_true (show k < xs.length ∧ k < 60 from ⟨hlt, hc⟩)] <;> first | rfl | exact congrArg Value.bool (decide_eq_true (by omega)), rfl⟩
          · have h1 : ¬ ((k : Int) < 60) := by omega
            go_wp2_with fail
            go_meet
            exact ⟨by rw [decide_eq_false (show ¬ (k < xs.length ∧ k < 60) from fun h => hc h.2)] <;> first | rfl | exact congrArg Value.bool (decide_eq_false (by omega)), rfl⟩
        · have h1 : ¬ ((k : Int) < xs.length) := by omega
          go_wp2_with fail
          go_meet
          exact ⟨by rw [decide_eq_false (show ¬ (k < xs.length ∧ k < 60) from fun h => hlt h.1)] <;> first | rfl | exact congrArg Value.bool (decide_eq_false (by omega)), rfl⟩
      case rest =>
        obtain ⟨rfl, rfl⟩ := hcut
        by_cases hex : k < xs.length ∧ k < 60
        · rw [decide_eq_true hex]
          obtain ⟨hlt, hc⟩ := hex
          obtain ⟨x, hx⟩ := at_some hlt
          obtain ⟨b, off, rfl, hbl, c0, c1, c2, c3⟩ := ask_at (HA.out.keeps hb) hx
          have Hst := Lib.hid (step_op Hok.out.2 x)
          have Hok2 := Lib.hid (ok_op Hok.out.1 x)
          have hopn := op_n Hok.out.2 x
          have HFew := Lib.hid fun W => few19_any x W
          have hsz := few_sizes (x := x)
          have HDo := Lib.hid fun W hF hp ht hM => fdo_any fb mb f x W hF Hok.out.1 (by omega) hp ht hM
          generalize opF f x = r at *
          obtain ⟨f', er⟩ := r
          obtain ⟨xk, xp, xt, xd⟩ := x
          dsimp only at c0 c1 c2 c3 hsz HDo hopn
          have hlti : (k : Int) < (xs.length : Int) := by omega
          clear hx
          go_wp2_with fail
          refine (HFew.out _).mono ?_
          rintro e w2 ⟨rfl, hb2⟩
          have hb2w := hb.trans (hb2.mono hb.size)
          cases hfew : fewA ⟨xk, xp, xt, xd⟩ with
          | false =>
            go_wp2_with fail
            refine (HAW.out _ (hm.keeps hb2w)).mono ?_
            rintro e wq ⟨rfl, hbq⟩
            go_wp2_with fail
            go_ret
            exact ⟨rfl, hb2w.trans (hbq.mono hb2w.size)⟩
          | true =>
            obtain ⟨hz1, hz2, _⟩ := hsz hfew
            have hF2 := hF.below hb2
            have e0 := (hb2.cell (p := ⟨b, off + k * 4, none⟩) hbl).trans c0
            have e1 := (hb2.cell (p := ⟨b, off + k * 4 + 1, none⟩) hbl).trans c1
            have e2 := (hb2.cell (p := ⟨b, off + k * 4 + 2, none⟩) hbl).trans c2
            have e3 := (hb2.cell (p := ⟨b, off + k * 4 + 3, none⟩) hbl).trans c3
            clear c0 c1 c2 c3 hb hb2 hF hsz hfew HFew hbl
            go_wp2_with fail
            refine (HDo.out _ hF2 (by omega) (by omega) (hm.keeps hb2w)).mono ?_
            rintro e w4 ⟨rfl, mb', hF4, hmb', ht4⟩
            have hb4w := hb2w.trans (ht4.below hb2w.size (fun j hj e => by rcases e with rfl | rfl <;> omega))
            have hmw' : w.heap.size ≤ mb' := by
              rcases hmb' with rfl | h1
              · exact hmw
              · exact Nat.le_trans hb2w.size h1
            go_wp2_with fail
            go_roundw
            case rel => exact ⟨k + 1, f', mb', by omega, by omega, by go_num, by omega, hF4, Lib.hid ⟨Hok2.out, Hst.out.ids⟩, hmw', hb4w⟩
            case measure => simp [RowKit.intOf]; omega
        · rw [decide_eq_false hex]
          clear hex
          have hmk := hm.keeps hb
          have hfewf : f.es.length ≤ 300 := Hok.out.1.few
          have HL := Lib.hid (flist_any fb mb f wc hF Hok.out.1.rise hfewf (fun y hy => path_size (Hok.out.1.path y hy)))
          obtain ⟨i0, hi, hz0, hz1, hz2⟩ := info_parts fentInfo
          have Hi := Lib.hid hi
          have Hz0 := Lib.hid hz0
          have Hz1 := Lib.hid hz1
          have Hz2 := Lib.hid hz2
          clear hi hz0 hz1 hz2
          go_wp2_with fail
          refine HL.out.mono ?_
          rintro e w3 ⟨v, rfl, hov, hb3⟩
          obtain ⟨av, cv, rfl, hrow, hcv, hlow⟩ := own_low hov
          have hb3w := hb.trans (hb3.mono hb.size)
          have hF3 := hF.below hb3
          have hl1 := hF.1.1
          have hl2 := hF.2.lt
          have HR1 := Lib.hid (fremove_any fb mb f p w3 hF3 Hok.out.1 (by omega))
          have hgl := gone_list f p
          have hlen := gone_len f p
          have hnone := remove_none f p
          have Hok2 := Lib.hid (ok_remove Hok.out.1 p)
          obtain ⟨r, hr⟩ : ∃ r, removeF f p = r := ⟨_, rfl⟩
          rw [hr] at HR1 hgl hlen hnone Hok2
          obtain ⟨f', er⟩ := r
          dsimp only at HR1 hgl hlen hnone Hok2
          have HG1 := Lib.hid fun W hF => fget_any fb mb f' p W hF (by unfold maxLen; omega)
          rw [getF_none hnone, show noEnt.val = .agg #[.string ⟨#[]⟩, .int .i64 0, .bool false, .string ⟨#[]⟩] from rfl] at HG1
          obtain ⟨q, hq⟩ : ∃ q, (er != 0) = q := ⟨_, rfl⟩
          rw [hq] at hgl
          have Hgl := Lib.hid hgl
          have Hlen := Lib.hid hlen
          clear HL hov hb3 hF hr hnone hgl hlen
          go_wp2_with fail
          refine HR1.out.mono ?_
          rintro e w4 ⟨rfl, hF4, ht4⟩
          have hb4w := hb3w.trans (ht4.below hb3w.size (fun j hj e => by rcases e with rfl | rfl <;> omega))
          have hrow4 := hrow.turned ht4 (fun ad e => ⟨(hlow ad e).2, by have := (hlow ad e).1; rintro (e2 | e2) <;> omega⟩)
          have HRw := Lib.hid hrow4
          clear hrow hlow hF3 HR1 ht4 hrow4
          go_wp2_with fail
          go_loopw [9, 10, 11, 12] (fun v i _ _ wr => ∃ k : Nat, k ≤ f.es.length ∧ i = .int .i64 k ∧ OwnRows entLay wr w4.heap.size 38 v ((f.es.take k).filter (fun y => !inE p y.path || q)) ∧ Below w4.heap.size w4 wr) (fun _ i _ _ _ => f.es.length - (RowKit.intOf i).toNat)
          case atStart => exact ⟨0, Nat.zero_le _, rfl, OwnRows.nil _ _ _ _, Below.refl _ _⟩
          case round =>
            obtain ⟨k, hkl, rfl, ho, hbr⟩ := hrel
            by_cases hlt : k < f.es.length
            · obtain ⟨x, hx⟩ := at_some hlt
              obtain ⟨b, off, rfl, hbl, c0, c1, c2, c3⟩ := ent_at (HRw.out.keeps hbr) hx
              have Hx := Lib.hid hx
              have hpx := Hok.out.1.path x (List.mem_of_getElem? hx)
              obtain ⟨xp, xi, xd, xs'⟩ := x
              dsimp only at c0 c1 c2 c3 hpx
              have Hpx := Lib.hid hpx
              have hlti : (k : Int) < (f.es.length : Int) := by omega
              clear hx hpx
              go_upto_region 17 with fail
              go_cut [12] from 56 to 104 (fun c wx => c = .bool (inE p xp) ∧ wx = wr)
              case first =>
                by_cases h0 : xp = p
                · have e1 := str_eq h0
                  have hin := in_same h0
                  clear h0
                  go_wp2_with fail
                  go_meet
                  exact ⟨by rw [hin], rfl⟩
                · have e1 := str_ne h0
                  by_cases h1 : p.size < xp.size
                  · have hlo : (p.size : Int) < xp.size := by omega
                    by_cases h2 : xp.extract 0 p.size = p
                    · have e3 := str_eq h2
                      by_cases h3 : xp[p.size] = 47
                      · have e4 : ((xp[p.size].toNat : Int) == 47) = true := by rw [h3]; rfl
                        have hin := in_yes Hpx.out h1 h2 h3
                        clear h0 h2 h3
                        go_wp2_with fail
                        go_meet
                        exact ⟨by rw [hin], rfl⟩
                      · have e4 : ((xp[p.size].toNat : Int) == 47) = false := byte_ne h3
                        have hin := in_no h0 (under_no3 h1 h3)
                        clear h0 h2 h3
                        go_wp2_with fail
                        go_meet
                        exact ⟨by rw [hin], rfl⟩
                    · have e3 := str_ne h2
                      have hin := in_no h0 (under_no2 h2)
                      clear h0 h2
                      go_wp2_with fail
                      go_meet
                      exact ⟨by rw [hin], rfl⟩
                  · have hin := in_no h0 (show underB xp p = false by unfold underB; simp [show ¬ p.size + 1 < xp.size by omega])
                    have g1 : ¬ ((xp.size : Int) > (p.size : Int)) := by omega
                    clear h0
                    go_wp2_with fail
                    go_meet
                    exact ⟨by rw [hin], rfl⟩
              case rest =>
                obtain ⟨rfl, rfl⟩ := hcut
                cases hin : inE p xp with
                | true =>
                  cases q with
                  | true =>
                    have Hst := Lib.hid (show (f.es.take (k + 1)).filter (fun y => !inE p y.path || true) = (f.es.take k).filter (fun y => !inE p y.path || true) ++ [⟨xp, xi, xd, xs'⟩] by
                      rw [List.take_add_one, Hx.out, Option.toList_some, filt_snoc, if_pos (by rw [Bool.or_true])])
                    have hlen : ((f.es.take k).filter (fun y => !inE p y.path || true)).length ≤ 300 := Nat.le_trans (List.length_filter_le _ _) (by rw [List.length_take]; omega)
                    clear hin
                    generalize (f.es.take k).filter (fun y => !inE p y.path || true) = acc at *
                    go_wp2_with (at_builtin; refine wpList_append_rows _ rfl _ _ 26 rfl entLay w4.heap.size 38 i0 (.agg #[.string ⟨#[]⟩, .int .i64 0, .bool false, .string ⟨#[]⟩]) 48 Tryd.underlying26 Hi.out Hz0.out Hz1.out Hz2.out rfl (by decide) _ acc rfl (ho.alloc _) ⟨wc.heap.size, 0, none⟩ 1 ⟨xp, xi, xd, xs'⟩ rfl (cells_new_at wc wc.heap.size #[.string xp, .int .i64 xi, .bool xd, .string xs'] 38 rfl) (by unfold maxLen; omega) (by omega) (by have := hbr.size; simp; omega) ?_)
                    intro va w5 ho5 hg5 _
                    have hb5 := (hbr.alloc hbr.size (.cells #[.string xp, .int .i64 xi, .bool xd, .string xs'] 38)).grown hg5 (by have := hbr.size; simp; omega) (fun j ej => (ho.lt ej).1)
                    clear hg5 ho
                    go_wp2_with fail
                    go_roundw
                    case rel => exact ⟨k + 1, by omega, by go_num, by rw [Hst.out]; exact ho5, hb5⟩
                    case measure => simp [RowKit.intOf]; omega
                  | false =>
                    have Hst := Lib.hid (show (f.es.take (k + 1)).filter (fun y => !inE p y.path || false) = (f.es.take k).filter (fun y => !inE p y.path || false) by
                      rw [List.take_add_one, Hx.out, Option.toList_some, filt_snoc, if_neg (by rw [hin]; exact Bool.noConfusion), List.append_nil])
                    clear hin
                    go_wp2_with fail
                    go_roundw
                    case rel => exact ⟨k + 1, by omega, by go_num, by rw [Hst.out]; exact ho, hbr⟩
                    case measure => simp [RowKit.intOf]; omega
                | false =>
                  have Hst := Lib.hid (show (f.es.take (k + 1)).filter (fun y => !inE p y.path || q) = (f.es.take k).filter (fun y => !inE p y.path || q) ++ [⟨xp, xi, xd, xs'⟩] by
                    rw [List.take_add_one, Hx.out, Option.toList_some, filt_snoc, if_pos (by rw [hin]; rfl)])
                  have hlen : ((f.es.take k).filter (fun y => !inE p y.path || q)).length ≤ 300 := Nat.le_trans (List.length_filter_le _ _) (by rw [List.length_take]; omega)
                  clear hin
                  generalize (f.es.take k).filter (fun y => !inE p y.path || q) = acc at *
                  go_wp2_with (at_builtin; refine wpList_append_rows _ rfl _ _ 26 rfl entLay w4.heap.size 38 i0 (.agg #[.string ⟨#[]⟩, .int .i64 0, .bool false, .string ⟨#[]⟩]) 48 Tryd.underlying26 Hi.out Hz0.out Hz1.out Hz2.out rfl (by decide) _ acc rfl (ho.alloc _) ⟨wc.heap.size, 0, none⟩ 1 ⟨xp, xi, xd, xs'⟩ rfl (cells_new_at wc wc.heap.size #[.string xp, .int .i64 xi, .bool xd, .string xs'] 38 rfl) (by unfold maxLen; omega) (by omega) (by have := hbr.size; simp; omega) ?_)
                  intro va w5 ho5 hg5 _
                  have hb5 := (hbr.alloc hbr.size (.cells #[.string xp, .int .i64 xi, .bool xd, .string xs'] 38)).grown hg5 (by have := hbr.size; simp; omega) (fun j ej => (ho.lt ej).1)
                  clear hg5 ho
                  go_wp2_with fail
                  go_roundw
                  case rel => exact ⟨k + 1, by omega, by go_num, by rw [Hst.out]; exact ho5, hb5⟩
                  case measure => simp [RowKit.intOf]; omega
            · obtain rfl : k = f.es.length := by omega
              rw [List.take_length, ← Hgl.out] at ho
              obtain ⟨al, cl, rfl, hrl, hcl⟩ := ho.read
              have hbz := hb4w.trans (hbr.mono hb4w.size)
              have hF5 := hF4.below hbr
              have hf5 : f'.es.length ≤ 300 := Hok2.out.few
              clear ho hq
              go_wp2_with fail
              refine (HG1.out _ hF5).mono ?_
              rintro e w5 ⟨rfl, hb5⟩
              have hb5x := hb5.alloc hb5.size (.cells #[.string ⟨#[]⟩, .int .i64 0, .bool false, .string ⟨#[]⟩] 38)
              have hF6 := hF5.below hb5x
              have hrl6 := hrl.keeps hb5x
              have hb6w := hbz.trans (hb5x.mono hbz.size)
              have HL := Lib.hid (flist_any fb mb f' _ hF6 Hok2.out.rise hf5 (fun y hy => path_size (Hok2.out.path y hy)))
              clear hb5 hF5 hrl hb5x
              by_cases he : er = 0
              · have hle1 : (f'.es.length : Int) < (f.es.length : Int) := by have := Hlen.out.1 he; omega
                subst he
                go_wp2_with fail
                refine HL.out.mono ?_
                rintro e w7 ⟨v, rfl, hov, hb7⟩
                obtain ⟨am, cm, rfl, hrm, hcm⟩ := hov.read
                have hb7w := hb6w.trans (hb7.mono hb6w.size)
                have HS := Lib.hid (esame_any am al cm cl f'.es f'.es w7 (by omega) hrm (hrl6.keeps hb7))
                rw [show decide (f'.es = f'.es) = true from decide_eq_true rfl] at HS
                go_wp2_with fail
                refine HS.out.mono ?_
                rintro e w8 ⟨rfl, n8, rfl⟩
                have hb8w := belowDrew hb7w n8
                go_wp2_with fail
                refine (HAW.out _ (hm.keeps hb8w)).mono ?_
                rintro e wq ⟨rfl, hbq⟩
                go_wp2_with fail
                go_ret
                exact ⟨rfl, hb8w.trans (hbq.mono hb8w.size)⟩
              · have hle1 : ¬ ((f'.es.length : Int) < (f.es.length : Int)) := by have := Hlen.out.2 he; omega
                have hle2 := int_ne he
                have hle3 : decide (f'.es.length < f.es.length) = false := decide_eq_false (by omega)
                have hle4 : decide ((f'.es.length : Int) < (f.es.length : Int)) = false := decide_eq_false (by omega)
                clear he
                go_wp2_with fail
                refine HL.out.mono ?_
                rintro e w7 ⟨v, rfl, hov, hb7⟩
                obtain ⟨am, cm, rfl, hrm, hcm⟩ := hov.read
                have hb7w := hb6w.trans (hb7.mono hb6w.size)
                have HS := Lib.hid (esame_any am al cm cl f'.es f'.es w7 (by omega) hrm (hrl6.keeps hb7))
                rw [show decide (f'.es = f'.es) = true from decide_eq_true rfl] at HS
                go_wp2_with fail
                refine HS.out.mono ?_
                rintro e w8 ⟨rfl, n8, rfl⟩
                have hb8w := belowDrew hb7w n8
                go_wp2_with fail
                refine (HAW.out _ (hm.keeps hb8w)).mono ?_
                rintro e wq ⟨rfl, hbq⟩
                go_wp2_with fail
                go_ret
                exact ⟨rfl, hb8w.trans (hbq.mono hb8w.size)⟩
  · have g1 : (p.size : Int) > 1000 := by omega
    go_enter Tryd.func7, Tryd.ntmps7
    go_wp2_with fail
    refine HN.out.mono ?_
    rintro e w1 ⟨rfl, hF1, hb1, hs1⟩
    obtain ⟨fb, hfb⟩ : ∃ fb, fb = w.heap.size + 1 := ⟨_, rfl⟩
    obtain ⟨mb, hmb⟩ : ∃ mb, mb = w.heap.size := ⟨_, rfl⟩
    rw [← hfb] at hF1 ⊢
    rw [← hmb] at hF1
    have hfw : w.heap.size ≤ fb := by omega
    have hmw : w.heap.size ≤ mb := by omega
    clear hfb hmb hs1 HN
    go_wp2_with fail
    refine (HAW.out _ (hm.keeps hb1)).mono ?_
    rintro e wq ⟨rfl, hbq⟩
    go_wp2_with fail
    go_ret
    exact ⟨rfl, hb1.trans (hbq.mono hb1.size)⟩
end Go.Proofs.YtgjgeojhhglidaaDoor
