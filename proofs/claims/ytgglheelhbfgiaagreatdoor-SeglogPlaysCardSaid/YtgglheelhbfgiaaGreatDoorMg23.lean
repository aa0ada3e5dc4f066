/-
  SeglogPlays: the law. What every row of this seat asks of the program's make. What the listed tables give the laws of seglog.
-/
import Derived.Test.YtgglheelhbfgiaaGreatDoorMg22
import Derived.Test.YtgglheelhbfgiaaGreatDoorMg20
import Derived.Deep.CutBlock
import Derived.Test.YtgglheelhbfgiaaGreatDoorCards
import Derived.Test.YtgglheelhbfgiaaGreatDoorTie
import Derived.Stop.Joined
namespace Go.Proofs.YtgglheelhbfgiaaGreatDoor
open Go Go.RowKit Go.Lib
theorem dnew_wrong (w : World) (n : Int) (h : n < 1) :
    Calls Tryz.prog 13 #[.int .i64 n] w fun e w' => e = .returned (.tuple #[.pointer none, .int .i64 1]) ∧ w' = w := by
  go_enter Tryz.func13, Tryz.ntmps13
  go_wp2_with fail
  go_ret2
  exact ⟨rfl, rfl⟩
theorem PlayIn.start {w w1 w2 : World} {db rb n : Nat} (hn : n ≤ 4194304) (h1 : DOk w1 db (fun k => w.heap.size ≤ k ∧ k < w1.heap.size) (newD n)) (hb1 : Below w.heap.size w w1) (h2 : ROk w2 rb (fun k => k = rb) (newD n)) (hrb : w1.heap.size ≤ rb) (hb2 : Below w1.heap.size w1 w2) :
    PlayIn w w2 db rb (fun k => w.heap.size ≤ k ∧ k < w1.heap.size) (fun k => k = rb) none none (newD n) none 0 := by
  have hs1 := hb1.size
  exact ⟨h1.below hb2, h2, fun k hk => hk.1, fun k hk => by omega, fun k hk e => by omega, Kept.new hn, .inl ⟨rfl, rfl, rfl⟩, hb1.trans (hb2.mono hs1)⟩
set_option maxRecDepth 100000 in
set_option maxHeartbeats 25600000 in
theorem law_seglogPlays (limit : Int) (a : Option Addr) (c : Nat) (xs : List OpV) (w : World) (_ : -9223372036854775808 ≤ limit) (_ : limit ≤ 9223372036854775807) (_ : xs.length ≤ 140737488351232) (hx : RowsAt opvLay w a xs ∧ ∀ x ∈ xs, RowsAt strLay w x.ra x.rs) (ht : TabD w) :
    Calls Tryz.prog 5 #[.int .i64 limit, .slice a xs.length c] w fun e w' => e = .returned (.bool true) ∧ Below w.heap.size w w' := by
  have HAw := Lib.hid fun W (hW : Below w.heap.size w W) => awake16_any W (ht.keeps hW)
  by_cases hbig : 100000 < limit
  · have HA := Lib.hid (HAw.out w (Below.refl _ _))
    go_enter Tryz.func5, Tryz.ntmps5
    go_wp2_with fail
    refine HA.out.mono ?_
    rintro e w1 ⟨rfl, hb1⟩
    go_wp2_with fail
    go_ret
    exact ⟨rfl, hb1⟩
  · by_cases hlow : limit < 1
    · have HA := Lib.hid (HAw.out w (Below.refl _ _))
      have HN := Lib.hid (dnew_wrong w limit hlow)
      have HM := Lib.hid (rnew_wrong w limit hlow)
      have hbi : limit ≤ 100000 := by omega
      clear hbig hlow
      go_enter Tryz.func5, Tryz.ntmps5
      go_wp2_with fail
      refine HN.out.mono ?_
      rintro e w1 ⟨rfl, hw1⟩
      rw [hw1]
      clear hw1
      go_wp2_with fail
      refine HM.out.mono ?_
      rintro e w1 ⟨rfl, hw1⟩
      rw [hw1]
      clear hw1
      go_wp2_with fail
      refine HA.out.mono ?_
      rintro e w1 ⟨rfl, hb1⟩
      go_wp2_with fail
      go_ret
      exact ⟨rfl, hb1⟩
    · obtain ⟨n, rfl⟩ : ∃ n : Nat, limit = (n : Int) := ⟨limit.toNat, by omega⟩
      have hn1 : 1 ≤ n := by omega
      have hn2 : n ≤ 4194304 := by omega
      have hbi : (n : Int) ≤ 100000 := by omega
      have HN := Lib.hid (new_any w n hn1 hn2)
      have HM := Lib.hid fun W => rnew_any W n hn1 hn2
      have HX := Lib.hid hx
      have HT := Lib.hid ht
      have Hn2 := Lib.hid hn2
      clear hbig hlow hx ht hn1 hn2
      go_enter Tryz.func5, Tryz.ntmps5
      go_wp2_with fail
      refine HN.out.mono ?_
      rintro e w1 ⟨rfl, hD1, hb1⟩
      obtain ⟨db, hdb⟩ : ∃ db, w.heap.size + 2 = db := ⟨_, rfl⟩
      rw [hdb] at hD1 ⊢
      clear hdb
      have HD1 := Lib.hid hD1
      have Hb1 := Lib.hid hb1
      clear hD1 hb1
      go_wp2_with fail
      refine (HM.out _).mono ?_
      rintro e w2 ⟨rb, rfl, hrb, hR2, hb2⟩
      have HP2 := Lib.hid (PlayIn.start Hn2.out HD1.out Hb1.out hR2 hrb hb2)
      have HO := Lib.hid (sopen_any HP2.out.disk (Nat.zero_le _) (Nat.zero_le _) ⟨w, rfl, HT.out, HP2.out.below⟩ HP2.out.told)
      clear hR2 hrb hb2
      go_wp2_with fail
      refine HO.out.mono ?_
      intro e w3 ho3
      obtain ⟨pl, u3, rfl⟩ := ho3.shape
      have HO3 := Lib.hid ho3
      have HRo := Lib.hid (ropen_any (HP2.out.refO ho3) HP2.out.kept.ok (Nat.zero_le _) (Nat.zero_le _))
      clear ho3 HO
      go_wp2_with fail
      refine HRo.out.mono ?_
      intro e w4 ho4
      obtain ⟨pm, u4, rfl⟩ := ho4.shape
      obtain ⟨T4, R4, hP4, -⟩ := HP2.out.opens2 (m := 1) HO3.out ho4 fun hok => HP2.out.kept.opened (by decide) hok
      generalize (openD (newD n)).d = d4 at *
      generalize (openD (newD n)).log = lo4 at *
      have HP4 := Lib.hid hP4
      clear ho4 hP4 HO3 HRo HP2 HN HM HD1 Hb1
      generalize (openD (newD n)).err = er at *
      go_wp2_with fail
      go_loopw [9, 12, 15, 16, 17, 18, 19, 20, 21, 22, 23, 24, 25, 26] (fun l m i _ _ _ _ _ _ _ _ _ _ _ wr => ∃ (k : Nat) (T R : Nat → Prop) (pl pm : Option Addr) (d : Dk) (lo : Option Lg), k ≤ xs.length ∧ k ≤ 60 ∧ i = .int .i64 k ∧ l = .pointer pl ∧ m = .pointer pm ∧ Hid (PlayIn w wr db rb T R pl pm d lo (k + 1))) (fun _ _ i _ _ _ _ _ _ _ _ _ _ _ _ => xs.length - (RowKit.intOf i).toNat)
      case atStart => exact ⟨0, T4, R4, pl, pm, d4, lo4, Nat.zero_le _, Nat.zero_le _, rfl, rfl, rfl, HP4⟩
      case round =>
        obtain ⟨k, T, R, pl1, pm1, d, lo, hk, hk60, rfl, rfl, rfl, HP⟩ := hrel
        by_cases hgo : k < xs.length ∧ k < 60
        · obtain ⟨hlt, h60⟩ := hgo
          obtain ⟨x, hx⟩ := at_some hlt
          obtain ⟨b, off, hae, hbl, c0, c1, c2, c3, c4⟩ := opv_at (HX.out.1.keeps HP.out.below) hx
          have hki : (k : Int) < (xs.length : Int) := by omega
          have h60i : (k : Int) < 60 := by omega
          have Hxr := Lib.hid (HX.out.2 x (List.mem_of_getElem? hx))
          have hV := VarAt.new wr #[.int .i64 x.ask, .slice x.ra x.rs.length x.rc, .int .i64 x.n, .bool x.torn, .string x.tq] 44
          have hal := (Below.refl wr.heap.size wr).alloc (Nat.le_refl _) (.cells #[.int .i64 x.ask, .slice x.ra x.rs.length x.rc, .int .i64 x.n, .bool x.torn, .string x.tq] 44)
          have HP5 := Lib.hid (HP.out.keeps hal)
          have HTl := Lib.hid HP.out.disk.slt
          have HRl := Lib.hid HP.out.ref.slt
          have HLl := Lib.hid HP.out.logs.lt
          obtain ⟨bx, hbx⟩ : ∃ bx, wr.heap.size = bx := ⟨_, rfl⟩
          have Hbx := Lib.hid hbx
          obtain ⟨w5, hw5⟩ : ∃ w5, wr.alloc (.cells #[.int .i64 x.ask, .slice x.ra x.rs.length x.rc, .int .i64 x.n, .bool x.torn, .string x.tq] 44) = w5 := ⟨_, rfl⟩
          have Hw5 := Lib.hid hw5
          rw [hw5] at HP5 hV
          rw [hbx] at hV HTl HRl HLl
          have HV5 := Lib.hid hV
          have f0 := hV.2.2 0 _ rfl
          have f1 := hV.2.2 1 _ rfl
          have f2 := hV.2.2 2 _ rfl
          have f3 := hV.2.2 3 _ rfl
          have f4 := hV.2.2 4 _ rfl
          have HFw := Lib.hid (sfew_any x.ask x.n x.ra x.rc x.rs x.torn x.tq w5 (Hxr.out.keeps HP5.out.below))
          subst hae
          clear hal hV hx hbx hw5
          go_upto_region 15 with fail
          rw [Hw5.out, Hbx.out]
          go_wp2_with fail
          refine HFw.out.mono ?_
          rintro e w6 ⟨rfl, hb6⟩
          have HP6 := Lib.hid (HP5.out.keeps hb6)
          have HV6 := Lib.hid (HV5.out.keeps hb6 HV5.out.1)
          clear hb6 f0 f1 f2 f3 f4 c0 c1 c2 c3 c4 HFw
          cases hfw : fewB x.rs x.tq with
          | false =>
            have HA := Lib.hid (HAw.out w6 HP6.out.below)
            clear hfw
            go_wp2_with fail
            refine HA.out.mono ?_
            rintro e w7 ⟨rfl, hb7⟩
            go_wp2_with fail
            go_ret
            exact ⟨rfl, HP6.out.below.trans (hb7.mono HP6.out.below.size)⟩
          | true =>
            obtain ⟨hrs, htq, hss⟩ := of_decide_eq_true (show decide (x.rs.length ≤ 30 ∧ x.tq.size ≤ 100 ∧ ∀ s ∈ x.rs, s.size ≤ 2500) = true from hfw)
            have Hss := Lib.hid hss
            have hn1 := HP6.out.kept.now.1
            have hn2 := HP6.out.kept.now.2
            have hn3 := HP6.out.kept.bnd.acts
            have Hvar := Lib.hid (show ∀ W, Turned (fun k => k < bx) w6.heap.size w6 W → VarAt W bx x.cells from fun W hW => HV6.out.same (hW.block bx HV6.out.1 (Nat.lt_irrefl _)) hW.size)
            have f0 := HV6.out.2.2 0 _ rfl
            have f1 := HV6.out.2.2 1 _ rfl
            have f2 := HV6.out.2.2 2 _ rfl
            have f3 := HV6.out.2.2 3 _ rfl
            have f4 := HV6.out.2.2 4 _ rfl
            clear hfw hss HP5 HV5 HP Hw5
            go_upto_block 2 with fail
            go_cut [9, 12, 17, 18] from 170 to 170 (fun l m aa bb wx => ∃ (T R : Nat → Prop) (pl pm : Option Addr) (d : Dk) (lo : Option Lg) (ev : Int), l = .pointer pl ∧ m = .pointer pm ∧ aa = .int .i64 ev ∧ bb = .int .i64 ev ∧ Hid (PlayIn w wx db rb T R pl pm d lo (k + 2)))
            case first =>
              by_cases h0 : x.ask = 0
              · have b0 : (x.ask == 0) = true := beq_iff_eq.2 h0
                clear h0
                rcases HP6.out.logs with ⟨hlo, hpl, hpm⟩ | ⟨l, lb, mb, hlo, hpl, hpm, hL, hM, _, _, hTl, hRl, hTm, hRm, hne, hmany⟩
                · as_aux_lemma =>
                  subst hpl hpm
                  clear hlo
                  go_wp2_with fail
                  go_meet
                  case rel => exact ⟨T, R, none, none, d, lo, 0, rfl, rfl, rfl, rfl, Lib.hid (HP6.out.le (Nat.le_succ _))⟩
                · subst hpl hpm hlo
                  have hxrow : ∀ W, Below w.heap.size w W → ∀ ad, x.ra = some ad → 0 < x.rs.length → ad.block < W.heap.size ∧ ad.block < w.heap.size := fun W hW ad e h0 => by
                    have h1 := Hxr.out
                    rw [e] at h1
                    have := rows_block h1 h0
                    exact ⟨Nat.lt_of_lt_of_le this hW.size, this⟩
                  have hlt2 := HLl.out l lb mb rfl rfl rfl
                  have HA := Lib.hid (sappend_any HP6.out.disk hL hTl x.ra x.rc x.rs (Hxr.out.keeps HP6.out.below) (fun ad e h0 => ⟨(hxrow w6 HP6.out.below ad e h0).1, fun e2 => by have := HP6.out.told _ e2; have := (hxrow w6 HP6.out.below ad e h0).2; omega⟩) (by omega) (by omega) (by omega) (by omega))
                  have Hxrow := Lib.hid hxrow
                  have HM := Lib.hid hM
                  have Hfacts := Lib.hid (show ¬ T mb ∧ lb ≠ mb ∧ lb < bx ∧ mb < bx ∧ ¬ R mb ∧ l.many ≤ 800 ∧ w.heap.size ≤ mb from ⟨hTm, hne, hlt2.1, hlt2.2, hRm, hmany, by assumption⟩)
                  clear hxrow hL hM hTl hRl hTm hRm hne hmany hlt2
                  as_aux_lemma =>
                  go_wp2_with fail
                  refine HA.out.mono ?_
                  intro e w7 ho7
                  obtain rfl := ho7.1
                  obtain ⟨q1, q2, q3, q4, q5, q6, q7⟩ := Hfacts.out
                  have hV7 := Hvar.out w7 (ho7.older HTl.out q3)
                  have g1 := hV7.2.2 1 _ rfl
                  have hT7 : Turned (fun k => T k ∨ k = lb) w6.heap.size w6 w7 := by
                    obtain ⟨-, _, T', _, _, _, h⟩ := ho7
                    exact h
                  have hM7 : LAt w7 mb rb l := VarAt.same HM.out (hT7.block mb HM.out.1 fun e => e.elim q1 fun e => q2 e.symm) hT7.size
                  have hb7 : Below w.heap.size w w7 := HP6.out.below.trans (hT7.below HP6.out.below.size fun k hk e => by
                    rcases e with e | e
                    · have := HP6.out.told k e
                      omega
                    · obtain ⟨_, _, e1, _, _, _, h, _⟩ := HP6.out.logs1
                      omega)
                  have HB := Lib.hid (rappend_any (HP6.out.refA ho7) HP6.out.kept.ok hM7 q5 x.ra x.rc x.rs (Hxr.out.keeps hb7) (fun ad e h0 => ⟨(Hxrow.out w7 hb7 ad e h0).1, fun e2 => (by have := HP6.out.rold _ e2; have := (Hxrow.out w7 hb7 ad e h0).2; omega), fun e2 => (by have := (Hxrow.out w7 hb7 ad e h0).2; omega)⟩) (by omega) (by omega) (by omega) (by omega))
                  have Ho7 := Lib.hid ho7
                  clear ho7 hV7 hT7 hM7 hb7 q1 q2 q3 q4 q5 q6 q7
                  go_wp2_with fail
                  refine HB.out.mono ?_
                  intro e w8 ho8
                  obtain rfl := ho8.1
                  obtain ⟨T8, R8, hP8⟩ := HP6.out.apped (m := k + 2) Ho7.out ho8 fun hok => HP6.out.kept.append l x.rs hrs hok
                  have HP8 := Lib.hid hP8
                  clear ho8 hP8 g1
                  go_wp2_with fail
                  go_meet
                  case rel => exact ⟨T8, R8, _, _, _, _, _, rfl, rfl, rfl, rfl, HP8⟩
              · have b0 : (x.ask == 0) = false := beq_eq_false_iff_ne.2 h0
                by_cases h1 : x.ask = 1
                · have b1 : (x.ask == 1) = true := beq_iff_eq.2 h1
                  have HA := Lib.hid (darm_any HP6.out.disk x.n)
                  clear h0 h1
                  as_aux_lemma =>
                  go_wp2_with fail
                  refine HA.out.mono ?_
                  rintro e w7 ⟨rfl, hg7⟩
                  have hV7 := Hvar.out w7 (hg7.2.mono (Nat.le_refl _) fun k _ e => HTl.out k e)
                  have g2 := hV7.2.2 2 _ rfl
                  have HB := Lib.hid (rarm_any (HP6.out.ref1 hg7) x.n)
                  have Hg7 := Lib.hid hg7
                  clear hg7 hV7
                  go_wp2_with fail
                  refine HB.out.mono ?_
                  rintro e w8 ⟨rfl, hg8⟩
                  have HP8 := Lib.hid ((HP6.out.both Hg7.out hg8 (HP6.out.kept.arm x.n)).le (Nat.le_succ _))
                  clear hg8 g2
                  go_wp2_with fail
                  go_meet
                  case rel => exact ⟨_, _, pl1, pm1, _, lo, 0, rfl, rfl, rfl, rfl, HP8⟩
                · have b1 : (x.ask == 1) = false := beq_eq_false_iff_ne.2 h1
                  by_cases h3 : x.ask = 3
                  · have b3 : (x.ask == 3) = true := beq_iff_eq.2 h3
                    clear h0 h1 h3
                    by_cases hz : x.rs.length = 0
                    · have hzi : ¬ ((0 : Int) < (x.rs.length : Int)) := by omega
                      clear hz
                      as_aux_lemma =>
                      go_wp2_with fail
                      go_meet
                      case rel => exact ⟨T, R, pl1, pm1, d, lo, 0, rfl, rfl, rfl, rfl, Lib.hid (HP6.out.le (Nat.le_succ _))⟩
                    · have hzi : (0 : Int) < (x.rs.length : Int) := by omega
                      obtain ⟨s, hs⟩ := at_some (l := x.rs) (k := 0) (by omega)
                      obtain ⟨b2, off2, hae2, hbl2, hc2⟩ := str_at (Hxr.out.keeps HP6.out.below) hs
                      rw [Nat.add_zero] at hc2
                      have hsz := Hss.out s (List.mem_of_getElem? hs)
                      have HPd := Lib.hid (HP6.out.keeps (Below.refl w6.heap.size w6).drew)
                      have HW := Lib.hid (dwrite_any HPd.out.disk x.tq x.n s (by omega) (by omega) (by omega))
                      have Hsr := Lib.hid hs
                      rw [hae2] at f1
                      have Hae := Lib.hid hae2
                      have HKs := Lib.hid (show ∀ W, Turned (fun k => k < bx) w6.heap.size w6 W → Below w.heap.size w W → (W.cell? ⟨bx, 4, none⟩ = some (.string x.tq) ∧ W.cell? ⟨bx, 2, none⟩ = some (.int .i64 x.n) ∧ W.cell? ⟨bx, 1, none⟩ = some (.slice (some ⟨b2, off2, none⟩) x.rs.length x.rc) ∧ W.cell? ⟨b2, off2, none⟩ = some (.string s)) from fun W h1 h2 => by
                        have hV := Hvar.out W h1
                        obtain ⟨b3, off3, e3, _, hc3⟩ := str_at (Hxr.out.keeps h2) hs
                        have e4 := hV.2.2 1 _ rfl
                        rw [hae2] at e3 e4
                        cases e3
                        rw [Nat.add_zero] at hc3
                        exact ⟨hV.2.2 4 _ rfl, hV.2.2 2 _ rfl, e4, hc3⟩)
                      clear hz hs hae2 hbl2
                      as_aux_lemma =>
                      go_upto_region 38 with fail
                      generalize hwd : writeD d x.tq x.n s = wd at *
                      have Hkw := Lib.hid (show Kept (k + 1 + 1) wd.1 by rw [← hwd]; exact HP6.out.kept.write x.tq x.n s (by omega))
                      have HB0 := Lib.hid (show ∀ W, ROk W rb R d → Calls Tryz.prog 22 #[.pointer (some ⟨rb, 0, none⟩), .string x.tq, .int .i64 x.n, .string s] W fun e w' => e = .returned (.int .i64 wd.2) ∧ RGo W rb R wd.1 w' from fun W hW => by
                        rw [← hwd]
                        exact rwrite_any hW HP6.out.kept.ok x.tq x.n s (by omega) (by omega) (by omega))
                      clear hwd
                      go_cut [17] from 149 to 160 (fun v wx => v = .int .i64 wd.2 ∧ Hid (DGo w6 db T wd.1 wx))
                      case first =>
                        go_region_held3 (fun w' => w'.cell? ⟨bx, 4, none⟩ = some (.string x.tq) ∧ w'.cell? ⟨bx, 2, none⟩ = some (.int .i64 x.n) ∧ w'.cell? ⟨bx, 1, none⟩ = some (.slice (some ⟨b2, off2, none⟩) x.rs.length x.rc) ∧ w'.cell? ⟨b2, off2, none⟩ = some (.string s))
                          (first | exact ⟨f4, f2, f1, hc2⟩ | exact hK7 | go_keep)
                          (first | (go_at_call 21; refine HW.out.mono ?_; rintro e w7 ⟨rfl, hg7⟩; have hK7 := HKs.out w7 (hg7.undrew.2.mono (Nat.le_refl _) fun k _ e => HTl.out k e) (HP6.out.below.trans (hg7.undrew.2.below HP6.out.below.size fun k hk e => by have := HP6.out.told k e; omega))))
                        go_wp2_with fail
                        go_meet
                        case rel => exact ⟨rfl, Lib.hid hg7.undrew⟩
                      case rest =>
                        obtain ⟨hcv, Hg7⟩ := hcut
                        subst hcv
                        obtain ⟨w7, hw7⟩ : ∃ w7 : World, w7 = wc := ⟨_, rfl⟩
                        rw [← hw7] at Hg7 ⊢
                        clear hw7
                        have hb7 : Below w.heap.size w w7 := HP6.out.below.trans (Hg7.out.2.below HP6.out.below.size fun k hk e => by have := HP6.out.told k e; omega)
                        have hV7 := Hvar.out w7 (Hg7.out.2.mono (Nat.le_refl _) fun k _ e => HTl.out k e)
                        obtain ⟨g4, g2, g1, hc3⟩ := HKs.out w7 (Hg7.out.2.mono (Nat.le_refl _) fun k _ e => HTl.out k e) hb7
                        have HB := Lib.hid (HB0.out w7.drew ((HP6.out.ref1 Hg7.out).below (Below.refl w7.heap.size w7).drew))
                        have hK := Lib.hid (show ∀ W, RGo w7.drew rb R wd.1 W → (W.cell? ⟨bx, 4, none⟩ = some (.string x.tq) ∧ W.cell? ⟨bx, 2, none⟩ = some (.int .i64 x.n) ∧ W.cell? ⟨bx, 1, none⟩ = some (.slice (some ⟨b2, off2, none⟩) x.rs.length x.rc) ∧ W.cell? ⟨b2, off2, none⟩ = some (.string s)) from fun W hg => HKs.out W ((Hg7.out.2.mono (Nat.le_refl _) fun k _ e => HTl.out k e).trans (hg.undrew.2.mono Hg7.out.2.size fun k _ e => HRl.out k e)) (hb7.trans (hg.undrew.2.below hb7.size fun k hk e => by have := HP6.out.rold k e; omega)))
                        clear hV7 hb7 f0 f1 f2 f3 f4 hc2
                        go_upto_region 39 with fail
                        go_region_held3 (fun w' => w'.cell? ⟨bx, 4, none⟩ = some (.string x.tq) ∧ w'.cell? ⟨bx, 2, none⟩ = some (.int .i64 x.n) ∧ w'.cell? ⟨bx, 1, none⟩ = some (.slice (some ⟨b2, off2, none⟩) x.rs.length x.rc) ∧ w'.cell? ⟨b2, off2, none⟩ = some (.string s))
                          (first | exact ⟨g4, g2, g1, hc3⟩ | exact hK8 | go_keep)
                          (first | (go_at_call 22; refine HB.out.mono ?_; rintro e w8 ⟨rfl, hg8⟩; have hK8 := hK.out w8 hg8))
                        have HP8 := Lib.hid (HP6.out.both Hg7.out hg8.undrew Hkw.out)
                        clear hg8
                        go_wp2_with fail
                        go_meet
                        case rel => exact ⟨_, _, pl1, pm1, _, lo, _, rfl, rfl, rfl, rfl, HP8⟩
                  · have b3 : (x.ask == 3) = false := beq_eq_false_iff_ne.2 h3
                    clear h0 h1 h3
                    go_upto_if 87 with fail
                    go_cut [] from 85 to 87 (fun wx => ∃ (T R : Nat → Prop) (d : Dk), Hid (PlayIn w wx db rb T R pl1 pm1 d lo (k + 1)))
                    case first =>
                      by_cases h2 : x.ask = 2
                      · have b2 : (x.ask == 2) = true := beq_iff_eq.2 h2
                        have HA := Lib.hid (dcrash_any HP6.out.disk x.n x.torn (by omega))
                        clear h2
                        as_aux_lemma =>
                        go_wp2_with fail
                        refine HA.out.mono ?_
                        rintro e w7 ⟨rfl, hg7⟩
                        have hV7 := Hvar.out w7 (hg7.2.mono (Nat.le_refl _) fun k _ e => HTl.out k e)
                        have g2 := hV7.2.2 2 _ rfl
                        have g3 := hV7.2.2 3 _ rfl
                        have HB := Lib.hid (rcrash_any (HP6.out.ref1 hg7) HP6.out.kept.ok x.n x.torn (by omega))
                        have Hg7 := Lib.hid hg7
                        clear hg7 hV7
                        go_wp2_with fail
                        refine HB.out.mono ?_
                        rintro e w8 ⟨rfl, hg8⟩
                        have HP8 := Lib.hid (HP6.out.both Hg7.out hg8 (HP6.out.kept.crash x.n x.torn))
                        clear hg8 g2 g3
                        go_wp2_with fail
                        go_meet
                        case rel => exact ⟨_, _, _, HP8⟩
                      · have b2 : (x.ask == 2) = false := beq_eq_false_iff_ne.2 h2
                        clear h2
                        as_aux_lemma =>
                        go_wp2_with fail
                        go_meet
                        case rel => exact ⟨T, R, d, HP6⟩
                    case rest =>
                      obtain ⟨T7, R7, d7, HP7⟩ := hcut
                      obtain ⟨w7, hw7⟩ : ∃ w7 : World, w7 = wc := ⟨_, rfl⟩
                      rw [← hw7] at HP7 ⊢
                      have hm1 := HP7.out.kept.now.1
                      have hm2 := HP7.out.kept.bnd.acts
                      have HO := Lib.hid (sopen_any HP7.out.disk (by omega) (by omega) ⟨w, rfl, HT.out, HP7.out.below⟩ HP7.out.told)
                      clear hw7 f0 f1 f2 f3 f4 hn1 hn2 hn3
                      as_aux_lemma =>
                      go_wp2_with fail
                      refine HO.out.mono ?_
                      intro e w8 ho8
                      obtain ⟨pl8, v8, rfl⟩ := ho8.shape
                      have HO8 := Lib.hid ho8
                      have HRo := Lib.hid (ropen_any (HP7.out.refO ho8) HP7.out.kept.ok (by omega) (by omega))
                      clear ho8 HO
                      go_wp2_with fail
                      refine HRo.out.mono ?_
                      intro e w9 ho9
                      obtain ⟨pm9, v9, rfl⟩ := ho9.shape
                      obtain ⟨T9, R9, hP9, a1, c1, a2, c2, rfl, rfl, hr1, hr2⟩ := HP7.out.opens2 (m := k + 2) HO8.out ho9 fun hok => HP7.out.kept.opened (by omega) hok
                      have hol : (openD d7).out.length ≤ 140737488351232 := Nat.le_trans (open_out d7) (by decide)
                      have HTx := Lib.hid (stexts_any a1 a2 c1 c2 (openD d7).out (openD d7).out w9 hol hr1 hr2)
                      rw [decide_eq_true (show (openD d7).out = (openD d7).out from rfl)] at HTx
                      generalize (openD d7).d = d9 at *
                      generalize (openD d7).log = lo9 at *
                      generalize (openD d7).err = er9 at *
                      have HP9 := Lib.hid hP9
                      clear ho9 hP9 HO8 HRo hr1 hr2 hol
                      go_wp2_with fail
                      refine HTx.out.mono ?_
                      rintro e w10 ⟨rfl, nd, hw10⟩
                      have HP10 := Lib.hid (show PlayIn w w10 db rb T9 R9 pl8 pm9 d9 lo9 (k + 2) by rw [hw10]; exact HP9.out.keeps (belowDrew (Below.refl _ _) nd))
                      clear hw10 HTx
                      rcases HP10.out.logs with ⟨hlo, hpl, hpm⟩ | ⟨l, lb, mb, hlo, hpl, hpm, _⟩
                      · subst hpl hpm
                        clear hlo
                        go_wp2_with fail
                        go_meet
                        case rel => exact ⟨_, _, _, _, _, _, _, rfl, rfl, rfl, rfl, HP10⟩
                      · subst hpl hpm
                        clear hlo
                        go_wp2_with fail
                        go_meet
                        case rel => exact ⟨_, _, _, _, _, _, _, rfl, rfl, rfl, rfl, HP10⟩
            case rest =>
              obtain ⟨T1, R1, pl2, pm2, d2, lo2, ev, hl1, hm1, ha1, hb1, HP⟩ := hcut
              subst hl1 hm1 ha1 hb1
              obtain ⟨w7, hw7⟩ : ∃ w7 : World, w7 = wc := ⟨_, rfl⟩
              rw [← hw7] at HP ⊢
              clear hw7 f0 f1 f2 f3 f4 hn1 hn2 hn3 HP6 HV6 Hvar Hss hrs htq HTl HRl HLl Hxr
              have hm1 := HP.out.kept.now.1
              have Hm1 := Lib.hid (show d2.now.length ≤ 100000 by omega)
              have HDd := Lib.hid (ddead_any HP.out.disk)
              have HRd := Lib.hid (rdead_any HP.out.ref)
              have HDn := Lib.hid (dnames_any HP.out.disk Hm1.out)
              have hnl : (namesD d2).length = d2.now.length := List.length_map ..
              have hnl2 : (namesD d2).length ≤ 140737488351232 := by omega
              have HSz := Lib.hid fun W (hW : Below w7.heap.size w7 W) => dsize_any (HP.out.keeps hW).disk Hm1.out
              have HRz := Lib.hid fun W (hW : Below w7.heap.size w7 W) => rsize_any (HP.out.keeps hW).ref HP.out.kept.ok Hm1.out
              have HRn := Lib.hid fun W (hW : Below w7.heap.size w7 W) => rnames_any (HP.out.keeps hW).ref Hm1.out
              have e1 : (ev != ev) = false := bne_self_eq_false ev
              have HDr := Lib.hid fun W (hW : Below w7.heap.size w7 W) p => dread_any (HP.out.keeps hW).disk p
              have HRr := Lib.hid fun W (hW : Below w7.heap.size w7 W) p => rread_any (HP.out.keeps hW).ref HP.out.kept.ok p Hm1.out
              obtain ⟨dd, hdd⟩ : ∃ dd, d2.dead = dd := ⟨_, rfl⟩
              rw [hdd] at HDd HRd
              clear hdd
              have e2 : (dd != dd) = false := bne_self_eq_false dd
              obtain ⟨ns, hns⟩ : ∃ ns, namesD d2 = ns := ⟨_, rfl⟩
              rw [hns] at HDn HRn hnl2
              have Hnl2 := Lib.hid hnl2
              clear hns hnl hnl2
              generalize sizeF d2.now = sz at *
              as_aux_lemma =>
              go_wp2_with fail
              refine HDd.out.mono ?_
              rintro e w8 ⟨rfl, hw8⟩
              rw [hw8]
              clear hw8
              go_wp2_with fail
              refine HRd.out.mono ?_
              rintro e w8 ⟨rfl, hw8⟩
              rw [hw8]
              clear hw8
              go_wp2_with fail
              refine HDn.out.mono ?_
              rintro e w8 ⟨u8, rfl, hu8, hb8⟩
              have Hu8 := Lib.hid hu8
              have Hb8 := Lib.hid hb8
              obtain ⟨a8, c8, rfl, _, _⟩ := hu8.read
              clear hu8 hb8
              go_wp2_with fail
              refine (HRn.out _ Hb8.out).mono ?_
              rintro e w9 ⟨u9, rfl, hu9, hb9⟩
              obtain ⟨a9, c9, rfl, hr9, _⟩ := hu9.read
              obtain ⟨a8', c8', hae, hr8, _⟩ := (Hu8.out.below hb9).read
              cases hae
              have Hb9 := Lib.hid (Hb8.out.trans (hb9.mono Hb8.out.size))
              have HTx := Lib.hid (stexts_any a8 a9 c8 c9 ns ns w9 Hnl2.out hr8 hr9)
              rw [decide_eq_true (show ns = ns from rfl)] at HTx
              clear hr8 hr9 hb9
              go_wp2_with fail
              refine HTx.out.mono ?_
              rintro e w10 ⟨rfl, nd, hw10⟩
              have Hb10 := Lib.hid (show Below w7.heap.size w7 w10 by rw [hw10]; exact belowDrew Hb9.out nd)
              clear hw10 HTx
              go_wp2_with fail
              refine (HSz.out _ Hb10.out).mono ?_
              rintro e w11 ⟨rfl, hb11⟩
              have Hb11 := Lib.hid (Hb10.out.trans (hb11.mono Hb10.out.size))
              clear hb11
              go_wp2_with fail
              refine (HRz.out _ Hb11.out).mono ?_
              rintro e w12 ⟨rfl, hw12⟩
              rw [hw12]
              clear hw12
              have HP11 := Lib.hid (HP.out.keeps Hb11.out)
              clear HRz HSz HDn HRd HDd
              rcases HP11.out.logs with ⟨hlo, hpl, hpm⟩ | ⟨l, lb, mb, hlo, hpl, hpm, hL, hM, _⟩
              · subst hpl hpm
                clear hlo
                go_wp2_with fail
                refine (HRn.out _ Hb11.out).mono ?_
                rintro e w13 ⟨u13, rfl, hu13, hb13⟩
                obtain ⟨a13, c13, rfl, _, _⟩ := hu13.read
                have Hb13 := Lib.hid (Hb11.out.trans (hb13.mono Hb11.out.size))
                have Hu13 := Lib.hid hu13
                have hnl3 := Hnl2.out
                clear hb13 hu13
                go_wp2_with fail
                go_loopw [22, 23, 24, 25, 26] (fun j _ _ _ _ wx => ∃ q : Nat, q ≤ ns.length ∧ j = .int .i64 q ∧ Below w13.heap.size w13 wx) (fun j _ _ _ _ _ => ns.length - (RowKit.intOf j).toNat)
                case atStart => exact ⟨0, Nat.zero_le _, rfl, Below.refl _ _⟩
                case round =>
                  obtain ⟨q, hq, rfl, hb⟩ := hrel
                  have Hbw := Lib.hid (Hb13.out.trans (hb.mono Hb13.out.size))
                  have Hb := Lib.hid hb
                  by_cases hlt : q < ns.length
                  · obtain ⟨p, hp⟩ := at_some hlt
                    obtain ⟨a', c', hae, hrow, _⟩ := (Hu13.out.below hb).read
                    cases hae
                    obtain ⟨b4, off4, hae, hbl4, hc4⟩ := str_at hrow hp
                    have hlti : (q : Int) < (ns.length : Int) := by omega
                    have HA := Lib.hid (HDr.out _ Hbw.out p)
                    have HB := Lib.hid (HRr.out _ Hbw.out p)
                    subst hae
                    clear hp hrow hb
                    generalize (readD d2 p).1 = rs1 at *
                    generalize (readD d2 p).2 = re1 at *
                    have e3 := str_eq (rfl : rs1 = rs1)
                    have e4 : (re1 != re1) = false := bne_self_eq_false re1
                    go_wp2_with fail
                    refine HA.out.mono ?_
                    rintro e w14 ⟨rfl, hw14⟩
                    rw [hw14]
                    clear hw14
                    go_wp2_with fail
                    refine HB.out.mono ?_
                    rintro e w14 ⟨rfl, hb14⟩
                    have Hb14 := Lib.hid (Hb.out.trans (hb14.mono Hb.out.size))
                    clear hb14 hc4
                    go_wp2_with fail
                    go_roundw
                    case rel => exact ⟨q + 1, by omega, by go_num, Hb14.out⟩
                    case measure => simp [RowKit.intOf]; omega
                  · obtain rfl : q = ns.length := by omega
                    clear hb
                    go_wp2_with fail
                    go_roundw
                    case rel => exact ⟨k + 1, T1, R1, _, _, d2, lo2, by omega, by omega, by go_num, rfl, rfl, Lib.hid (HP.out.keeps Hbw.out)⟩
                    case measure => simp [RowKit.intOf]; omega
              · have HLn := Lib.hid (slen_any lb db l w11 hL)
                have HMn := Lib.hid (rlen_any mb rb l w11 hM)
                subst hpl hpm
                clear hlo hL hM
                obtain ⟨many, hmany⟩ : ∃ m, l.many = m := ⟨_, rfl⟩
                rw [hmany] at HLn HMn
                clear hmany
                have e5 : ((many : Int) != (many : Int)) = false := bne_self_eq_false _
                go_wp2_with fail
                refine HLn.out.mono ?_
                rintro e w12 ⟨rfl, hw12⟩
                rw [hw12]
                clear hw12
                go_wp2_with fail
                refine HMn.out.mono ?_
                rintro e w12 ⟨rfl, hw12⟩
                rw [hw12]
                clear hw12
                go_wp2_with fail
                refine (HRn.out _ Hb11.out).mono ?_
                rintro e w13 ⟨u13, rfl, hu13, hb13⟩
                obtain ⟨a13, c13, rfl, _, _⟩ := hu13.read
                have Hb13 := Lib.hid (Hb11.out.trans (hb13.mono Hb11.out.size))
                have Hu13 := Lib.hid hu13
                have hnl3 := Hnl2.out
                clear hb13 hu13
                go_wp2_with fail
                go_loopw [22, 23, 24, 25, 26] (fun j _ _ _ _ wx => ∃ q : Nat, q ≤ ns.length ∧ j = .int .i64 q ∧ Below w13.heap.size w13 wx) (fun j _ _ _ _ _ => ns.length - (RowKit.intOf j).toNat)
                case atStart => exact ⟨0, Nat.zero_le _, rfl, Below.refl _ _⟩
                case round =>
                  obtain ⟨q, hq, rfl, hb⟩ := hrel
                  have Hbw := Lib.hid (Hb13.out.trans (hb.mono Hb13.out.size))
                  have Hb := Lib.hid hb
                  by_cases hlt : q < ns.length
                  · obtain ⟨p, hp⟩ := at_some hlt
                    obtain ⟨a', c', hae, hrow, _⟩ := (Hu13.out.below hb).read
                    cases hae
                    obtain ⟨b4, off4, hae, hbl4, hc4⟩ := str_at hrow hp
                    have hlti : (q : Int) < (ns.length : Int) := by omega
                    have HA := Lib.hid (HDr.out _ Hbw.out p)
                    have HB := Lib.hid (HRr.out _ Hbw.out p)
                    subst hae
                    clear hp hrow hb
                    generalize (readD d2 p).1 = rs1 at *
                    generalize (readD d2 p).2 = re1 at *
                    have e3 := str_eq (rfl : rs1 = rs1)
                    have e4 : (re1 != re1) = false := bne_self_eq_false re1
                    go_wp2_with fail
                    refine HA.out.mono ?_
                    rintro e w14 ⟨rfl, hw14⟩
                    rw [hw14]
                    clear hw14
                    go_wp2_with fail
                    refine HB.out.mono ?_
                    rintro e w14 ⟨rfl, hb14⟩
                    have Hb14 := Lib.hid (Hb.out.trans (hb14.mono Hb.out.size))
                    clear hb14 hc4
                    go_wp2_with fail
                    go_roundw
                    case rel => exact ⟨q + 1, by omega, by go_num, Hb14.out⟩
                    case measure => simp [RowKit.intOf]; omega
                  · obtain rfl : q = ns.length := by omega
                    clear hb
                    go_wp2_with fail
                    go_roundw
                    case rel => exact ⟨k + 1, T1, R1, _, _, d2, lo2, by omega, by omega, by go_num, rfl, rfl, Lib.hid (HP.out.keeps Hbw.out)⟩
                    case measure => simp [RowKit.intOf]; omega
        · have HA := Lib.hid (HAw.out wr HP.out.below)
          by_cases hlt : k < xs.length
          · have hki : (k : Int) < (xs.length : Int) := by omega
            have h60i : ¬ ((k : Int) < 60) := fun h => hgo ⟨hlt, by omega⟩
            clear hgo
            go_wp2_with fail
            refine HA.out.mono ?_
            rintro e w7 ⟨rfl, hb7⟩
            go_wp2_with fail
            go_ret
            exact ⟨rfl, HP.out.below.trans (hb7.mono HP.out.below.size)⟩
          · have hki : ¬ ((k : Int) < (xs.length : Int)) := by omega
            clear hgo
            go_wp2_with fail
            refine HA.out.mono ?_
            rintro e w7 ⟨rfl, hb7⟩
            go_wp2_with fail
            go_ret
            exact ⟨rfl, HP.out.below.trans (hb7.mono HP.out.below.size)⟩
end Go.Proofs.YtgglheelhbfgiaaGreatDoor

namespace Go.Proofs.YtgglheelhbfgiaaGreatDoor
open Go Go.RowKit Go.ChangeShapes Go.WideShapes Go.ChangeAt

theorem own : ownKnob Tryz.prog.godebug = none := by kernel_rfl
theorem laidOut : laidOutB Tryz.prog = true := by kernel_rfl
end Go.Proofs.YtgglheelhbfgiaaGreatDoor

namespace Go.Proofs.YtgglheelhbfgiaaGreatDoor
open Go Go.RowKit Go.ChangeShapes Go.WideShapes Go.ChangeAt
/-- What the listed tables give: the table of powers of ten. -/
theorem tab_of_laid {W : World} {l : List (String × DataW Unit)} (hm : ("internal/strconv.uint64pow10", Rows.laid_internal_strconv_uint64pow10) ∈ l) (hp : (l.all fun x => x.2.handleName?.isNone) = true) (h : laidMetH Tryz.prog l W) : TabD W := by
  rw [MakeChecks.laidMetH_plain _ _ _ hp] at h
  exact tabIs_of_reads (g := 0) (t := 253) (by kernel_rfl) (by kernel_rfl) Tryz.underlying253 Tryz.underlying173 (by kernel_rfl) (by kernel_rfl) (Lib.laidMet.reads h hm)
end Go.Proofs.YtgglheelhbfgiaaGreatDoor

