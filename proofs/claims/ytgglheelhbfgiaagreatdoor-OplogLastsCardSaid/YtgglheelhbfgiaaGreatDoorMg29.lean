/-
  The law OplogLasts.
-/
import Derived.Test.YtgglheelhbfgiaaGreatDoorMg28
import Derived.Lib.QuietBelow
import Derived.BigQuiet
namespace Go.Proofs.YtgglheelhbfgiaaGreatDoor
open Go Go.RowKit Go.Lib
set_option maxRecDepth 100000 in
set_option maxHeartbeats 25600000 in
theorem law_oplogLasts (qa : Option Addr) (qc : Nat) (adds : List AddV) (ca : Option Addr) (cc : Nat) (cuts : List Int) (ka : Option Addr) (kc : Nat) (keeps : List Int) (w : World) (_ : adds.length ≤ 140737488351232) (hP : RowsAt addvLay w qa adds ∧ ∀ x ∈ adds, x.Ok w) (hcl : cuts.length ≤ 140737488351232) (hC : RowsAt numLay w ca cuts) (hkl : keeps.length ≤ 140737488351232) (hK : RowsAt numLay w ka keeps) (ht : TabD w) :
    Calls Tryz.prog 8 #[.slice qa adds.length qc, .slice ca cuts.length cc, .slice ka keeps.length kc] w fun e w' => e = .returned (.bool true) ∧ Below w.heap.size w w' := by
  have HN := Lib.hid (new_any w 4194304 (by decide) (by decide))
  have HT := Lib.hid ht
  have HPu := Lib.hid hP.1
  have HPx := Lib.hid hP.2
  have HCu := Lib.hid hC
  have HKe := Lib.hid hK
  have HAw := Lib.hid fun W (hW : Below w.heap.size w W) => awake18_any W (ht.keeps hW)
  clear hP hC hK ht
  obtain ⟨db, hdb⟩ : ∃ db, w.heap.size + 2 = db := ⟨_, rfl⟩
  rw [hdb] at HN
  clear hdb
  go_enter Tryz.func8, Tryz.ntmps8
  go_wp2_with fail
  refine HN.out.mono ?_
  rintro e w1 ⟨rfl, hD, hb1⟩
  have HO := Lib.hid (oopen_known (w0 := w) (Q := []) (s := noSt) hD new_mid rfl HT.out hb1 (fun k hk => hk.1))
  clear hD hb1
  go_wp2_with fail
  refine HO.out.mono ?_
  rintro e w2 ⟨T1, ob, lb, rfl, hIn, z1, z2, z3, z4⟩
  clear z1 z2 z3 z4
  have HS0 : Hid (StL 4194304 (openD (newD 4194304)).d [] ∧ replaysS noSt (([] : List (List UInt8)).map mkB) = some noSt ∧ GoodO noSt.ops) := Lib.hid ⟨(open_still (new_mid (lim := 4194304)) (by decide)).2.2.2.1, rfl, good_nil⟩
  clear HO HN
  generalize (openD (newD 4194304)).d = d1 at *
  go_wp2_with fail
  go_loopw [9, 11, 12, 13] (fun o nv hv i wr => ∃ (k : Nat) (R : List (List UInt8)) (s : StO) (d : Dk) (T : Nat → Prop) (ob lb : Nat) (na : Option Addr) (nc : Nat), k ≤ adds.length ∧ k ≤ 30 ∧ i = .int .i64 k ∧ o = .pointer (some ⟨ob, 0, none⟩) ∧ nv = .slice na s.ops.length nc ∧ OlIn w wr db ob lb T d ⟨s, logOf R, false⟩ ∧ Hid (StL 4194304 d R ∧ replaysS noSt (R.map mkB) = some s ∧ GoodO s.ops) ∧ OpsJ w wr T ob lb na nc s.ops ∧ RowJ strLay 9 w wr T ob lb hv s.pcs) (fun _ _ _ i _ => adds.length - (RowKit.intOf i).toNat)
  case atStart => exact ⟨0, [], noSt, d1, T1, ob, lb, none, 0, Nat.zero_le _, by omega, rfl, rfl, rfl, hIn, HS0, OpsJ.nil _ _ _ _ _, RowJ.nil _ _ _ _ _ _ _⟩
  case round =>
    as_aux_lemma =>
      clear hIn HS0
      obtain ⟨k, R, s, d, T, ob, lb, na, nc, hk, hk30, rfl, rfl, rfl, hIn, HS, hNow, hHave⟩ := hrel
      obtain ⟨hva, hvc, rfl, z1, z2⟩ := hHave.row.read
      clear z1 z2
      by_cases hlt : k < adds.length ∧ k < 30
      rotate_left
      · as_aux_lemma =>
          have HB := Lib.hid hIn.lin.below
          rcases Nat.lt_or_ge k adds.length with hkp | hkp
          · have h1i : (k : Int) < (adds.length : Int) := by omega
            have h2i : ¬ ((k : Int) < 30) := by omega
            have h2d : decide ((k : Int) < 30) = false := decide_eq_false h2i
            clear hIn hNow hHave hlt
            go_wp2_with fail
            refine (HAw.out _ HB.out).mono ?_
            rintro e wz ⟨rfl, hbz⟩
            go_wp2_with fail
            go_ret
            exact ⟨rfl, (HB.out).trans (hbz.mono (HB.out).size)⟩
          
          · have h1i : ¬ ((k : Int) < (adds.length : Int)) := by omega
            have h1d : decide ((k : Int) < (adds.length : Int)) = false := decide_eq_false h1i
            clear hIn hNow hHave hlt
            go_wp2_with fail
            refine (HAw.out _ HB.out).mono ?_
            rintro e wz ⟨rfl, hbz⟩
            go_wp2_with fail
            go_ret
            exact ⟨rfl, (HB.out).trans (hbz.mono (HB.out).size)⟩
          
      obtain ⟨h1, h2⟩ := hlt
      have h1i : (k : Int) < (adds.length : Int) := by omega
      have h2i : (k : Int) < 30 := by omega
      obtain ⟨x, hx⟩ := at_some h1
      obtain ⟨b0, o0, hae, hbl0, c0, c1, c2, c3, c4, c5, c6⟩ := addv_at (HPu.out.keeps hIn.lin.below) hx
      subst hae
      obtain ⟨x1, x2, x3⟩ := HPx.out x (List.mem_of_getElem? hx)
      obtain ⟨pa, pc, ps, xa, xc, xs, arm, crash, kp, torn, raw⟩ := x
      dsimp only at c0 c1 c2 c3 c4 c5 c6 x1 x2 x3
      have HX1 := Lib.hid x1
      have HX2 := Lib.hid x2
      have HX3 := Lib.hid x3
      have hbw : Below wr.heap.size wr (wr.alloc (.cells #[.slice pa ps.length pc, .slice xa xs.length xc, .int .i64 arm, .bool crash, .int .i64 kp, .bool torn, .string raw] 73)) := (Below.refl _ _).alloc (Nat.le_refl _) _
      have hV := VarAt.new wr #[.slice pa ps.length pc, .slice xa xs.length xc, .int .i64 arm, .bool crash, .int .i64 kp, .bool torn, .string raw] 73
      have HF := Lib.hid (ofew_any pa pc ps xa xc xs (wr.alloc (.cells #[.slice pa ps.length pc, .slice xa xs.length xc, .int .i64 arm, .bool crash, .int .i64 kp, .bool torn, .string raw] 73)) ((x1.keeps hIn.lin.below).keeps hbw) ((x3.keeps hIn.lin.below).keeps hbw))
      have hf0 := hV.2.2 0 _ rfl
      have hf1 := hV.2.2 1 _ rfl
      have HI3 := Lib.hid (hIn.keeps hbw)
      have HNow := Lib.hid (hNow.below hbw)
      have HHave := Lib.hid (hHave.below hbw)
      have hw0 := hIn.lin.below.size
      have HV := Lib.hid (show VarJ w (wr.alloc (.cells #[.slice pa ps.length pc, .slice xa xs.length xc, .int .i64 arm, .bool crash, .int .i64 kp, .bool torn, .string raw] 73)) T ob lb wr.heap.size [.slice pa ps.length pc, .slice xa xs.length xc, .int .i64 arm, .bool crash, .int .i64 kp, .bool torn, .string raw] from ⟨hV, hw0, fun h => (by have := hIn.lin.disk.slt _ h; omega), (by have := hIn.lin.log.1; omega), (by have := hIn.obLt; omega)⟩)
      obtain ⟨bx, hbx⟩ : ∃ bx, wr.heap.size = bx := ⟨_, rfl⟩
      clear hx x1 x2 x3 hbl0 hV hIn hNow hHave hbw hw0
      cases hfw : fewA ps xs with
      | false =>
        as_aux_lemma =>
          rw [hfw] at HF
          clear hfw hbx
          have HB := Lib.hid HI3.out.lin.below
          go_wp2_with fail
          refine HF.out.mono ?_
          rintro e w3 ⟨rfl, hw3⟩
          rw [hw3]
          clear hw3
          go_wp2_with fail
          refine (HAw.out _ HB.out).mono ?_
          rintro e wz ⟨rfl, hbz⟩
          go_wp2_with fail
          go_ret
          exact ⟨rfl, (HB.out).trans (hbz.mono (HB.out).size)⟩
      | true =>
        as_aux_lemma =>
          rw [hfw] at HF
          have hfq := of_decide_eq_true hfw
          have hxl := hfq.1
          have hpl := hfq.2.1
          have Hxz := Lib.hid hfq.2.2.1
          have Hpz := Lib.hid hfq.2.2.2
          clear hfw hfq
          go_wp2_with fail
          refine HF.out.mono ?_
          rintro e w3 ⟨rfl, hw3⟩
          rw [← hw3] at HI3 HNow HHave HV hf0 hf1
          rw [hbx] at HV hf0 hf1
          clear hw3 HF hbx c0 c1 c2 c3 c4 c5 c6
          go_upto_if 89 with fail
          go_cut [15] from 89 to 89 (fun c wx => ∃ n, c = .int .i64 n ∧ wx = w3)
          case first =>
            as_aux_lemma =>
              by_cases h0 : 0 < cuts.length
              · have h0i : (0 : Int) < (cuts.length : Int) := by omega
                have hmod := Nat.mod_lt k h0
                obtain ⟨y, hy⟩ := at_some hmod
                obtain ⟨by_, oy, hae, hbl, cy⟩ := num_at (HCu.out.keeps HI3.out.lin.below) hy
                subst hae
                have hmi : ((k % cuts.length : Nat) : Int) = (k : Int) % (cuts.length : Int) := Int.natCast_emod ..
                clear hy hbl
                go_wp2_with fail
                go_meet
                case rel => exact ⟨_, rfl, rfl⟩
              · have h0n : cuts.length = 0 := by omega
                have h0i : ¬ ((0 : Int) < (cuts.length : Int)) := by omega
                clear h0n
                go_wp2_with fail
                go_meet
                case rel => exact ⟨_, rfl, rfl⟩
          case rest =>
            as_aux_lemma =>
              obtain ⟨cut, hcc, hwc⟩ := hcut
              subst hcc
              rw [hwc]
              clear hwc
              go_upto_if 99 with fail
              go_cut [16] from 99 to 99 (fun c wx => ∃ n, c = .int .i64 n ∧ wx = w3)
              case first =>
                as_aux_lemma =>
                  by_cases h0 : 0 < keeps.length
                  · have h0i : (0 : Int) < (keeps.length : Int) := by omega
                    have hmod := Nat.mod_lt k h0
                    obtain ⟨y, hy⟩ := at_some hmod
                    obtain ⟨by_, oy, hae, hbl, cy⟩ := num_at (HKe.out.keeps HI3.out.lin.below) hy
                    subst hae
                    have hmi : ((k % keeps.length : Nat) : Int) = (k : Int) % (keeps.length : Int) := Int.natCast_emod ..
                    clear hy hbl
                    go_wp2_with fail
                    go_meet
                    case rel => exact ⟨_, rfl, rfl⟩
                  · have h0n : keeps.length = 0 := by omega
                    have h0i : ¬ ((0 : Int) < (keeps.length : Int)) := by omega
                    clear h0n
                    go_wp2_with fail
                    go_meet
                    case rel => exact ⟨_, rfl, rfl⟩
              case rest =>
                as_aux_lemma =>
                  obtain ⟨keep, hcc, hwc⟩ := hcut
                  subst hcc
                  rw [hwc]
                  clear hwc
                  have hsl := known_len HS.out.1 HS.out.2.1
                  go_upto_block 2 with fail
                  go_cut [17, 18] from 385 to 385 (fun v r wx => ∃ a2 c2, v = .slice a2 (allO s.ops xs).1.length c2 ∧ r = .bool (allO s.ops xs).2 ∧ OpsJ w wx T ob lb a2 c2 (allO s.ops xs).1 ∧ Below w3.heap.size w3 wx)
                  case first =>
                    as_aux_lemma =>
                      go_wp2_with fail
                      go_loopw [17, 18, 19] (fun v r i wx => ∃ (q : Nat) (l : List Opr) (a2 : Option Addr) (c2 : Nat), q ≤ xs.length ∧ i = .int .i64 q ∧ v = .slice a2 l.length c2 ∧ r = .bool true ∧ OpsJ w wx T ob lb a2 c2 l ∧ Hid (allO s.ops xs = allO l (xs.drop q)) ∧ l.length ≤ s.ops.length + q ∧ Below w3.heap.size w3 wx) (fun _ _ i _ => xs.length - (RowKit.intOf i).toNat)
                      case atStart => exact ⟨0, s.ops, na, nc, Nat.zero_le _, rfl, rfl, rfl, HNow.out, Lib.hid rfl, Nat.le_refl _, Below.refl _ _⟩
                      case round =>
                        as_aux_lemma =>
                          obtain ⟨q, l, a2, c2, hq, rfl, rfl, rfl, hOp, HC, hll, hbq⟩ := hrel
                          have hVq := (HV.out.below hbq).var
                          have g1 := hVq.2.2 1 _ rfl
                          have HIq := Lib.hid (HI3.out.keeps hbq)
                          by_cases hql : q < xs.length
                          · obtain ⟨y, hy⟩ := at_some hql
                            obtain ⟨b1, o1, hae, hbl, c0, c1, c2', c3, c4, c5, c6, c7, c8, c9, c10⟩ := opr_at (HX3.out.keeps HIq.out.lin.below) hy
                            subst hae
                            have hqi : (q : Int) < (xs.length : Int) := by omega
                            have hyz := Hxz.out y (List.mem_of_getElem? hy)
                            have HAd := Lib.hid (add_any2 a2 c2 l y wr (by omega) (by omega) (by omega) hOp.at_.nil hOp.at_.le hOp.at_.rows)
                            have hll2 := addO_len2 l y
                            rw [drop_at hy] at HC
                            have Hgo := Lib.hid fun h => HC.out.trans (allO_go (l := l) (x := y) (xs := xs.drop (q + 1)) h)
                            have Hno := Lib.hid fun h => HC.out.trans (allO_stop (l := l) (x := y) (xs := xs.drop (q + 1)) h)
                            have Hmem := Lib.hid fun h => (addO_mem (l := l) (x := y) (y := y) h).2 (.inr rfl)
                            have HOp := Lib.hid hOp
                            have Hbq := Lib.hid hbq
                            clear hy hbl hVq HC hOp hbq hyz
                            generalize addO l y = G at *
                            obtain ⟨l2, er⟩ := G
                            dsimp only at HAd hll2 Hgo Hno Hmem
                            by_cases he : er = 0
                            · subst he
                              have Hg := Lib.hid (Hgo.out rfl)
                              have Hm := Lib.hid (List.length_pos_of_mem (Hmem.out rfl))
                              clear Hgo Hno Hmem
                              go_wp2_with fail
                              refine HAd.out.mono ?_
                              rintro e w5 ⟨a3, c3, rfl, r1, r2, r3, hb5, r4⟩
                              have HOp5 := Lib.hid (OpsJ.added HIq.out HOp.out r1 r2 r3 Hm.out hb5 r4)
                              have Hb5 := Lib.hid (Hbq.out.trans (hb5.mono Hbq.out.size))
                              clear r1 r2 r3 r4 hb5
                              go_wp2_with fail
                              go_roundw
                              case rel => exact ⟨q + 1, l2, a3, c3, by omega, by go_num, rfl, rfl, HOp5.out, Hg, by omega, Hb5.out⟩
                              case measure => (show xs.length - (q + 1) < xs.length - q; omega)
                            · have hq3 : (er == 0) = false := beq_eq_false_iff_ne.2 he
                              have Hg := Lib.hid (Hno.out he)
                              clear Hgo Hno Hmem he
                              go_wp2_with fail
                              refine HAd.out.mono ?_
                              rintro e w5 ⟨a3, c3, rfl, r1, r2, r3, hb5, r4⟩
                              have HOp5 := Lib.hid (HOp.out.below hb5)
                              have Hb5 := Lib.hid (Hbq.out.trans (hb5.mono Hbq.out.size))
                              clear r1 r2 r3 r4 hb5
                              go_wp2_with fail
                              go_meet
                              case rel =>
                                rw [Hg.out]
                                exact ⟨a2, c2, rfl, rfl, HOp5.out, Hb5.out⟩
                          · obtain rfl : q = xs.length := by omega
                            rw [List.drop_length] at HC
                            have HOp := Lib.hid hOp
                            have Hbq := Lib.hid hbq
                            clear hVq hOp hbq
                            go_wp2_with fail
                            go_meet
                            case rel =>
                              rw [HC.out]
                              exact ⟨a2, c2, rfl, rfl, HOp.out, Hbq.out⟩
                  case rest =>
                    as_aux_lemma =>
                      obtain ⟨a2, c2, hcv, hcr, hAll, hbc⟩ := hcut
                      subst hcv hcr
                      have hal := allO_len xs s.ops
                      have HI4 := Lib.hid (HI3.out.keeps hbc)
                      have HV4 := Lib.hid (HV.out.below hbc)
                      have HNow4 := Lib.hid (HNow.out.below hbc)
                      have HHave4 := Lib.hid (HHave.out.below hbc)
                      have HAll4 := Lib.hid hAll
                      have HRo := Lib.hid fun torn => round_olog HS.out.1 HS.out.2.1 HS.out.2.2 ps xs Hxz.out cut keep torn
                      clear hAll hbc HI3 HV HNow HHave hf0 hf1
                      generalize hAO : allO s.ops xs = AO at *
                      have HAO := Lib.hid hAO
                      clear hAO
                      obtain ⟨l2, b2⟩ := AO
                      dsimp only at hal HAll4
                      have hf0 := HV4.out.var.2.2 0 _ rfl
                      have hf1 := HV4.out.var.2.2 1 _ rfl
                      obtain ⟨w4, hw4⟩ : ∃ w4 : World, w4 = wc := ⟨_, rfl⟩
                      rw [← hw4] at HI4 HV4 HNow4 HHave4 HAll4 hf0 hf1 ⊢
                      clear hw4
                      go_upto_block 4 with fail
                      go_cut [18] from 385 to 385 (fun r wx => r = .bool (b2 && ps.all rightP) ∧ wx = w4)
                      case first =>
                        as_aux_lemma =>
                          go_wp2_with fail
                          go_loopw [18, 22] (fun r i wx => ∃ q : Nat, q ≤ ps.length ∧ i = .int .i64 q ∧ r = .bool (b2 && (ps.take q).all rightP) ∧ wx = w4) (fun _ i _ => ps.length - (RowKit.intOf i).toNat)
                          case atStart => exact ⟨0, Nat.zero_le _, rfl, by simp, rfl⟩
                          case round =>
                            as_aux_lemma =>
                              obtain ⟨q, hq, rfl, rfl, rfl⟩ := hrel
                              by_cases hql : q < ps.length
                              · obtain ⟨s1, hs⟩ := at_some hql
                                obtain ⟨b1, o1, hae, hbl, c1⟩ := str_at (HX1.out.keeps HI4.out.lin.below) hs
                                subst hae
                                have hqi : (q : Int) < (ps.length : Int) := by omega
                                have Hsn := Lib.hid (right_put hs)
                                have Hrs := Lib.hid (show rightP s1 = (decide (1 ≤ s1.size) && decide (s1.size ≤ 256)) from rfl)
                                have hsz := Hpz.out s1 (List.mem_of_getElem? hs)
                                clear hs hbl
                                obtain ⟨ra, hra⟩ : ∃ ra, (ps.take q).all rightP = ra := ⟨_, rfl⟩
                                rw [hra] at Hsn ⊢
                                clear hra
                                obtain ⟨rb, hrb⟩ : ∃ rb, (b2 && ra) = rb := ⟨_, rfl⟩
                                rw [hrb]
                                have Hrb := Lib.hid hrb
                                clear hrb
                                cases rb with
                                | false =>
                                  as_aux_lemma =>
                                    have Hn := Lib.hid (show (b2 && (ps.take (q + 1)).all rightP) = false by rw [Hsn.out, ← Bool.and_assoc, Hrb.out, Bool.false_and])
                                    go_wp2_with fail
                                    go_roundw
                                    case rel => exact ⟨q + 1, by omega, by go_num, by rw [Hn.out], (by first | rfl | trivial)⟩
                                    case measure => (show ps.length - (q + 1) < ps.length - q; omega)
                                | true =>
                                  as_aux_lemma =>
                                    by_cases g1 : 1 ≤ s1.size
                                    · have g1i : (1 : Int) ≤ (s1.size : Int) := by omega
                                      have g1d : decide ((1 : Int) ≤ (s1.size : Int)) = true := decide_eq_true g1i
                                      by_cases g2 : s1.size ≤ 256
                                      · have g2i : (s1.size : Int) ≤ 256 := by omega
                                        have g2d : decide ((s1.size : Int) ≤ 256) = true := decide_eq_true g2i
                                        have Hn := Lib.hid (show (b2 && (ps.take (q + 1)).all rightP) = true by rw [Hsn.out, ← Bool.and_assoc, Hrb.out, Hrs.out, decide_eq_true g1, decide_eq_true g2]; rfl)
                                        clear g1 g2
                                        go_wp2_with fail
                                        go_roundw
                                        case rel => exact ⟨q + 1, by omega, by go_num, by rw [Hn.out], (by first | rfl | trivial)⟩
                                        case measure => (show ps.length - (q + 1) < ps.length - q; omega)
                                      · have g2i : ¬ ((s1.size : Int) ≤ 256) := by omega
                                        have g2d : decide ((s1.size : Int) ≤ 256) = false := decide_eq_false g2i
                                        have g3d : decide (s1.size ≤ 256) = false := decide_eq_false g2
                                        have Hn := Lib.hid (show (b2 && (ps.take (q + 1)).all rightP) = false by rw [Hsn.out, ← Bool.and_assoc, Hrb.out, Hrs.out, decide_eq_true g1, decide_eq_false g2]; rfl)
                                        clear g1 g2
                                        go_wp2_with fail
                                        go_roundw
                                        case rel => exact ⟨q + 1, by omega, by go_num, by rw [Hn.out], (by first | rfl | trivial)⟩
                                        case measure => (show ps.length - (q + 1) < ps.length - q; omega)
                                    · have g1i : ¬ ((1 : Int) ≤ (s1.size : Int)) := by omega
                                      have g1d : decide ((1 : Int) ≤ (s1.size : Int)) = false := decide_eq_false g1i
                                      have g3d : decide (1 ≤ s1.size) = false := decide_eq_false g1
                                      have Hn := Lib.hid (show (b2 && (ps.take (q + 1)).all rightP) = false by rw [Hsn.out, ← Bool.and_assoc, Hrb.out, Hrs.out, decide_eq_false g1]; rfl)
                                      clear g1
                                      go_wp2_with fail
                                      go_roundw
                                      case rel => exact ⟨q + 1, by omega, by go_num, by rw [Hn.out], (by first | rfl | trivial)⟩
                                      case measure => (show ps.length - (q + 1) < ps.length - q; omega)
                              · obtain rfl : q = ps.length := by omega
                                rw [List.take_length]
                                go_wp2_with fail
                                go_meet
                                case rel => exact ⟨rfl, rfl⟩
                      case rest =>
                        as_aux_lemma =>
                          obtain ⟨hcc, hwc⟩ := hcut
                          subst hcc
                          rw [hwc]
                          clear hwc
                          obtain ⟨rgt, hrgt⟩ : ∃ rgt, (ps.all rightP && b2) = rgt := ⟨_, rfl⟩
                          rw [show (b2 && ps.all rightP) = rgt by rw [Bool.and_comm]; exact hrgt]
                          have Hrgt := Lib.hid (show (ps.all rightP && (allO s.ops xs).2) = rgt by rw [HAO.out]; exact hrgt)
                          clear hrgt
                          go_wp2_with fail
                          refine (darm_any HI4.out.lin.disk cut).mono ?_
                          rintro e w5 ⟨rfl, hg5⟩
                          obtain ⟨T5, hI5, hs5⟩ := HI4.out.go hg5
                          have HV5 := Lib.hid (HV4.out.step hs5)
                          have HNow5 := Lib.hid (HNow4.out.step hs5)
                          have HHave5 := Lib.hid (HHave4.out.step hs5)
                          have HAll5 := Lib.hid (HAll4.out.step hs5)
                          have HA := Lib.hid (oadd_any hI5 pa pc ps xa xc xs (HX1.out.keeps hI5.lin.below) (HX3.out.keeps hI5.lin.below) (by show s.ops.length + xs.length ≤ 10000; omega) (by show s.pcs.length + ps.length ≤ 100000; omega) (fun p hp => by have := Hpz.out p hp; omega) (fun x hx => by have := Hxz.out x hx; omega) (by show R.length ≤ _; have := HS.out.1.clean.len; omega) (Nat.le_trans (HS.out.1.bnd.arm cut).now (by decide)) (Nat.le_trans (HS.out.1.bnd.arm cut).acts (by decide)))
                          have HBd := Lib.hid ((HS.out.1.bnd.arm cut).adds ⟨s, logOf R, false⟩ ps xs)
                          have hf0 := HV5.out.var.2.2 0 _ rfl
                          have hf1 := HV5.out.var.2.2 1 _ rfl
                          clear hg5 hI5 hs5 HI4 HV4 HNow4 HHave4 HAll4
                          generalize addS ⟨s, logOf R, false⟩ ps xs (armD d cut) = A at *
                          obtain ⟨oA, dA, er⟩ := A
                          dsimp only at HRo HBd HA
                          go_wp2_with fail
                          refine HA.out.mono ?_
                          rintro e w6 ⟨rfl, T6, hI6, hs6⟩
                          have HI6 := Lib.hid hI6
                          have HV6 := Lib.hid (HV5.out.step hs6)
                          have HNow6 := Lib.hid (HNow5.out.step hs6)
                          have HHave6 := Lib.hid (HHave5.out.step hs6)
                          have HAll6 := Lib.hid (HAll5.out.step hs6)
                          have hw1 : rgt = false → er ≠ 0 := fun h => (HRo.out false).elim fun Q hq => hq.elim fun sk hq => hq.wrong (Hrgt.out.trans h)
                          have hw2 : rgt = true → er = 0 ∨ (er = 42 ∧ 0 < cut) ∨ er = 40 := fun h => (HRo.out false).elim fun Q hq => hq.elim fun sk hq => hq.fine (Hrgt.out.trans h)
                          have Hw1 := Lib.hid hw1
                          have Hw2 := Lib.hid hw2
                          have hf2 := HV6.out.var.2.2 0 _ rfl
                          clear hf0 hf1 hw1 hw2 hI6 hs6 HV5 HNow5 HHave5 HAll5 HA
                          go_upto_region 36 with fail
                          go_cut [187] from 385 to 385 (fun c wx => c = .bool false ∧ wx = w6)
                          case first =>
                            as_aux_lemma =>
                              cases rgt with
                              | false =>
                                as_aux_lemma =>
                                  have hq := beq_eq_false_iff_ne.2 (Hw1.out rfl)
                                  go_wp2_with fail
                                  go_meet
                                  case rel => exact ⟨rfl, (by first | rfl | trivial)⟩
                              | true =>
                                as_aux_lemma =>
                                  rcases Hw2.out rfl with rfl | ⟨rfl, hcut0⟩ | rfl
                                  · go_wp2_with fail
                                    go_meet
                                    case rel => exact ⟨rfl, (by first | rfl | trivial)⟩
                                  · have hc1 : ¬ (cut < 1) := by omega
                                    have hc2 : decide (cut < 1) = false := decide_eq_false hc1
                                    go_wp2_with fail
                                    go_meet
                                    case rel => exact ⟨rfl, (by first | rfl | trivial)⟩
                                  · go_wp2_with fail
                                    go_meet
                                    case rel => exact ⟨rfl, (by first | rfl | trivial)⟩
                          case rest =>
                            as_aux_lemma =>
                              obtain ⟨hcc, hwc⟩ := hcut
                              subst hcc
                              rw [hwc]
                              clear hwc
                              go_upto_region 38 with fail
                              go_cut [193] from 385 to 385 (fun c wx => c = .bool (!(rgt && (er != 40))) ∧ wx = w6)
                              case first =>
                                as_aux_lemma =>
                                  cases rgt with
                                  | false =>
                                    as_aux_lemma =>
                                      go_wp2_with fail
                                      go_meet
                                      case rel => exact ⟨rfl, (by first | rfl | trivial)⟩
                                  | true =>
                                    as_aux_lemma =>
                                      by_cases h40 : er = 40
                                      · subst h40
                                        go_wp2_with fail
                                        go_meet
                                        case rel => exact ⟨rfl, (by first | rfl | trivial)⟩
                                      · have hq := beq_eq_false_iff_ne.2 h40
                                        have hq2 := neq_int h40
                                        clear h40
                                        go_wp2_with fail
                                        go_meet
                                        case rel => exact ⟨by rw [hq2]; rfl, (by first | rfl | trivial)⟩
                              case rest =>
                                as_aux_lemma =>
                                  obtain ⟨hcc, hwc⟩ := hcut
                                  subst hcc
                                  rw [hwc]
                                  clear hwc
                                  obtain ⟨bb, hbb⟩ : ∃ bb, (rgt && (er != 40)) = bb := ⟨_, rfl⟩
                                  rw [hbb]
                                  have Hbb := Lib.hid hbb
                                  obtain ⟨AL, hAL⟩ : ∃ AL, (if (ps.all rightP && (allO s.ops xs).2) = true ∧ er ≠ 40 then (allO s.ops xs).1 else s.ops) = AL := ⟨_, rfl⟩
                                  obtain ⟨PL, hPL⟩ : ∃ PL, (if (ps.all rightP && (allO s.ops xs).2) = true ∧ er ≠ 40 then s.pcs ++ ps else s.pcs) = PL := ⟨_, rfl⟩
                                  have hiff : (rgt = true ∧ er ≠ 40) ↔ bb = true := by
                                    rw [← hbb]
                                    simp only [Bool.and_eq_true, bne_iff_ne]
                                  have HALe := Lib.hid hAL
                                  have HPLe := Lib.hid hPL
                                  rw [Hrgt.out, HAO.out] at hAL
                                  rw [Hrgt.out] at hPL
                                  have HAL := Lib.hid (show (bb = true → AL = l2) ∧ (bb = false → AL = s.ops) from ⟨fun h => (by rw [← hAL, if_pos (hiff.2 h)]), fun h => (by rw [← hAL, if_neg (fun hh => by rw [hiff.1 hh] at h; cases h)])⟩)
                                  have HPL := Lib.hid (show (bb = true → PL = s.pcs ++ ps) ∧ (bb = false → PL = s.pcs) from ⟨fun h => (by rw [← hPL, if_pos (hiff.2 h)]), fun h => (by rw [← hPL, if_neg (fun hh => by rw [hiff.1 hh] at h; cases h)])⟩)
                                  have hALl : AL.length ≤ 900 := by
                                    cases hb : bb with
                                    | true => rw [HAL.out.1 hb]; omega
                                    | false => rw [HAL.out.2 hb]; omega
                                  have hPLl : PL.length ≤ 900 := by
                                    cases hb : bb with
                                    | true => rw [HPL.out.1 hb, List.length_append]; omega
                                    | false => rw [HPL.out.2 hb]; omega
                                  clear hbb hAL hPL hiff
                                  go_upto_if 193 with fail
                                  go_cut [17] from 193 to 193 (fun v wx => ∃ a3 c3, v = .slice a3 AL.length c3 ∧ OpsJ w w6 T6 ob lb a3 c3 AL ∧ wx = w6)
                                  case first =>
                                    as_aux_lemma =>
                                      cases bb with
                                      | false =>
                                        as_aux_lemma =>
                                          go_wp2_with fail
                                          go_meet
                                          case rel => exact ⟨_, _, by rw [HAL.out.2 (by first | rfl | trivial)], by rw [HAL.out.2 (by first | rfl | trivial)]; exact HNow6.out, (by first | rfl | trivial)⟩
                                      | true =>
                                        as_aux_lemma =>
                                          go_wp2_with fail
                                          go_meet
                                          case rel => exact ⟨_, _, by rw [HAL.out.1 (by first | rfl | trivial)], by rw [HAL.out.1 (by first | rfl | trivial)]; exact HAll6.out, (by first | rfl | trivial)⟩
                                  case rest =>
                                    as_aux_lemma =>
                                      obtain ⟨a3, c3, hcv, hAl, hwc⟩ := hcut
                                      subst hcv
                                      rw [hwc]
                                      clear hwc HAll6
                                      have HAl6 := Lib.hid hAl
                                      clear hAl
                                      go_upto_region 41 with fail
                                      go_cut [200] from 385 to 385 (fun c wx => c = .bool bb ∧ wx = w6)
                                      case first =>
                                        as_aux_lemma =>
                                          cases rgt with
                                          | false =>
                                            as_aux_lemma =>
                                              have Hb := Lib.hid (show bb = false from Hbb.out.symm)
                                              go_wp2_with fail
                                              go_meet
                                              case rel => exact ⟨by rw [Hb.out], (by first | rfl | trivial)⟩
                                          | true =>
                                            as_aux_lemma =>
                                              by_cases h40 : er = 40
                                              · subst h40
                                                have Hb := Lib.hid (show bb = false from Hbb.out.symm)
                                                go_wp2_with fail
                                                go_meet
                                                case rel => exact ⟨by rw [Hb.out], (by first | rfl | trivial)⟩
                                              · have hq2 := neq_int h40
                                                have Hb := Lib.hid (show bb = true by rw [← Hbb.out, hq2]; rfl)
                                                clear h40
                                                go_wp2_with fail
                                                go_meet
                                                case rel => exact ⟨by rw [Hb.out], (by first | rfl | trivial)⟩
                                      case rest =>
                                        as_aux_lemma =>
                                          obtain ⟨hcc, hwc⟩ := hcut
                                          subst hcc
                                          rw [hwc]
                                          clear hwc
                                          go_upto_if 200 with fail
                                          go_cut [24] from 200 to 200 (fun v wx => RowJ strLay 9 w wx T6 ob lb v PL ∧ Below w6.heap.size w6 wx)
                                          case first =>
                                            as_aux_lemma =>
                                              cases bb with
                                              | false =>
                                                as_aux_lemma =>
                                                  go_wp2_with fail
                                                  go_meet
                                                  case rel => exact ⟨by rw [HPL.out.2 (by first | rfl | trivial)]; exact HHave6.out, (by first | exact Below.refl _ _ | trivial)⟩
                                              | true =>
                                                as_aux_lemma =>
                                                  obtain ⟨i0, hi, hz0, hz1, hz2⟩ := info_three strInfoS
                                                  have Hi := Lib.hid hi
                                                  have Hz0 := Lib.hid hz0
                                                  have Hz1 := Lib.hid hz1
                                                  have Hz2 := Lib.hid hz2
                                                  clear hi hz0 hz1 hz2
                                                  have hal6 := (Below.refl w6.heap.size w6).alloc (Nat.le_refl _) (.cells #[] 9)
                                                  have HL6 := Lib.hid (OwnRows.lit w6 strLay w6.heap.size w6.heap.size 9 #[] 0 [] rfl (Nat.le_refl _) (Nat.zero_le _) rfl rfl)
                                                  obtain ⟨y1, y2, e2, r2, z1, n2, z2⟩ := HHave6.out.row.read_nil
                                                  cases e2
                                                  have HHr := Lib.hid fun W (hW : Below w6.heap.size w6 W) => r2.keeps hW
                                                  have HHn := Lib.hid n2
                                                  have HP6 := Lib.hid fun W (hW : Below w6.heap.size w6 W) => HX1.out.keeps (HI6.out.lin.below.trans (hW.mono HI6.out.lin.below.size))
                                                  have HKS := Lib.hid fun W (hW : Below w6.heap.size w6 W) => (⟨hW, (HV6.out.below hW).var.2.2 0 _ rfl⟩ : Below w6.heap.size w6 W ∧ W.cell? ⟨bx, 0, none⟩ = some (.slice pa ps.length pc))
                                                  have Hal6 := Lib.hid hal6
                                                  clear hal6 r2 n2 z1 z2
                                                  have tok1 : True := trivial
                                                  go_wp2_with fail
                                                  go_region_held3 (fun w' => Below w6.heap.size w6 w' ∧ w'.cell? ⟨bx, 0, none⟩ = some (.slice pa ps.length pc))
                                                    (first | exact HKS.out _ (Below.refl _ _).drew | exact HKS.out _ Hal6.out.drew | exact HKS.out _ hb7 | exact HKS.out _ (hb7.grown hg8 hb7.size (fun j ej => (hrow7.lt ej).1)))
                                                    (first
                                                      | (have _t := tok1; refine step_append_list _ (by rfl) _ _ 23 (by rfl) strLay w6.heap.size 9 i0 (.string ⟨#[]⟩) 16 Tryz.underlying23 Hi.out Hz0.out Hz1.out Hz2.out rfl (by decide) _ [] (by rfl) (HL6.out.drewN 1) hva hvc s.pcs.length s.pcs (by rfl) rfl (HHr.out _ Hal6.out.drew) HHn.out (by unfold maxLen; simp; omega) (by simp; omega) (by simp) ?_; intro va w7 hrow7 hg7 hv7; clear tok1; have hb7 := (Hal6.out.drew).grown hg7 (by simp) (fun j ej => by cases ej; exact Nat.le_refl _))
                                                      | (refine step_append_list _ (by rfl) _ _ 23 (by rfl) strLay w6.heap.size 9 i0 (.string ⟨#[]⟩) 16 Tryz.underlying23 Hi.out Hz0.out Hz1.out Hz2.out rfl (by decide) _ ([] ++ s.pcs) (by rfl) hrow7 pa pc ps.length ps (by rfl) rfl (HP6.out _ hb7) HX2.out (by rw [List.nil_append]; unfold maxLen; omega) (by rw [List.nil_append]; omega) hb7.size ?_; intro vb w8 hrow8 hg8 hv8))
                                                  have hb8 := hb7.grown hg8 hb7.size (fun j ej => (hrow7.lt ej).1)
                                                  have Hr8 := Lib.hid hrow8
                                                  have Hb8 := Lib.hid hb8
                                                  clear hrow8 hb8 hrow7 hg7 hg8 hv7 hv8 hb7
                                                  go_wp2_with fail
                                                  go_meet
                                                  case rel =>
                                                    refine ⟨?_, Hb8.out⟩
                                                    rw [HPL.out.1 (by first | rfl | trivial)]
                                                    exact RowJ.made HI6.out Hr8.out
                                          case rest =>
                                            as_aux_lemma =>
                                              obtain ⟨hPc, hbc⟩ := hcut
                                              obtain ⟨pva, pvc, hcv, z1, z2⟩ := hPc.row.read
                                              subst hcv
                                              have HPc7 := Lib.hid hPc
                                              have HNow7 := Lib.hid (HNow6.out.below hbc)
                                              have HHave7 := Lib.hid (HHave6.out.below hbc)
                                              have HAl7 := Lib.hid (HAl6.out.below hbc)
                                              have HI7 := Lib.hid (HI6.out.keeps hbc)
                                              clear hPc hbc z1 z2 HNow6 HHave6 HAl6 HI6 HV6 hf2
                                              obtain ⟨NW, hNW⟩ : ∃ NW, (if er = 0 then (allO s.ops xs).1 else s.ops) = NW := ⟨_, rfl⟩
                                              obtain ⟨HW, hHW⟩ : ∃ HW, (if er = 0 then s.pcs ++ ps else s.pcs) = HW := ⟨_, rfl⟩
                                              have HNWe := Lib.hid hNW
                                              have HHWe := Lib.hid hHW
                                              have hbt : er = 0 → bb = true := fun h => by
                                                have hr : rgt = true := by
                                                  cases hr : rgt with
                                                  | true => rfl
                                                  | false => exact absurd h (Hw1.out hr)
                                                rw [← Hbb.out, hr, h]
                                                rfl
                                              rw [HAO.out] at hNW
                                              have HN0 := Lib.hid (show er = 0 → NW = AL ∧ HW = PL from fun h => by
                                                rw [← hNW, ← hHW, if_pos h, if_pos h, HAL.out.1 (hbt h), HPL.out.1 (hbt h)]
                                                exact ⟨rfl, rfl⟩)
                                              have HN1 := Lib.hid (show er ≠ 0 → NW = s.ops ∧ HW = s.pcs from fun h => by
                                                rw [← hNW, ← hHW, if_neg h, if_neg h]
                                                exact ⟨rfl, rfl⟩)
                                              have hNWl : NW.length ≤ 900 := by
                                                rcases Decidable.em (er = 0) with h | h
                                                · rw [(HN0.out h).1]; exact hALl
                                                · rw [(HN1.out h).1]; omega
                                              have hHWl : HW.length ≤ 900 := by
                                                rcases Decidable.em (er = 0) with h | h
                                                · rw [(HN0.out h).2]; exact hPLl
                                                · rw [(HN1.out h).2]; omega
                                              clear hNW hHW hbt
                                              obtain ⟨w7, hw7⟩ : ∃ w7 : World, w7 = wc := ⟨_, rfl⟩
                                              rw [← hw7] at HPc7 HNow7 HHave7 HAl7 HI7 ⊢
                                              clear hw7
                                              go_upto_if 208 with fail
                                              go_cut [11, 12] from 208 to 208 (fun n h wx => ∃ a4 c4 a5 c5, n = .slice a4 NW.length c4 ∧ h = .slice a5 HW.length c5 ∧ OpsJ w w7 T6 ob lb a4 c4 NW ∧ RowJ strLay 9 w w7 T6 ob lb (.slice a5 HW.length c5) HW ∧ wx = w7)
                                              case first =>
                                                as_aux_lemma =>
                                                  by_cases he : er = 0
                                                  · have HH := Lib.hid (HN0.out he)
                                                    subst he
                                                    go_wp2_with fail
                                                    go_meet
                                                    case rel => exact ⟨_, _, _, _, by rw [HH.out.1], by rw [HH.out.2], by rw [HH.out.1]; exact HAl7.out, by rw [HH.out.2]; exact HPc7.out, (by first | rfl | trivial)⟩
                                                  · have HH := Lib.hid (HN1.out he)
                                                    have hq2 : (er == 0) = false := beq_eq_false_iff_ne.2 he
                                                    have hq3 := neq_int he
                                                    clear he
                                                    go_wp2_with fail
                                                    go_meet
                                                    case rel => exact ⟨_, _, _, _, by rw [HH.out.1], by rw [HH.out.2], by rw [HH.out.1]; exact HNow7.out, by rw [HH.out.2]; exact HHave7.out, (by first | rfl | trivial)⟩
                                              case rest =>
                                                as_aux_lemma =>
                                                  obtain ⟨a4, c4, a5, c5, hcv1, hcv2, hN, hH, hwc⟩ := hcut
                                                  subst hcv1 hcv2
                                                  rw [hwc]
                                                  have HN7 := Lib.hid hN
                                                  have HH7 := Lib.hid hH
                                                  clear hwc hN hH HNow7 HHave7 HN0 HN1
                                                  obtain ⟨t1, ht1⟩ : ∃ t1, (cut.tmod 2 == 0) = t1 := ⟨_, rfl⟩
                                                  have Ht1 := Lib.hid ht1
                                                  clear ht1
                                                  go_wp2_with fail
                                                  rw [Ht1.out]
                                                  refine (dcrash_any HI7.out.lin.disk keep t1 (by
                                                    have h1 := HBd.out.firm
                                                    have h2 := HBd.out.acts
                                                    omega)).mono ?_
                                                  rintro e w8 ⟨rfl, hg8⟩
                                                  obtain ⟨T8, hI8, hs8⟩ := HI7.out.go hg8
                                                  obtain ⟨Q, sk, hQ⟩ := HRo.out t1
                                                  have HQ := Lib.hid hQ
                                                  have HI8 := Lib.hid hI8
                                                  have HN8 := Lib.hid (HN7.out.step hs8)
                                                  have HH8 := Lib.hid (HH7.out.step hs8)
                                                  have HAl8 := Lib.hid (HAl7.out.step hs8)
                                                  have HPc8 := Lib.hid (HPc7.out.step hs8)
                                                  clear hQ hI8 hs8 hg8 HI7 HN7 HH7 HAl7 HPc7 HBd
                                                  have HNin := Lib.hid (show ∀ y ∈ NW, y ∈ sk.ops by rw [← HNWe.out]; exact HQ.out.now)
                                                  have HNot := Lib.hid (show ∀ y ∈ sk.ops, y ∈ AL by rw [← HALe.out]; exact HQ.out.within)
                                                  have HHin := Lib.hid (show ∀ y ∈ HW, y ∈ sk.pcs by rw [← HHWe.out]; exact HQ.out.have_)
                                                  have HHot := Lib.hid (show ∀ y ∈ sk.pcs, y ∈ PL by rw [← HPLe.out]; exact HQ.out.handed)
                                                  have HMid := Lib.hid HQ.out.mid
                                                  have HRep := Lib.hid HQ.out.rep
                                                  have HGood := Lib.hid HQ.out.good
                                                  have hkl := mid_len HMid.out HRep.out
                                                  clear HQ HRo HNWe HHWe HALe HPLe HAL HPL HAO Hrgt Hbb Hw1 Hw2
                                                  generalize crashD dA keep t1 = d8 at *
                                                  go_wp2_with fail
                                                  refine (oopen_known HI8.out.lin.disk HMid.out HRep.out HT.out HI8.out.lin.below HI8.out.lin.old).mono ?_
                                                  rintro e w9 ⟨T9, ob2, lb2, rfl, hI9, hT9, hTu9, hob2, hlb2⟩
                                                  obtain ⟨z1, hs9⟩ := HI8.out.moved hI9.lin.disk hT9 hTu9
                                                  have HI9 := Lib.hid hI9
                                                  have HN9 := Lib.hid ((HN8.out.step hs9).fresh (B := w8.heap.size) (fun ad e => (HN8.out.out ad e).1) hob2 hlb2)
                                                  have HAl9 := Lib.hid ((HAl8.out.step hs9).fresh (B := w8.heap.size) (fun ad e => (HAl8.out.out ad e).1) hob2 hlb2)
                                                  have HH9 := Lib.hid ((HH8.out.step hs9).fresh (B := w8.heap.size) (fun j e => (HH8.out.row.lt e).2) hob2 hlb2)
                                                  have HPc9 := Lib.hid ((HPc8.out.step hs9).fresh (B := w8.heap.size) (fun j e => (HPc8.out.row.lt e).2) hob2 hlb2)
                                                  have HSt9 := Lib.hid (open_ok HMid.out HRep.out).st
                                                  clear z1 hs9 hI9 hT9 hTu9 hob2 hlb2 HI8 HN8 HAl8 HH8 HPc8
                                                  generalize (openD d8).d = d9 at *
                                                  go_wp2_with fail
                                                  refine (oopen_known HI9.out.lin.disk HSt9.out.mid HRep.out HT.out HI9.out.lin.below HI9.out.lin.old).mono ?_
                                                  rintro e w10 ⟨T10, ob3, lb3, rfl, hIq, hT10, hTu10, hob3, hlb3⟩
                                                  obtain ⟨hI10, hs10⟩ := HI9.out.moved hIq.lin.disk hT10 hTu10
                                                  have HIq := Lib.hid hIq
                                                  have HI10 := Lib.hid hI10
                                                  have HN10 := Lib.hid (HN9.out.step hs10)
                                                  have HAl10 := Lib.hid (HAl9.out.step hs10)
                                                  have HH10 := Lib.hid (HH9.out.step hs10)
                                                  have HPc10 := Lib.hid (HPc9.out.step hs10)
                                                  have HSt10 := Lib.hid (open_ok HSt9.out.mid HRep.out).st
                                                  clear hIq hI10 hs10 hT10 hTu10 hob3 hlb3 HI9 HN9 HAl9 HH9 HPc9 HSt9 HMid
                                                  generalize (openD d9).d = d10 at *
                                                  go_upto_region 49 with fail
                                                  go_cut [248] from 248 to 248 (fun c wx => c = .bool false ∧ Below w10.heap.size w10 wx)
                                                  case first =>
                                                    as_aux_lemma =>
                                                      have HOp := Lib.hid (oops_any HI10.out (by show sk.ops.length ≤ _; omega))
                                                      have HOq := Lib.hid fun W (hW : Below w10.heap.size w10 W) => oops_any (HIq.out.keeps hW) (by show sk.ops.length ≤ _; omega)
                                                      have HPp := Lib.hid fun W (hW : Below w10.heap.size w10 W) => opieces_any (HI10.out.keeps hW) (by show sk.pcs.length ≤ _; omega)
                                                      have HPq := Lib.hid fun W (hW : Below w10.heap.size w10 W) => opieces_any (HIq.out.keeps hW) (by show sk.pcs.length ≤ _; omega)
                                                      dsimp only at HOp HOq HPp HPq
                                                      go_wp2_with fail
                                                      refine HOp.out.mono ?_
                                                      rintro e w11 ⟨v, rfl, hown, hb11⟩
                                                      obtain ⟨x1, y1, rfl, hr11, z1⟩ := hown.read
                                                      have Hr11 := Lib.hid hr11
                                                      have Hb11 := Lib.hid hb11
                                                      clear z1 hown hb11 hr11
                                                      go_wp2_with fail
                                                      refine (HOq.out w11 Hb11.out).mono ?_
                                                      rintro e w12 ⟨v, rfl, hown, hb12⟩
                                                      obtain ⟨x2, y2, rfl, hr12, z1⟩ := hown.read
                                                      have hS := oprs_any x1 x2 y1 y2 sk.ops sk.ops w12 (by omega) (Hr11.out.keeps hb12) hr12
                                                      rw [decide_eq_true rfl] at hS
                                                      have HS1 := Lib.hid hS
                                                      have Hb12 := Lib.hid (Hb11.out.trans (hb12.mono Hb11.out.size))
                                                      clear z1 hown hb12 hr12 hS Hr11 Hb11
                                                      go_wp2_with fail
                                                      refine HS1.out.mono ?_
                                                      rintro e w13 ⟨rfl, n13, hw13⟩
                                                      have Hb13 := Lib.hid (show Below w10.heap.size w10 w13 by rw [hw13]; exact belowDrew Hb12.out n13)
                                                      clear hw13 HS1 Hb12
                                                      go_wp2_with fail
                                                      refine (HPp.out w13 Hb13.out).mono ?_
                                                      rintro e w14 ⟨v, rfl, hown, hb14⟩
                                                      obtain ⟨x3, y3, rfl, hr14, z1⟩ := hown.read
                                                      have Hr14 := Lib.hid hr14
                                                      have Hb14 := Lib.hid (Hb13.out.trans (hb14.mono Hb13.out.size))
                                                      clear z1 hown hb14 hr14 Hb13
                                                      go_wp2_with fail
                                                      refine (HPq.out w14 Hb14.out).mono ?_
                                                      rintro e w15 ⟨v, rfl, hown, hb15⟩
                                                      obtain ⟨x4, y4, rfl, hr15, z1⟩ := hown.read
                                                      have hS := otexts_any x3 x4 y3 y4 sk.pcs sk.pcs w15 (by omega) (Hr14.out.keeps hb15) hr15
                                                      rw [decide_eq_true rfl] at hS
                                                      have HS1 := Lib.hid hS
                                                      have Hb15 := Lib.hid (Hb14.out.trans (hb15.mono Hb14.out.size))
                                                      clear z1 hown hb15 hr15 hS Hr14 Hb14
                                                      go_wp2_with fail
                                                      refine HS1.out.mono ?_
                                                      rintro e w16 ⟨rfl, n16, hw16⟩
                                                      have Hb16 := Lib.hid (show Below w10.heap.size w10 w16 by rw [hw16]; exact belowDrew Hb15.out n16)
                                                      clear hw16 HS1 Hb15
                                                      go_wp2_with fail
                                                      go_meet
                                                      case rel => exact ⟨rfl, Hb16.out⟩
                                                  case rest =>
                                                    as_aux_lemma =>
                                                      obtain ⟨hcc, hbc⟩ := hcut
                                                      subst hcc
                                                      have HI11 := Lib.hid (HI10.out.keeps hbc)
                                                      have HN11 := Lib.hid (HN10.out.below hbc)
                                                      have HAl11 := Lib.hid (HAl10.out.below hbc)
                                                      have HH11 := Lib.hid (HH10.out.below hbc)
                                                      have HPc11 := Lib.hid (HPc10.out.below hbc)
                                                      clear hbc HI10 HN10 HAl10 HH10 HPc10 HIq
                                                      have HOp := Lib.hid (oops_any HI11.out (by show sk.ops.length ≤ _; omega))
                                                      dsimp only at HOp
                                                      obtain ⟨w11, hw11⟩ : ∃ w11 : World, w11 = wc := ⟨_, rfl⟩
                                                      rw [← hw11] at HI11 HN11 HAl11 HH11 HPc11 HOp ⊢
                                                      clear hw11
                                                      go_wp2_with fail
                                                      refine HOp.out.mono ?_
                                                      rintro e w12 ⟨v, rfl, hown, hb12⟩
                                                      obtain ⟨la, lc, rfl, z0, z1⟩ := hown.read
                                                      have HL := Lib.hid (OpsJ.made HI11.out hown)
                                                      have HI := Lib.hid (HI11.out.keeps hb12)
                                                      have HN := Lib.hid (HN11.out.below hb12)
                                                      have HAl := Lib.hid (HAl11.out.below hb12)
                                                      have HH := Lib.hid (HH11.out.below hb12)
                                                      have HPc := Lib.hid (HPc11.out.below hb12)
                                                      clear z0 z1 hown hb12 HI11 HN11 HAl11 HH11 HPc11 HOp
                                                      have HBS := Lib.hid (Below.refl w12.heap.size w12)
                                                      go_upto_block 6 with fail
                                                      go_cut [] from 385 to 385 (fun wx => Below w12.heap.size w12 wx)
                                                      case first =>
                                                        as_aux_lemma =>
                                                          have hbs : Below w12.heap.size w12 w12 := HBS.out
                                                          go_wp2_with fail
                                                          go_loopw [30] (fun i wx => ∃ q : Nat, q ≤ NW.length ∧ i = .int .i64 q ∧ Below w12.heap.size w12 wx) (fun i _ => NW.length - (RowKit.intOf i).toNat)
                                                          case atStart => exact ⟨0, Nat.zero_le _, rfl, hbs⟩
                                                          case round =>
                                                            as_aux_lemma =>
                                                              obtain ⟨q, hq, rfl, hbq⟩ := hrel
                                                              by_cases hql : q < NW.length
                                                              · obtain ⟨y, hy⟩ := at_some hql
                                                                obtain ⟨b1, o1, hae, hbl, f0, f1, f2, f3, f4, f5, f6, f7, f8, f9, f10⟩ := opr_at (HN.out.below hbq).at_.rows hy
                                                                subst hae
                                                                have hqi : (q : Int) < (NW.length : Int) := by omega
                                                                have hh := ohas_any la lc sk.ops y wr (by omega) (HL.out.below hbq).at_.rows
                                                                rw [show inO sk.ops y = true from decide_eq_true (HNin.out y (List.mem_of_getElem? hy))] at hh
                                                                have HHas := Lib.hid hh
                                                                have Hbq := Lib.hid hbq
                                                                clear hh hy hbl hbq hbs
                                                                go_wp2_with fail
                                                                refine HHas.out.mono ?_
                                                                rintro e w5 ⟨rfl, hb5⟩
                                                                have Hb5 := Lib.hid (Hbq.out.trans (hb5.mono Hbq.out.size))
                                                                clear hb5
                                                                go_wp2_with fail
                                                                go_roundw
                                                                case rel => exact ⟨q + 1, by omega, by go_num, Hb5.out⟩
                                                                case measure => (show NW.length - (q + 1) < NW.length - q; omega)
                                                              · obtain rfl : q = NW.length := by omega
                                                                have Hbq := Lib.hid hbq
                                                                clear hbq hbs
                                                                go_wp2_with fail
                                                                go_meet
                                                                case rel => exact Hbq.out
                                                      case rest =>
                                                        as_aux_lemma =>
                                                          have HBS2 := Lib.hid hcut
                                                          clear hcut HBS
                                                          obtain ⟨w13, hw13⟩ : ∃ w13 : World, w13 = wc := ⟨_, rfl⟩
                                                          rw [← hw13] at HBS2 ⊢
                                                          clear hw13
                                                          have HBS := Lib.hid HBS2.out
                                                          clear HBS2
                                                          go_upto_block 8 with fail
                                                          go_cut [] from 385 to 385 (fun wx => Below w12.heap.size w12 wx)
                                                          case first =>
                                                            as_aux_lemma =>
                                                              have hbs : Below w12.heap.size w12 w13 := HBS.out
                                                              go_wp2_with fail
                                                              go_loopw [31] (fun i wx => ∃ q : Nat, q ≤ sk.ops.length ∧ i = .int .i64 q ∧ Below w12.heap.size w12 wx) (fun i _ => sk.ops.length - (RowKit.intOf i).toNat)
                                                              case atStart => exact ⟨0, Nat.zero_le _, rfl, hbs⟩
                                                              case round =>
                                                                as_aux_lemma =>
                                                                  obtain ⟨q, hq, rfl, hbq⟩ := hrel
                                                                  by_cases hql : q < sk.ops.length
                                                                  · obtain ⟨y, hy⟩ := at_some hql
                                                                    obtain ⟨b1, o1, hae, hbl, f0, f1, f2, f3, f4, f5, f6, f7, f8, f9, f10⟩ := opr_at (HL.out.below hbq).at_.rows hy
                                                                    subst hae
                                                                    have hqi : (q : Int) < (sk.ops.length : Int) := by omega
                                                                    have hh := ohas_any a3 c3 AL y wr (by omega) (HAl.out.below hbq).at_.rows
                                                                    rw [show inO AL y = true from decide_eq_true (HNot.out y (List.mem_of_getElem? hy))] at hh
                                                                    have HHas := Lib.hid hh
                                                                    have Hbq := Lib.hid hbq
                                                                    clear hh hy hbl hbq hbs
                                                                    go_wp2_with fail
                                                                    refine HHas.out.mono ?_
                                                                    rintro e w5 ⟨rfl, hb5⟩
                                                                    have Hb5 := Lib.hid (Hbq.out.trans (hb5.mono Hbq.out.size))
                                                                    clear hb5
                                                                    go_wp2_with fail
                                                                    go_roundw
                                                                    case rel => exact ⟨q + 1, by omega, by go_num, Hb5.out⟩
                                                                    case measure => (show sk.ops.length - (q + 1) < sk.ops.length - q; omega)
                                                                  · obtain rfl : q = sk.ops.length := by omega
                                                                    have Hbq := Lib.hid hbq
                                                                    clear hbq hbs
                                                                    go_wp2_with fail
                                                                    go_meet
                                                                    case rel => exact Hbq.out
                                                          case rest =>
                                                            as_aux_lemma =>
                                                              have HBS2 := Lib.hid hcut
                                                              clear hcut HBS
                                                              obtain ⟨w14, hw14⟩ : ∃ w14 : World, w14 = wc := ⟨_, rfl⟩
                                                              rw [← hw14] at HBS2 ⊢
                                                              clear hw14
                                                              have hal14 := (Below.refl w14.heap.size w14).alloc (Nat.le_refl _) (.map #[] 0)
                                                              have HB14 := Lib.hid (HBS2.out.trans (hal14.mono HBS2.out.size))
                                                              have HPp := Lib.hid (opieces_any (HI.out.keeps HB14.out) (by show sk.pcs.length ≤ _; omega))
                                                              dsimp only at HPp
                                                              have HM0 := Lib.hid (MapOf.made (inj := Value.string) w14)
                                                              obtain ⟨bm, hbm⟩ : ∃ bm, w14.heap.size = bm := ⟨_, rfl⟩
                                                              rw [hbm] at HM0
                                                              have Hbm := Lib.hid hbm
                                                              have Hsz14 := Lib.hid (show bm < (w14.alloc (.map #[] 0)).heap.size by rw [← hbm]; simp)
                                                              have Hbm12 := Lib.hid (show w12.heap.size ≤ bm by rw [← hbm]; exact HBS2.out.size)
                                                              clear hal14
                                                              have hmm := @run_makeMap Tryz.prog
                                                              go_wp2_with fail
                                                              refine HPp.out.mono ?_
                                                              rintro e w15 ⟨v, rfl, hown, hb15⟩
                                                              obtain ⟨ua, uc, rfl, z0, z1⟩ := hown.read
                                                              clear hbm hmm
                                                              have HU := Lib.hid (RowJ.made (HI.out.keeps HB14.out) hown)
                                                              have HUb := Lib.hid (show ∀ j, (Value.slice ua sk.pcs.length uc).ownBlock = some j → j ≠ bm from fun j hj => by
                                                                have h1 := (hown.lt hj).1
                                                                have h2 := Hsz14.out
                                                                omega)
                                                              have HB15 := Lib.hid (HB14.out.trans (hb15.mono HB14.out.size))
                                                              have HM15 := Lib.hid (HM0.out.below hb15 Hsz14.out)
                                                              clear z0 z1 hown hb15 HM0 HB14 HPp
                                                              go_upto_block 10 with fail
                                                              go_cut [] from 385 to 385 (fun wx => Turned (fun k => k = bm) w15.heap.size w15 wx ∧ ∃ n, MapOf Value.string wx bm n (setS sk.pcs))
                                                              case first =>
                                                                as_aux_lemma =>
                                                                  go_wp2_with fail
                                                                  go_loopw [34] (fun i wx => ∃ q : Nat, q ≤ sk.pcs.length ∧ i = .int .i64 q ∧ Turned (fun k => k = bm) w15.heap.size w15 wx ∧ ∃ n, MapOf Value.string wx bm n (setS (sk.pcs.take q))) (fun i _ => sk.pcs.length - (RowKit.intOf i).toNat)
                                                                  case atStart => exact ⟨0, Nat.zero_le _, rfl, Turned.refl _ _ _, 0, HM15.out⟩
                                                                  case round =>
                                                                    as_aux_lemma =>
                                                                      obtain ⟨q, hq, rfl, hTq, n, hMq⟩ := hrel
                                                                      by_cases hql : q < sk.pcs.length
                                                                      · obtain ⟨y, hy⟩ := at_some hql
                                                                        obtain ⟨b1, o1, hae, hbl, c0⟩ := str_at (((HU.out.row.turnedOther hTq HUb.out).rowsJ)) hy
                                                                        subst hae
                                                                        have hqi : (q : Int) < (sk.pcs.length : Int) := by omega
                                                                        have Hst := Lib.hid (show sk.pcs.take q ++ [y] = sk.pcs.take (q + 1) by rw [List.take_add_one, hy]; rfl)
                                                                        have HTq := Lib.hid hTq
                                                                        clear hy hbl hTq
                                                                        go_wp2_with (at_mapUpdate; refine wpList_mapUpdate_of rfl _ _ _ 79 rfl 9 4 mapK Tryz.underlying79 rfl hMq y rfl _ rfl ?_)
                                                                        intro w5 hM5 hg5
                                                                        rw [setS_put, Hst.out] at hM5
                                                                        have HM5 := Lib.hid hM5
                                                                        have HT5 := Lib.hid (HTq.out.trans (Turned.of_grown hg5 HTq.out.size (fun k e _ => (Option.some.inj e).symm)))
                                                                        clear hMq hM5 hg5 c0
                                                                        go_wp2_with fail
                                                                        go_roundw
                                                                        case rel => exact ⟨q + 1, by omega, by go_num, HT5.out, n + 1, HM5.out⟩
                                                                        case measure => (show sk.pcs.length - (q + 1) < sk.pcs.length - q; omega)
                                                                      · obtain rfl : q = sk.pcs.length := by omega
                                                                        rw [List.take_length] at hMq
                                                                        have HTq := Lib.hid hTq
                                                                        have HMq := Lib.hid hMq
                                                                        clear hTq hMq
                                                                        go_wp2_with fail
                                                                        go_meet
                                                                        case rel => exact ⟨HTq.out, n, HMq.out⟩
                                                              case rest =>
                                                                as_aux_lemma =>
                                                                  obtain ⟨hT16, n16, hM16⟩ := hcut
                                                                  have HU16 := Lib.hid (HU.out.turn hT16 HUb.out)
                                                                  have HB16 := Lib.hid (HB15.out.trans (hT16.below HB15.out.size (fun k hk e => by have := Hbm12.out; omega)))
                                                                  have HM16 := Lib.hid hM16
                                                                  clear hT16 hM16 HU HB15 HM15
                                                                  obtain ⟨w16, hw16⟩ : ∃ w16 : World, w16 = wc := ⟨_, rfl⟩
                                                                  rw [← hw16] at HU16 HB16 HM16 ⊢
                                                                  clear hw16
                                                                  have HHr := Lib.hid (HH.out.below HB16.out).row.rowsJ
                                                                  go_upto_block 12 with fail
                                                                  go_cut [] from 385 to 385 (fun wx => wx = w16)
                                                                  case first =>
                                                                    as_aux_lemma =>
                                                                      go_wp2_with fail
                                                                      go_loopw [35] (fun i wx => ∃ q : Nat, q ≤ HW.length ∧ i = .int .i64 q ∧ wx = w16) (fun i _ => HW.length - (RowKit.intOf i).toNat)
                                                                      case atStart => exact ⟨0, Nat.zero_le _, rfl, rfl⟩
                                                                      case round =>
                                                                        as_aux_lemma =>
                                                                          obtain ⟨q, hq, rfl, rfl⟩ := hrel
                                                                          by_cases hql : q < HW.length
                                                                          · obtain ⟨y, hy⟩ := at_some hql
                                                                            obtain ⟨b1, o1, hae, hbl, c0⟩ := str_at (HHr.out) hy
                                                                            subst hae
                                                                            have hqi : (q : Int) < (HW.length : Int) := by omega
                                                                            have hlk := HM16.out.lookup mapK Tryz.underlying79 y (zeroBool _)
                                                                            rw [setS_get (HHin.out y (List.mem_of_getElem? hy))] at hlk
                                                                            clear hy hbl
                                                                            go_wp2_with fail
                                                                            go_roundw
                                                                            case rel => exact ⟨q + 1, by omega, by go_num, (by first | rfl | trivial)⟩
                                                                            case measure => (show HW.length - (q + 1) < HW.length - q; omega)
                                                                          · obtain rfl : q = HW.length := by omega
                                                                            go_wp2_with fail
                                                                            go_meet
                                                                            case rel => first | rfl | trivial
                                                                  case rest =>
                                                                    as_aux_lemma =>
                                                                      rw [hcut]
                                                                      clear hcut
                                                                      have hal16 := (Below.refl w16.heap.size w16).alloc (Nat.le_refl _) (.map #[] 0)
                                                                      have HB17 := Lib.hid (HB16.out.trans (hal16.mono HB16.out.size))
                                                                      have HU17 := Lib.hid (HU16.out.below hal16)
                                                                      have HM17 := Lib.hid (MapOf.made (inj := Value.string) w16)
                                                                      obtain ⟨bn, hbn⟩ : ∃ bn, w16.heap.size = bn := ⟨_, rfl⟩
                                                                      rw [hbn] at HM17
                                                                      have Hbn12 := Lib.hid (show w12.heap.size ≤ bn by rw [← hbn]; exact HB16.out.size)
                                                                      have HUn := Lib.hid (show ∀ j, (Value.slice ua sk.pcs.length uc).ownBlock = some j → j ≠ bn from fun j hj => by
                                                                        have h1 := (HU16.out.row.lt hj).2
                                                                        omega)
                                                                      have HPn := Lib.hid (show ∀ j, (Value.slice pva PL.length pvc).ownBlock = some j → j ≠ bn from fun j hj => by
                                                                        have h1 := (HPc.out.row.lt hj).2
                                                                        have h2 := HB16.out.size
                                                                        omega)
                                                                      clear hal16 HU16 HB16 HM16 HHr
                                                                      have hmm := @run_makeMap Tryz.prog
                                                                      go_upto_block 14 with fail
                                                                      clear hmm
                                                                      obtain ⟨w17, hw17⟩ : ∃ w17, w16.alloc (.map #[] 0) = w17 := ⟨_, rfl⟩
                                                                      rw [hw17] at HB17 HU17 HM17 ⊢
                                                                      clear hw17 hbn
                                                                      have HPr := Lib.hid (HPc.out.below HB17.out)
                                                                      go_upto_block 14 with fail
                                                                      go_cut [] from 385 to 385 (fun wx => Turned (fun k => k = bn) w17.heap.size w17 wx ∧ ∃ n, MapOf Value.string wx bn n (setS PL))
                                                                      case first =>
                                                                        as_aux_lemma =>
                                                                          go_wp2_with fail
                                                                          go_loopw [37] (fun i wx => ∃ q : Nat, q ≤ PL.length ∧ i = .int .i64 q ∧ Turned (fun k => k = bn) w17.heap.size w17 wx ∧ ∃ n, MapOf Value.string wx bn n (setS (PL.take q))) (fun i _ => PL.length - (RowKit.intOf i).toNat)
                                                                          case atStart => exact ⟨0, Nat.zero_le _, rfl, Turned.refl _ _ _, 0, HM17.out⟩
                                                                          case round =>
                                                                            as_aux_lemma =>
                                                                              obtain ⟨q, hq, rfl, hTq, n, hMq⟩ := hrel
                                                                              by_cases hql : q < PL.length
                                                                              · obtain ⟨y, hy⟩ := at_some hql
                                                                                obtain ⟨b1, o1, hae, hbl, c0⟩ := str_at (((HPr.out.row.turnedOther hTq HPn.out).rowsJ)) hy
                                                                                subst hae
                                                                                have hqi : (q : Int) < (PL.length : Int) := by omega
                                                                                have Hst := Lib.hid (show PL.take q ++ [y] = PL.take (q + 1) by rw [List.take_add_one, hy]; rfl)
                                                                                have HTq := Lib.hid hTq
                                                                                clear hy hbl hTq
                                                                                go_wp2_with (at_mapUpdate; refine wpList_mapUpdate_of rfl _ _ _ 79 rfl 9 4 mapK Tryz.underlying79 rfl hMq y rfl _ rfl ?_)
                                                                                intro w5 hM5 hg5
                                                                                rw [setS_put, Hst.out] at hM5
                                                                                have HM5 := Lib.hid hM5
                                                                                have HT5 := Lib.hid (HTq.out.trans (Turned.of_grown hg5 HTq.out.size (fun k e _ => (Option.some.inj e).symm)))
                                                                                clear hMq hM5 hg5 c0
                                                                                go_wp2_with fail
                                                                                go_roundw
                                                                                case rel => exact ⟨q + 1, by omega, by go_num, HT5.out, n + 1, HM5.out⟩
                                                                                case measure => (show PL.length - (q + 1) < PL.length - q; omega)
                                                                              · obtain rfl : q = PL.length := by omega
                                                                                rw [List.take_length] at hMq
                                                                                have HTq := Lib.hid hTq
                                                                                have HMq := Lib.hid hMq
                                                                                clear hTq hMq
                                                                                go_wp2_with fail
                                                                                go_meet
                                                                                case rel => exact ⟨HTq.out, n, HMq.out⟩
                                                                      case rest =>
                                                                        as_aux_lemma =>
                                                                          obtain ⟨hT18, n18, hM18⟩ := hcut
                                                                          have HU18 := Lib.hid (HU17.out.turn hT18 HUn.out)
                                                                          have HB18 := Lib.hid (HB17.out.trans (hT18.below HB17.out.size (fun k hk e => by have := Hbn12.out; omega)))
                                                                          have HM18 := Lib.hid hM18
                                                                          clear hT18 hM18 HU17 HB17 HM17 HPr
                                                                          obtain ⟨w18, hw18⟩ : ∃ w18 : World, w18 = wc := ⟨_, rfl⟩
                                                                          rw [← hw18] at HU18 HB18 HM18 ⊢
                                                                          clear hw18
                                                                          have HUr := Lib.hid HU18.out.row.rowsJ
                                                                          go_upto_block 16 with fail
                                                                          go_cut [] from 385 to 385 (fun wx => wx = w18)
                                                                          case first =>
                                                                            as_aux_lemma =>
                                                                              go_wp2_with fail
                                                                              go_loopw [38] (fun i wx => ∃ q : Nat, q ≤ sk.pcs.length ∧ i = .int .i64 q ∧ wx = w18) (fun i _ => sk.pcs.length - (RowKit.intOf i).toNat)
                                                                              case atStart => exact ⟨0, Nat.zero_le _, rfl, rfl⟩
                                                                              case round =>
                                                                                as_aux_lemma =>
                                                                                  obtain ⟨q, hq, rfl, rfl⟩ := hrel
                                                                                  by_cases hql : q < sk.pcs.length
                                                                                  · obtain ⟨y, hy⟩ := at_some hql
                                                                                    obtain ⟨b1, o1, hae, hbl, c0⟩ := str_at (HUr.out) hy
                                                                                    subst hae
                                                                                    have hqi : (q : Int) < (sk.pcs.length : Int) := by omega
                                                                                    have hlk := HM18.out.lookup mapK Tryz.underlying79 y (zeroBool _)
                                                                                    rw [setS_get (HHot.out y (List.mem_of_getElem? hy))] at hlk
                                                                                    clear hy hbl
                                                                                    go_wp2_with fail
                                                                                    go_roundw
                                                                                    case rel => exact ⟨q + 1, by omega, by go_num, (by first | rfl | trivial)⟩
                                                                                    case measure => (show sk.pcs.length - (q + 1) < sk.pcs.length - q; omega)
                                                                                  · obtain rfl : q = sk.pcs.length := by omega
                                                                                    go_wp2_with fail
                                                                                    go_meet
                                                                                    case rel => first | rfl | trivial
                                                                          case rest =>
                                                                            as_aux_lemma =>
                                                                              rw [hcut]
                                                                              clear hcut HUr HM18
                                                                              go_upto_block 18 with fail
                                                                              go_cut [] from 385 to 385 (fun wx => Below w18.heap.size w18 wx)
                                                                              case first =>
                                                                                as_aux_lemma =>
                                                                                  have HNx := Lib.hid fun W (hW : Below w18.heap.size w18 W) (k : Int) => onext_any (HI.out.keeps (HB18.out.trans (hW.mono HB18.out.size))) (by show sk.ops.length ≤ _; omega) k
                                                                                  have HLr := Lib.hid fun W (hW : Below w18.heap.size w18 W) => (HL.out.below (HB18.out.trans (hW.mono HB18.out.size))).at_.rows
                                                                                  dsimp only at HNx
                                                                                  go_wp2_with fail
                                                                                  go_loopw [39] (fun i wx => ∃ q : Nat, q ≤ 3 ∧ i = .int .i64 q ∧ Below w18.heap.size w18 wx) (fun i _ => 3 - (RowKit.intOf i).toNat)
                                                                                  case atStart => exact ⟨0, Nat.zero_le _, rfl, Below.refl _ _⟩
                                                                                  case round =>
                                                                                    as_aux_lemma =>
                                                                                      obtain ⟨q, hq, rfl, hbq⟩ := hrel
                                                                                      by_cases hql : q < 3
                                                                                      · have hqi : (q : Int) < 3 := by omega
                                                                                        have HOk := Lib.hid (next_ok sk.ops q (by omega))
                                                                                        have HN1 := Lib.hid (HNx.out wr hbq (q : Int))
                                                                                        have Hbq := Lib.hid hbq
                                                                                        clear hbq
                                                                                        generalize nextO sk.ops (q : Int) = N at *
                                                                                        obtain ⟨⟨sc, sw, sn⟩, ne⟩ := N
                                                                                        dsimp only at HN1
                                                                                        go_wp2_with fail
                                                                                        refine HN1.out.mono ?_
                                                                                        rintro e w20 ⟨rfl, hb20⟩
                                                                                        have hal21 := (Below.refl w20.heap.size w20).alloc (Nat.le_refl _) (.cells #[.int .i64 sc, .int .i64 sw] 61)
                                                                                        have hV21 := VarAt.new w20 #[.int .i64 sc, .int .i64 sw] 61
                                                                                        have Hb20 := Lib.hid (Hbq.out.trans (hb20.mono Hbq.out.size))
                                                                                        have Hb21 := Lib.hid (Hb20.out.trans (hal21.mono Hb20.out.size))
                                                                                        have HV21 := Lib.hid hV21
                                                                                        obtain ⟨bs, hbs⟩ : ∃ bs, w20.heap.size = bs := ⟨_, rfl⟩
                                                                                        rw [hbs] at HV21
                                                                                        have Hbs := Lib.hid hbs
                                                                                        clear hal21 hV21 hb20 HN1 Hb20
                                                                                        rcases HOk.out.err with hne | hne
                                                                                        · have hne' : ne = 0 := hne
                                                                                          subst hne'
                                                                                          have Hno1 := Lib.hid (HOk.out.num rfl)
                                                                                          have Hno2 := Lib.hid (HOk.out.less rfl)
                                                                                          have HVe := Lib.hid fun W (hW : Below w18.heap.size w18 W) => vector_any la lc sk.ops W (by omega) (HLr.out W hW)
                                                                                          dsimp only at Hno1 Hno2
                                                                                          clear hne HOk
                                                                                          go_upto_region 90 with fail
                                                                                          obtain ⟨w21, hw21⟩ : ∃ w21, w20.alloc (.cells #[.int .i64 sc, .int .i64 sw] 61) = w21 := ⟨_, rfl⟩
                                                                                          rw [hw21] at Hb21 HV21 ⊢
                                                                                          clear hw21 hbs Hbs
                                                                                          go_wp2_with fail
                                                                                          refine (HVe.out w21 Hb21.out).mono ?_
                                                                                          rintro e w22 ⟨v, rfl, hown, hb22⟩
                                                                                          obtain ⟨xa1, xc1, rfl, hr22, z1⟩ := hown.read
                                                                                          rw [vec_len]
                                                                                          have HV22 := Lib.hid (HV21.out.keeps hb22 HV21.out.1)
                                                                                          have Hb22 := Lib.hid (Hb21.out.trans (hb22.mono Hb21.out.size))
                                                                                          have Hr22 := Lib.hid hr22
                                                                                          have hlo := lenO_le sk.ops
                                                                                          clear z1 hown hb22 hr22 HV21 Hb21
                                                                                          go_upto_region 91 with fail
                                                                                          go_cut [368] from 368 to 368 (fun c wx => c = .bool false ∧ wx = w22)
                                                                                          case first =>
                                                                                            as_aux_lemma =>
                                                                                              by_cases hqv : q < lenO sk.ops
                                                                                              · obtain ⟨b1, o1, hae, hbl, c0⟩ := num_at Hr22.out (vec_in hqv)
                                                                                                subst hae
                                                                                                have hqvi : (q : Int) < (lenO sk.ops : Int) := by omega
                                                                                                have hqvd : decide ((lenO sk.ops : Int) ≤ (q : Int)) = false := decide_eq_false (by omega)
                                                                                                have hqve : decide (lenO sk.ops ≤ q) = false := decide_eq_false (by omega)
                                                                                                have hcl := cntO_le sk.ops q
                                                                                                have hsb : (sn != cntO sk.ops q + 1) = false := by rw [Hno1.out]; simp
                                                                                                have hw64 : IntKind.i64.wrap (cntO sk.ops q + 1) = cntO sk.ops q + 1 := by rw [IntWalk.i64_in _ (by omega)]
                                                                                                clear hbl
                                                                                                go_wp2_with fail
                                                                                                go_meet
                                                                                                case rel => exact ⟨rfl, (by first | rfl | trivial)⟩
                                                                                              · have hz := cntO_zero (l := sk.ops) (i := q) (by omega) (by omega)
                                                                                                have hqvi : (lenO sk.ops : Int) ≤ (q : Int) := by omega
                                                                                                have hqvd : decide ((lenO sk.ops : Int) ≤ (q : Int)) = true := decide_eq_true (by omega)
                                                                                                have hsb : (sn != 1) = false := by rw [Hno1.out, hz]; rfl
                                                                                                clear hz
                                                                                                go_wp2_with fail
                                                                                                go_meet
                                                                                                case rel => exact ⟨rfl, (by first | rfl | trivial)⟩
                                                                                          case rest =>
                                                                                            as_aux_lemma =>
                                                                                              obtain ⟨hcc, hwc⟩ := hcut
                                                                                              subst hcc
                                                                                              rw [hwc]
                                                                                              clear hwc
                                                                                              go_wp2_with fail
                                                                                              go_loopw [44] (fun i wx => ∃ j : Nat, j ≤ sk.ops.length ∧ i = .int .i64 j ∧ Below w22.heap.size w22 wx) (fun i _ => sk.ops.length - (RowKit.intOf i).toNat)
                                                                                              case atStart => exact ⟨0, Nat.zero_le _, rfl, Below.refl _ _⟩
                                                                                              case round =>
                                                                                                as_aux_lemma =>
                                                                                                  obtain ⟨j, hj, rfl, hbj⟩ := hrel
                                                                                                  by_cases hjl : j < sk.ops.length
                                                                                                  · obtain ⟨y, hy⟩ := at_some hjl
                                                                                                    obtain ⟨b1, o1, hae, hbl, c0, c1, z2, z3, z4, z5, z6, z7, z8, z9, z10⟩ := opr_at (HLr.out wr (Hb22.out.trans (hbj.mono Hb22.out.size))) hy
                                                                                                    subst hae
                                                                                                    have hji : (j : Int) < (sk.ops.length : Int) := by omega
                                                                                                    have hV := HV22.out.keeps hbj HV22.out.1
                                                                                                    have d0 := hV.2.2 0 _ rfl
                                                                                                    have d1 := hV.2.2 1 _ rfl
                                                                                                    have HLs := Lib.hid fun W => cless_any y.cnt y.who sc sw W
                                                                                                    rw [Hno2.out y (List.mem_of_getElem? hy)] at HLs
                                                                                                    have q0 := cell_regrown c0
                                                                                                    have q1 := cell_regrown c1
                                                                                                    have q2 := cell_regrown d0
                                                                                                    have q3 := cell_regrown d1
                                                                                                    have Hbj := Lib.hid hbj
                                                                                                    clear hy hbl hV hbj z2 z3 z4 z5 z6 z7 z8 z9 z10
                                                                                                    go_upto_region 96 with fail
                                                                                                    refine wp_region_quiet_below (by kernel_rfl) (by kernel_rfl) ?_
                                                                                                    repeat (go_big_quiet_step (exact Calls.regrown_of (HLs.out _)))
                                                                                                    refine wpQuiet_nil ?_
                                                                                                    intro _ hw'
                                                                                                    obtain ⟨⟨dq, osq⟩, hw''⟩ := hw'
                                                                                                    subst hw''
                                                                                                    have Hbk := Lib.hid (Hbj.out.trans ((below_regrown wr dq osq).mono Hbj.out.size))
                                                                                                    clear q0 q1 q2 q3 c0 c1 d0 d1
                                                                                                    generalize «Sort».grow (redrawn wr dq) osq = wq at *
                                                                                                    go_wp2_with fail
                                                                                                    go_roundw
                                                                                                    case rel => exact ⟨j + 1, by omega, by go_num, Hbk.out⟩
                                                                                                    case measure => (show sk.ops.length - (j + 1) < sk.ops.length - j; omega)
                                                                                                  · obtain rfl : j = sk.ops.length := by omega
                                                                                                    have Hbj := Lib.hid (Hb22.out.trans (hbj.mono Hb22.out.size))
                                                                                                    clear hbj
                                                                                                    go_wp2_with fail
                                                                                                    go_roundw
                                                                                                    case rel => exact ⟨q + 1, by omega, by go_num, Hbj.out⟩
                                                                                                    case measure => (show 3 - (q + 1) < 3 - q; omega)
                                                                                        · have hne' : ne = 21 := hne
                                                                                          subst hne'
                                                                                          clear hne HOk
                                                                                          go_wp2_with fail
                                                                                          go_roundw
                                                                                          case rel => exact ⟨q + 1, by omega, by go_num, Hb21.out⟩
                                                                                          case measure => (show 3 - (q + 1) < 3 - q; omega)
                                                                                      · obtain rfl : q = 3 := by omega
                                                                                        have Hbq := Lib.hid hbq
                                                                                        clear hbq
                                                                                        go_wp2_with fail
                                                                                        go_meet
                                                                                        case rel => exact Hbq.out
                                                                              case rest =>
                                                                                as_aux_lemma =>
                                                                                  have HBe := Lib.hid hcut
                                                                                  clear hcut
                                                                                  have HBE := Lib.hid (HB18.out.trans (HBe.out.mono HB18.out.size))
                                                                                  go_wp2_with fail
                                                                                  go_roundw
                                                                                  case rel => exact ⟨k + 1, Q, sk, d10, T10, ob2, lb2, la, lc, by omega, by omega, by go_num, rfl, rfl, HI.out.keeps HBE.out, Lib.hid ⟨HSt10.out, HRep.out, HGood.out⟩, HL.out.below HBE.out, HU18.out.below HBe.out⟩
                                                                                  case measure => simp [RowKit.intOf]; omega
end Go.Proofs.YtgglheelhbfgiaaGreatDoor

