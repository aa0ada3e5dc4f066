/-
  The law SeglogLasts.
-/
import Derived.Test.YtgglheelhbfgiaaGreatDoorSegGC
namespace Go.Proofs.YtgglheelhbfgiaaGreatDoor
open Go Go.RowKit Go.Lib
theorem right_snoc {rs : List ByteArray} {k : Nat} {s : ByteArray} (h : rs[k]? = some s) : (rs.take (k + 1)).all rightR = ((rs.take k).all rightR && rightR s) := by
  obtain ⟨hk, e⟩ := List.getElem?_eq_some_iff.1 h
  rw [List.take_succ_eq_append_getElem hk, e, List.all_append]
  simp
set_option maxRecDepth 100000 in
set_option maxHeartbeats 12800000 in
theorem law_seglogLasts (pa : Option Addr) (pc : Nat) (puts : List PutV) (ca : Option Addr) (cc : Nat) (cuts : List Int) (ka : Option Addr) (kc : Nat) (keeps : List Int) (w : World) (_ : puts.length ≤ 140737488351232) (hP : RowsAt putLay w pa puts ∧ ∀ x ∈ puts, RowsAt strLay w x.a x.rs ∧ (x.a = none → x.cap = 0)) (hcl : cuts.length ≤ 140737488351232) (hC : RowsAt numLay w ca cuts) (hkl : keeps.length ≤ 140737488351232) (hK : RowsAt numLay w ka keeps) (ht : TabD w) :
    Calls Tryz.prog 6 #[.slice pa puts.length pc, .slice ca cuts.length cc, .slice ka keeps.length kc] w fun e w' => e = .returned (.bool true) ∧ Below w.heap.size w w' := by
  have HN := Lib.hid (new_any w 4194304 (by decide) (by decide))
  have HT := Lib.hid ht
  have HPu := Lib.hid hP.1
  have HPx := Lib.hid hP.2
  have HCu := Lib.hid hC
  have HKe := Lib.hid hK
  have hst := open_still (new_mid (lim := 4194304)) (by decide)
  have Hst := Lib.hid hst
  clear hP hC hK ht hst
  obtain ⟨db, hdb⟩ : ∃ db, w.heap.size + 2 = db := ⟨_, rfl⟩
  rw [hdb] at HN
  clear hdb
  go_enter Tryz.func6, Tryz.ntmps6
  go_wp2_with fail
  refine HN.out.mono ?_
  rintro e w1 ⟨rfl, hD, hb1⟩
  have HO := Lib.hid (sopen_any hD (by show ([] : Fls).length ≤ _; decide) (by show ([] : List ActD).length ≤ _; decide) ⟨w, rfl, HT.out, hb1⟩ (fun k hk => hk.1))
  have HB1 := Lib.hid hb1
  clear hD hb1
  go_wp2_with fail
  refine HO.out.mono ?_
  rintro e w2 hO
  obtain ⟨T1, po, v1, hD1, hT1, hTu1, rfl, hl1⟩ := hO.one
  obtain ⟨lb, rfl, hL1, hlb1, hlbT1, _, _⟩ := hl1 _ Hst.out.1
  rw [Hst.out.2.2.1]
  have hS1 : ∀ k, T1 k → w.heap.size ≤ k := fun k hk => by
    rcases hT1 k hk with h | h
    · exact h.1
    · exact Nat.le_trans HB1.out.size h
  have hIn : LIn w w2 db lb T1 (openD (newD 4194304)).d (logOf []) := ⟨hD1, hL1, hS1, hlbT1, Nat.le_trans HB1.out.size hlb1, below_turned HB1.out hTu1 fun k hk => hk.1⟩
  have HSt := Lib.hid Hst.out.2.2.2.1
  clear hD1 hT1 hTu1 hL1 hlb1 hlbT1 hS1 hl1 hO
  generalize (openD (newD 4194304)).d = d1 at *
  go_wp2_with fail
  go_loopw [9, 12, 13] (fun lg nv i wr => ∃ (k : Nat) (R : List (List UInt8)) (d : Dk) (T : Nat → Prop) (lb : Nat), k ≤ puts.length ∧ k ≤ 40 ∧ i = .int .i64 k ∧ lg = .pointer (some ⟨lb, 0, none⟩) ∧ LIn w wr db lb T d (logOf R) ∧ Hid (StL 4194304 d R) ∧ RowIn w wr T lb nv (R.map mkB)) (fun _ _ i _ => puts.length - (RowKit.intOf i).toNat)
  case atStart => exact ⟨0, [], d1, T1, lb, Nat.zero_le _, by omega, rfl, rfl, hIn, HSt, RowIn.nil _ _ _ _⟩
  case round =>
    as_aux_lemma =>
      obtain ⟨k, R, d, T, lb, hk, hk40, rfl, rfl, hIn, HS, hRow⟩ := hrel
      obtain ⟨na, nc, rfl, _, _⟩ := hRow.row.read
      rw [List.length_map] at hRow
      by_cases hlt : k < puts.length ∧ k < 40
      · obtain ⟨h1, h2⟩ := hlt
        have h1i : (k : Int) < (puts.length : Int) := by omega
        have h2i : (k : Int) < 40 := by omega
        obtain ⟨x, hx⟩ := at_some h1
        obtain ⟨b0, o0, hae, hbl0, c0⟩ := put_at (HPu.out.keeps hIn.below) hx
        subst hae
        have hxr := (HPx.out x (List.mem_of_getElem? hx)).1.keeps hIn.below
        obtain ⟨xa, xc, p⟩ := x
        dsimp only at c0 hxr
        have HF := Lib.hid (sfew_any 0 0 xa xc p false noB wr hxr)
        have HXr := Lib.hid (HPx.out _ (List.mem_of_getElem? hx)).1
        have Hxn := Lib.hid (HPx.out _ (List.mem_of_getElem? hx)).2
        clear hx hxr
        cases hfw : fewB p noB with
        | false =>
          as_aux_lemma =>
            rw [hfw] at HF
            clear hfw
            go_wp2_with fail
            refine HF.out.mono ?_
            rintro e w3 ⟨rfl, hb3⟩
            have hb03 := hIn.below.trans (hb3.mono hIn.below.size)
            have HA := Lib.hid (awake16_any w3 (HT.out.keeps hb03))
            have Hb03 := Lib.hid hb03
            clear hb3 hb03
            go_wp2_with fail
            refine HA.out.mono ?_
            rintro e w4 ⟨rfl, hb4⟩
            go_wp2_with fail
            go_ret
            exact ⟨rfl, Hb03.out.trans (hb4.mono Hb03.out.size)⟩
        | true =>
          as_aux_lemma =>
            rw [hfw] at HF
            have hfq := of_decide_eq_true hfw
            have hp30 := hfq.1
            have Hsz := Lib.hid hfq.2.2
            clear hfw hfq
            go_wp2_with fail
            refine HF.out.mono ?_
            rintro e w3 ⟨rfl, hb3⟩
            have HIn := Lib.hid (hIn.keeps hb3)
            have HRow := Lib.hid (hRow.step (Stp.of_below hb3))
            have HXr3 := Lib.hid (HXr.out.keeps (hIn.below.trans (hb3.mono hIn.below.size)))
            clear hIn hRow hb3 hbl0 c0
            go_wp2_with fail
            go_loopw [15, 16] (fun r i wx => ∃ q : Nat, q ≤ p.length ∧ i = .int .i64 q ∧ r = .bool ((p.take q).all rightR) ∧ wx = w3) (fun _ i _ => p.length - (RowKit.intOf i).toNat)
            case atStart => exact ⟨0, Nat.zero_le _, rfl, rfl, rfl⟩
            case round =>
              as_aux_lemma =>
                obtain ⟨q, hq, rfl, rfl, rfl⟩ := hrel
                by_cases hql : q < p.length
                · obtain ⟨s, hs⟩ := at_some hql
                  obtain ⟨b1, o1, hae, hbl, c1⟩ := str_at HXr3.out hs
                  subst hae
                  have hqi : (q : Int) < (p.length : Int) := by omega
                  have Hsn := Lib.hid (right_snoc hs)
                  have Hrs := Lib.hid (show rightR s = (decide (1 ≤ s.size) && decide (s.size ≤ 2000)) from rfl)
                  have hsz := Hsz.out s (List.mem_of_getElem? hs)
                  clear hs hbl
                  generalize (p.take q).all rightR = rb at *
                  cases rb with
                  | false =>
                    as_aux_lemma =>
                      have Hn := Lib.hid (Hsn.out.trans (Bool.false_and _))
                      go_wp2_with fail
                      go_roundw
                      case rel => exact ⟨q + 1, by omega, by go_num, by rw [Hn.out], (by first | rfl | trivial)⟩
                      case measure => simp [RowKit.intOf]; omega
                  | true =>
                    as_aux_lemma =>
                      by_cases g1 : 1 ≤ s.size
                      · have g1i : (1 : Int) ≤ (s.size : Int) := by omega
                        have g1d : decide ((1 : Int) ≤ (s.size : Int)) = true := decide_eq_true g1i
                        by_cases g2 : s.size ≤ 2000
                        · have g2i : (s.size : Int) ≤ 2000 := by omega
                          have g2d : decide ((s.size : Int) ≤ 2000) = true := decide_eq_true g2i
                          have Hn := Lib.hid (show (p.take (q + 1)).all rightR = true by rw [Hsn.out, Hrs.out, decide_eq_true g1, decide_eq_true g2]; rfl)
                          clear g1 g2
                          go_wp2_with fail
                          go_roundw
                          case rel => exact ⟨q + 1, by omega, by go_num, by rw [Hn.out], (by first | rfl | trivial)⟩
                          case measure => simp [RowKit.intOf]; omega
                        · have g2i : ¬ ((s.size : Int) ≤ 2000) := by omega
                          have g2d : decide ((s.size : Int) ≤ 2000) = false := decide_eq_false g2i
                          have g3d : decide (s.size ≤ 2000) = false := decide_eq_false g2
                          have Hn := Lib.hid (show (p.take (q + 1)).all rightR = false by rw [Hsn.out, Hrs.out, decide_eq_true g1, decide_eq_false g2]; rfl)
                          clear g1 g2
                          go_wp2_with fail
                          go_roundw
                          case rel => exact ⟨q + 1, by omega, by go_num, by rw [Hn.out], (by first | rfl | trivial)⟩
                          case measure => simp [RowKit.intOf]; omega
                      · have g1i : ¬ ((1 : Int) ≤ (s.size : Int)) := by omega
                        have g1d : decide ((1 : Int) ≤ (s.size : Int)) = false := decide_eq_false g1i
                        have g3d : decide (1 ≤ s.size) = false := decide_eq_false g1
                        have Hn := Lib.hid (show (p.take (q + 1)).all rightR = false by rw [Hsn.out, Hrs.out, decide_eq_false g1]; rfl)
                        clear g1
                        go_wp2_with fail
                        go_roundw
                        case rel => exact ⟨q + 1, by omega, by go_num, by rw [Hn.out], (by first | rfl | trivial)⟩
                        case measure => simp [RowKit.intOf]; omega
                · obtain rfl : q = p.length := by omega
                  rw [List.take_length]
                  generalize hrg : p.all rightR = rgt at *
                  have Hrg := Lib.hid hrg
                  clear hrg
                  go_upto_if 93 with fail
                  go_cut [17] from 49 to 235 (fun c wx => ∃ n, c = .int .i64 n ∧ wx = wr)
                  case first =>
                    as_aux_lemma =>
                      by_cases h0 : 0 < cuts.length
                      · have h0i : (0 : Int) < (cuts.length : Int) := by omega
                        have hmod := Nat.mod_lt k h0
                        obtain ⟨y, hy⟩ := at_some hmod
                        obtain ⟨by_, oy, hae, hbl, cy⟩ := num_at (HCu.out.keeps HIn.out.below) hy
                        subst hae
                        have hmi : ((k % cuts.length : Nat) : Int) = (k : Int) % (cuts.length : Int) := Int.natCast_emod ..
                        clear hy hbl
                        go_wp2_with fail
                        go_meet
                        case rel => exact ⟨_, rfl, rfl⟩
                      · have h0n : cuts.length = 0 := by omega
                        have h0i : ¬ ((0 : Int) < (cuts.length : Int)) := by omega
                        clear h0n
                        go_wp2_with fail
                        go_meet
                        case rel => exact ⟨_, rfl, rfl⟩
                  case rest =>
                    as_aux_lemma =>
                      obtain ⟨cut, hcc, hwc⟩ := hcut
                      subst hcc
                      rw [hwc]
                      clear hwc
                      go_upto_if 103 with fail
                      go_cut [18] from 49 to 235 (fun c wx => ∃ n, c = .int .i64 n ∧ wx = wr)
                      case first =>
                        as_aux_lemma =>
                          by_cases h0 : 0 < keeps.length
                          · have h0i : (0 : Int) < (keeps.length : Int) := by omega
                            have hmod := Nat.mod_lt k h0
                            obtain ⟨y, hy⟩ := at_some hmod
                            obtain ⟨by_, oy, hae, hbl, cy⟩ := num_at (HKe.out.keeps HIn.out.below) hy
                            subst hae
                            have hmi : ((k % keeps.length : Nat) : Int) = (k : Int) % (keeps.length : Int) := Int.natCast_emod ..
                            clear hy hbl
                            go_wp2_with fail
                            go_meet
                            case rel => exact ⟨_, rfl, rfl⟩
                          · have h0n : keeps.length = 0 := by omega
                            have h0i : ¬ ((0 : Int) < (keeps.length : Int)) := by omega
                            clear h0n
                            go_wp2_with fail
                            go_meet
                            case rel => exact ⟨_, rfl, rfl⟩
                      case rest =>
                        as_aux_lemma =>
                          obtain ⟨keep, hcc, hwc⟩ := hcut
                          subst hcc
                          rw [hwc]
                          clear hwc
                          go_wp2_with fail
                          refine (darm_any HIn.out.disk cut).mono ?_
                          rintro e w4 ⟨rfl, hg4⟩
                          obtain ⟨T4, hIn4, hs4⟩ := HIn.out.go hg4
                          have hRow4 := HRow.out.step hs4
                          have hXr4 := HXr.out.keeps hIn4.below
                          have hA := sappend_any hIn4.disk hIn4.log hIn4.lbT xa xc p hXr4 (fun ad e h0 => by
                            subst e
                            have hb := rows_block HXr.out h0
                            exact ⟨Nat.lt_of_lt_of_le hb hIn4.below.size, fun h => by have := hIn4.old _ h; omega⟩) (by show R.length ≤ _; have := HS.out.clean.len; omega) (by omega) (Nat.le_trans (HS.out.bnd.arm cut).now (by decide)) (Nat.le_trans (HS.out.bnd.arm cut).acts (by decide))
                          have HA := Lib.hid hA
                          have HIn4 := Lib.hid hIn4
                          have HRow4 := Lib.hid hRow4
                          have HRA := Lib.hid fun torn => round_append HS.out p cut keep torn
                          have HBd := Lib.hid ((HS.out.bnd.arm cut).append (logOf R) p)
                          clear hA hIn4 hRow4 hXr4 hs4 hg4
                          generalize appendD (logOf R) p (armD d cut) = A at *
                          go_wp2_with fail
                          refine HA.out.mono ?_
                          rintro e w5 hApp
                          obtain ⟨rfl, T5, hIn5, hs5⟩ := HIn4.out.stp_app hApp
                          have HIn5 := Lib.hid hIn5
                          have HRow5 := Lib.hid (HRow4.out.step hs5)
                          clear hApp hIn5 hs5
                          obtain ⟨lA, dA, er⟩ := A
                          dsimp only at HRA HBd HIn5
                          have hw1 : rgt = false → er = 1 := fun h => (HRA.out false).elim fun Q hq => hq.wrong (Hrg.out.trans h)
                          have hw2 : rgt = true → er = 0 ∨ (er = 42 ∧ 0 < cut) ∨ (er = 40 ∧ 800 < R.length + p.length) := fun h => (HRA.out false).elim fun Q hq => hq.fine (Hrg.out.trans h)
                          have Hw1 := Lib.hid hw1
                          have Hw2 := Lib.hid hw2
                          clear hw1 hw2
                          go_upto_region 27 with fail
                          go_cut [149] from 49 to 235 (fun c wx => c = .bool false ∧ wx = w5)
                          case first =>
                            as_aux_lemma =>
                              cases rgt with
                              | false =>
                                as_aux_lemma =>
                                  obtain rfl := Hw1.out rfl
                                  go_wp2_with fail
                                  go_meet
                                  case rel => exact ⟨rfl, rfl⟩
                              | true =>
                                as_aux_lemma =>
                                  rcases Hw2.out rfl with rfl | ⟨rfl, hcut0⟩ | ⟨rfl, h800⟩
                                  · go_wp2_with fail
                                    go_meet
                                    case rel => exact ⟨rfl, rfl⟩
                                  · have hc1 : ¬ (cut < 1) := by omega
                                    have hc2 : decide (cut < 1) = false := decide_eq_false hc1
                                    go_wp2_with fail
                                    go_meet
                                    case rel => exact ⟨rfl, rfl⟩
                                  · have h8i : ¬ ((R.length : Int) + (p.length : Int) ≤ 800) := by omega
                                    have h8d : decide ((R.length : Int) + (p.length : Int) ≤ 800) = false := decide_eq_false h8i
                                    have hR8 : R.length ≤ 800 := HS.out.clean.len
                                    go_wp2_with fail
                                    go_meet
                                    case rel => exact ⟨rfl, rfl⟩
                          case rest =>
                            as_aux_lemma =>
                              obtain ⟨hcc, hwc⟩ := hcut
                              subst hcc
                              rw [hwc]
                              clear hwc
                              go_upto_region 30 with fail
                              go_cut [155] from 49 to 235 (fun c wx => c = .bool (rgt && (er != 40)) ∧ wx = w5)
                              case first =>
                                as_aux_lemma =>
                                  cases rgt with
                                  | false =>
                                    as_aux_lemma =>
                                      go_wp2_with fail
                                      go_meet
                                      case rel => exact ⟨rfl, (by first | rfl | trivial)⟩
                                  | true =>
                                    as_aux_lemma =>
                                      by_cases h40 : er = 40
                                      · subst h40
                                        go_wp2_with fail
                                        go_meet
                                        case rel => exact ⟨rfl, (by first | rfl | trivial)⟩
                                      · have hq := neq_int h40
                                        clear h40
                                        go_wp2_with fail
                                        go_meet
                                        case rel => exact ⟨by rw [hq]; rfl, (by first | rfl | trivial)⟩
                              case rest =>
                                as_aux_lemma =>
                                  obtain ⟨hcc, hwc⟩ := hcut
                                  subst hcc
                                  rw [hwc]
                                  clear hwc
                                  obtain ⟨AL, hAL⟩ : ∃ AL, (if rgt = true ∧ er ≠ 40 then R.map mkB ++ p else R.map mkB) = AL := ⟨_, rfl⟩
                                  have HAL := Lib.hid hAL
                                  clear hAL
                                  obtain ⟨bb, hbb⟩ : ∃ bb, (rgt && (er != 40)) = bb := ⟨_, rfl⟩
                                  have Hbb := Lib.hid (show (bb = true → AL = R.map mkB ++ p) ∧ (bb = false → AL = R.map mkB) from by
                                    rw [← HAL.out, ← hbb]
                                    constructor
                                    · intro h
                                      simp only [Bool.and_eq_true, bne_iff_ne] at h
                                      rw [if_pos h]
                                    · intro h
                                      rw [if_neg fun hh => by simp [hh.1, hh.2] at h])
                                  rw [hbb]
                                  clear hbb
                                  go_upto_if 155 with fail
                                  go_cut [20] from 49 to 235 (fun c wx => RowIn w wx T5 lb c AL ∧ Below w5.heap.size w5 wx)
                                  case first =>
                                    as_aux_lemma =>
                                      cases bb with
                                      | false =>
                                        as_aux_lemma =>
                                          go_wp2_with fail
                                          go_meet
                                          case rel => exact ⟨by rw [Hbb.out.2 (by first | rfl | trivial)]; exact HRow5.out, (by first | exact Below.refl _ _ | trivial)⟩
                                      | true =>
                                        as_aux_lemma =>
                                          obtain ⟨i0, hi, hz0, hz1, hz2⟩ := info_three strInfoS
                                          have Hi := Lib.hid hi
                                          have Hz0 := Lib.hid hz0
                                          have Hz1 := Lib.hid hz1
                                          have Hz2 := Lib.hid hz2
                                          clear hi hz0 hz1 hz2
                                          have hlen : (R.map mkB).length = R.length := List.length_map ..
                                          have Hlen := Lib.hid hlen
                                          clear hlen
                                          have hR8 : R.length ≤ 800 := HS.out.clean.len
                                          have hal6 := (Below.refl w5.heap.size w5).alloc (Nat.le_refl _) (.cells #[] 9)
                                          have HL6 := Lib.hid (OwnRows.lit w5 strLay w5.heap.size w5.heap.size 9 #[] 0 [] rfl (Nat.le_refl _) (Nat.zero_le _) rfl rfl)
                                          have HN6 := Lib.hid (HRow5.out.step (Stp.of_below hal6))
                                          have HX6 := Lib.hid fun W (hW : Below w5.heap.size w5 W) => HXr.out.keeps (HIn5.out.below.trans (hW.mono HIn5.out.below.size))
                                          have Hal6 := Lib.hid hal6
                                          clear hal6
                                          have tok1 : True := trivial
                                          go_wp2_with (first
                                            | (at_builtin; have _t := tok1; refine wpList_append_all _ rfl _ _ 23 rfl strLay w5.heap.size 9 i0 (.string ⟨#[]⟩) 16 Tryz.underlying23 Hi.out Hz0.out Hz1.out Hz2.out rfl (by decide) _ [] rfl HL6.out _ (R.map mkB) w.heap.size rfl HN6.out.row (by rw [Hlen.out]; unfold maxLen; simp; omega) (by rw [Hlen.out]; simp; omega) (by simp) ?_; intro va w7 hrow7 hg7 hv7; clear tok1; have hb7 := (Hal6.out.grown hg7 (by simp) (fun j ej => by cases ej; exact Nat.le_refl _)); have hrx := HX6.out _ hb7; go_frame)
                                            | (at_builtin; refine wpList_append_from _ rfl _ _ 23 rfl strLay w5.heap.size 9 i0 (.string ⟨#[]⟩) 16 Tryz.underlying23 Hi.out Hz0.out Hz1.out Hz2.out rfl (by decide) _ ([] ++ R.map mkB) rfl hrow7 xa xc p.length p rfl rfl hrx Hxn.out (by rw [List.nil_append, Hlen.out]; unfold maxLen; omega) (by rw [List.nil_append, Hlen.out]; omega) hb7.size ?_; intro vb w8 hrow8 hg8 hv8; go_frame))
                                          go_meet
                                          case rel =>
                                            have hb8 := hb7.grown hg8 hb7.size (fun j ej => (hrow7.lt ej).1)
                                            refine ⟨⟨?_, fun j hj => ?_⟩, hb8⟩
                                            · rw [Hbb.out.1 (by first | rfl | trivial)]
                                              exact hrow8.lower HIn5.out.below.size
                                            · have h1 := (hrow8.lt hj).1
                                              have h2 := HIn5.out.log.1
                                              exact ⟨fun hT => by have := HIn5.out.disk.slt j hT; omega, by omega⟩
                                  case rest =>
                                    as_aux_lemma =>
                                      obtain ⟨hRA, hbc⟩ := hcut
                                      obtain ⟨aa, ac, hva, _, _⟩ := hRA.row.read
                                      subst hva
                                      have HRowA := Lib.hid hRA
                                      have HRow6 := Lib.hid (HRow5.out.step (Stp.of_below hbc))
                                      have HIn6 := Lib.hid (HIn5.out.keeps hbc)
                                      clear hRA hbc HIn5 HRow5
                                      obtain ⟨NW, hNW⟩ : ∃ NW, (if er = 0 then R.map mkB ++ p else R.map mkB) = NW := ⟨_, rfl⟩
                                      have HNW := Lib.hid hNW
                                      clear hNW
                                      have Hew := Lib.hid (show (er = 0 → NW = AL) ∧ (er ≠ 0 → NW = R.map mkB) from by
                                        constructor
                                        · intro h
                                          have hr : rgt = true := by
                                            cases hr : rgt with
                                            | true => rfl
                                            | false =>
                                              as_aux_lemma =>
                                                have := Hw1.out hr
                                                omega
                                          rw [← HNW.out, ← HAL.out, if_pos h, if_pos ⟨hr, by omega⟩]
                                        · intro h
                                          rw [← HNW.out, if_neg h])
                                      obtain ⟨w6, rfl⟩ : ∃ w6 : World, w6 = wc := ⟨_, rfl⟩
                                      go_upto_if 162 with fail
                                      go_cut [12] from 49 to 235 (fun c wx => RowIn w wx T5 lb c NW ∧ wx = w6)
                                      case first =>
                                        as_aux_lemma =>
                                          by_cases he : er = 0
                                          · subst he
                                            go_wp2_with fail
                                            go_meet
                                            case rel => exact ⟨by rw [Hew.out.1 (by first | rfl | trivial)]; exact HRowA.out, (by first | rfl | trivial)⟩
                                          · have hq2 : (er == 0) = false := beq_eq_false_iff_ne.2 he
                                            have hq3 := neq_int he
                                            have He := Lib.hid he
                                            clear he
                                            go_wp2_with fail
                                            go_meet
                                            case rel => exact ⟨by rw [Hew.out.2 He.out]; exact HRow6.out, (by first | rfl | trivial)⟩
                                      case rest =>
                                        as_aux_lemma =>
                                          obtain ⟨hRN, hwc⟩ := hcut
                                          rw [hwc] at hRN ⊢
                                          clear hwc
                                          obtain ⟨na2, nc2, hva, _, _⟩ := hRN.row.read
                                          subst hva
                                          have HRowN := Lib.hid hRN
                                          clear hRN
                                          obtain ⟨t1, ht1⟩ : ∃ t1, (cut.tmod 2 == 0) = t1 := ⟨_, rfl⟩
                                          obtain ⟨t2, ht2⟩ : ∃ t2, (cut.tmod 2 == 1) = t2 := ⟨_, rfl⟩
                                          have Ht1 := Lib.hid ht1
                                          have Ht2 := Lib.hid ht2
                                          clear ht1 ht2
                                          go_wp2_with fail
                                          rw [Ht1.out]
                                          refine (dcrash_any HIn6.out.disk keep t1 (by
                                            have h1 := HBd.out.firm
                                            have h2 := HBd.out.acts
                                            omega)).mono ?_
                                          rintro e w7 ⟨rfl, hg7⟩
                                          obtain ⟨T7, hIn7, hs7⟩ := HIn6.out.go hg7
                                          obtain ⟨Q, hQ⟩ := HRA.out t1
                                          have HQ := Lib.hid hQ
                                          have HIn7 := Lib.hid hIn7
                                          have HRowN7 := Lib.hid (HRowN.out.step hs7)
                                          have HRowA7 := Lib.hid (HRowA.out.step hs7)
                                          have HRd := Lib.hid (round_open hQ.mid cut keep t2)
                                          clear hQ hIn7 hs7 hg7 HIn6 HRow6 HRowN HRowA
                                          generalize crashD dA keep t1 = d7 at *
                                          go_wp2_with fail
                                          refine (darm_any HIn7.out.disk cut).mono ?_
                                          rintro e w8 ⟨rfl, hg8⟩
                                          obtain ⟨T8, hIn8, hs8⟩ := HIn7.out.go hg8
                                          have HIn8 := Lib.hid hIn8
                                          have HRowN8 := Lib.hid (HRowN7.out.step hs8)
                                          have HRowA8 := Lib.hid (HRowA7.out.step hs8)
                                          have HB8 := Lib.hid (HQ.out.mid.bnd.arm cut)
                                          clear hIn8 hs8 hg8 HRowN7 HRowA7 HIn7
                                          go_wp2_with fail
                                          refine (sopen_any HIn8.out.disk (Nat.le_trans HB8.out.now (by decide)) (Nat.le_trans HB8.out.acts (by decide)) ⟨w, rfl, HT.out, HIn8.out.below⟩ HIn8.out.old).mono ?_
                                          rintro e w9 hO
                                          obtain ⟨T9, po, v9, hD9, hT9, hTu9, rfl, hl9⟩ := hO.one
                                          have HD9 := Lib.hid (show DOk w9 db T9 (openD (armD d7 cut)).d ∧ (∀ k, T9 k → T8 k ∨ w8.heap.size ≤ k) ∧ Turned T8 w8.heap.size w8 w9 from ⟨hD9, hT9, hTu9⟩)
                                          have Hl9 := Lib.hid hl9
                                          have HBO := Lib.hid HB8.out.opened
                                          clear hO hD9 hT9 hTu9 hl9
                                          generalize openD (armD d7 cut) = O1 at *
                                          obtain ⟨e1, he1⟩ : ∃ e1, O1.err = e1 := ⟨_, rfl⟩
                                          rw [he1] at HRd ⊢
                                          clear he1
                                          go_upto_if 180 with fail
                                          go_cut [21, 22, 23] from 49 to 235 (fun m r g wx => ∃ (lb2 : Nat) (d9 : Dk) (T9 : Nat → Prop), m = .pointer (some ⟨lb2, 0, none⟩) ∧ g = .int .i64 0 ∧ LIn w wx db lb2 T9 d9 (logOf Q) ∧ RowIn w wx T9 lb2 r (Q.map mkB) ∧ RowIn w wx T9 lb2 (.slice na2 NW.length nc2) NW ∧ RowIn w wx T9 lb2 (.slice aa AL.length ac) AL ∧ Hid (StL 4194304 (armD d9 0) Q))
                                          case first =>
                                            as_aux_lemma =>
                                              rcases HRd.out with ⟨a1, a2, rfl, a4, a5, a6, a7, a8⟩ | ⟨a1, a2, rfl, a4⟩
                                              · obtain ⟨hIn9, hs9⟩ := HIn8.out.opened HD9.out.1 HD9.out.2.1 HD9.out.2.2
                                                have HIn9 := Lib.hid hIn9
                                                have HRowN9 := Lib.hid (HRowN8.out.step hs9)
                                                have HRowA9 := Lib.hid (HRowA8.out.step hs9)
                                                have Hp := Lib.hid (⟨a4, a5, a6, a7, a8⟩ : (openD (crashD O1.d keep t2)).log = some (logOf Q) ∧ (openD (crashD O1.d keep t2)).out = Q.map mkB ∧ (openD (crashD O1.d keep t2)).err = 0 ∧ StL 4194304 (openD (crashD O1.d keep t2)).d Q ∧ MidL 4194304 (crashD O1.d keep t2) Q)
                                                clear hIn9 hs9 a1 a2 a4 a5 a6 a7 a8 HRowN8 HRowA8
                                                go_wp2_with fail
                                                rw [Ht2.out]
                                                refine (dcrash_any HIn9.out.disk keep t2 (by
                                                  have h1 := HBO.out.firm
                                                  have h2 := HBO.out.acts
                                                  omega)).mono ?_
                                                rintro e w10 ⟨rfl, hg10⟩
                                                obtain ⟨T10, hIn10, hs10⟩ := HIn9.out.go hg10
                                                have HIn10 := Lib.hid hIn10
                                                have HRowN10 := Lib.hid (HRowN9.out.step hs10)
                                                have HRowA10 := Lib.hid (HRowA9.out.step hs10)
                                                clear hIn10 hs10 hg10 HRowN9 HRowA9
                                                generalize crashD O1.d keep t2 = d10 at *
                                                go_wp2_with fail
                                                refine (sopen_any HIn10.out.disk (Nat.le_trans Hp.out.2.2.2.2.bnd.now (by decide)) (Nat.le_trans Hp.out.2.2.2.2.bnd.acts (by decide)) ⟨w, rfl, HT.out, HIn10.out.below⟩ HIn10.out.old).mono ?_
                                                rintro e w11 hO
                                                obtain ⟨T11, po2, v11, hD11, hT11, hTu11, rfl, hl11⟩ := hO.one
                                                obtain ⟨lb2, rfl, hL11, hlb11, hlbT11, hown11, hv11⟩ := hl11 _ Hp.out.1
                                                have hs11 := (HIn10.out.opened hD11 hT11 hTu11).2
                                                have HIn11 := Lib.hid (HIn10.out.fresh hD11 hT11 hTu11 hL11 hlb11 hlbT11)
                                                have HRowN11 := Lib.hid (HRowN10.out.fresh hs11 hlb11)
                                                have HRowA11 := Lib.hid (HRowA10.out.fresh hs11 hlb11)
                                                rw [Hp.out.2.1] at hown11
                                                have HRowR := Lib.hid (RowIn.opened HIn10.out.below.size hown11 hv11)
                                                rw [Hp.out.2.2.1]
                                                clear hO hD11 hT11 hTu11 hl11 hL11 hlb11 hlbT11 hown11 hv11 hs11
                                                go_wp2_with fail
                                                go_meet
                                                case rel => exact ⟨lb2, _, T11, rfl, rfl, HIn11.out, HRowR.out, HRowN11.out, HRowA11.out, Lib.hid Hp.out.2.2.2.1.arm0⟩
                                              · obtain ⟨lb2, rfl, hL9, hlb9, hlbT9, hown9, hv9⟩ := Hl9.out _ a1
                                                have hs9 := (HIn8.out.opened HD9.out.1 HD9.out.2.1 HD9.out.2.2).2
                                                have HIn9 := Lib.hid (HIn8.out.fresh HD9.out.1 HD9.out.2.1 HD9.out.2.2 hL9 hlb9 hlbT9)
                                                have HRowN9 := Lib.hid (HRowN8.out.fresh hs9 hlb9)
                                                have HRowA9 := Lib.hid (HRowA8.out.fresh hs9 hlb9)
                                                rw [a2] at hown9
                                                have HRowR := Lib.hid (RowIn.opened HIn8.out.below.size hown9 hv9)
                                                have Ha4 := Lib.hid a4
                                                clear a1 a2 a4 hL9 hlb9 hlbT9 hown9 hv9 hs9
                                                go_wp2_with fail
                                                go_meet
                                                case rel => exact ⟨lb2, _, T9, rfl, rfl, HIn9.out, HRowR.out, HRowN9.out, HRowA9.out, Ha4⟩
                                          case rest =>
                                            as_aux_lemma =>
                                              obtain ⟨lb2, d9, T9', hm, hg, hIn, hRr, hRn, hRa, hSt9⟩ := hcut
                                              subst hm hg
                                              obtain ⟨ra, rc, hvr, _, _⟩ := hRr.row.read
                                              subst hvr
                                              rw [List.length_map] at hRr
                                              have HIn9 := Lib.hid hIn
                                              have HRr := Lib.hid hRr
                                              have HRn := Lib.hid hRn
                                              have HRa := Lib.hid hRa
                                              clear hIn hRr hRn hRa HRowN8 HRowA8 HIn8 HRd HBO HB8 Hl9 HD9
                                              obtain ⟨w10, rfl⟩ : ∃ w10 : World, w10 = wc := ⟨_, rfl⟩
                                              go_wp2_with fail
                                              refine (darm_any HIn9.out.disk 0).mono ?_
                                              rintro e w11 ⟨rfl, hg11⟩
                                              obtain ⟨T11, hIn11, hs11⟩ := HIn9.out.go hg11
                                              have HIn11 := Lib.hid hIn11
                                              have HRr11 := Lib.hid (HRr.out.step hs11)
                                              have HRn11 := Lib.hid (HRn.out.step hs11)
                                              have HRa11 := Lib.hid (HRa.out.step hs11)
                                              clear hIn11 hs11 hg11 HRr HRn HRa HIn9
                                              generalize armD d9 0 = d11 at *
                                              have hQ8 : Q.length ≤ 800 := HQ.out.mid.dirty.len
                                              have hNQ := HQ.out.has
                                              have hQA := HQ.out.within
                                              rw [HNW.out] at hNQ
                                              rw [Hrg.out, HAL.out] at hQA
                                              have hlQ : (Q.map mkB).length = Q.length := List.length_map ..
                                              have hNl := hNQ.length_le
                                              have hAl := hQA.length_le
                                              have hAl2 : AL.length ≤ 900 := by
                                                rw [← HAL.out]
                                                have hR8 : R.length ≤ 800 := HS.out.clean.len
                                                split
                                                · rw [List.length_append, List.length_map]
                                                  omega
                                                · rw [List.length_map]
                                                  omega
                                              have hB1 := fun W (hW : Below w11.heap.size w11 W) => (show Calls Tryz.prog 34 #[.slice na2 NW.length nc2, .slice ra Q.length rc] W fun e w' => e = .returned (.bool true) ∧ ∃ n, w' = W.drewN n from by
                                                obtain ⟨x1, x2, e1, r1, _⟩ := HRn11.out.row.read
                                                cases e1
                                                obtain ⟨y1, y2, e2, r2, c2⟩ := HRr11.out.row.read
                                                rw [hlQ] at e2 c2
                                                cases e2
                                                have := begins_any na2 ra nc2 rc NW (Q.map mkB) W (r1.keeps hW) (r2.keeps hW) (by rw [hlQ]; exact c2) (by rw [hlQ]; omega) hNQ
                                                rw [hlQ] at this
                                                exact this)
                                              have hB2 := fun W (hW : Below w11.heap.size w11 W) => (show Calls Tryz.prog 34 #[.slice ra Q.length rc, .slice aa AL.length ac] W fun e w' => e = .returned (.bool true) ∧ ∃ n, w' = W.drewN n from by
                                                obtain ⟨x1, x2, e1, r1, c1⟩ := HRa11.out.row.read
                                                cases e1
                                                obtain ⟨y1, y2, e2, r2, c2⟩ := HRr11.out.row.read
                                                rw [hlQ] at e2 c2
                                                cases e2
                                                have := begins_any ra aa rc ac (Q.map mkB) AL W (r2.keeps hW) (r1.keeps hW) c1 (by omega) hQA
                                                rw [hlQ] at this
                                                exact this)
                                              have hLn := fun W (hW : Below w11.heap.size w11 W) => slen_any lb2 db _ W (HIn11.out.log.keeps hW HIn11.out.log.1)
                                              rw [show (logOf Q).many = Q.length from rfl] at hLn
                                              have HB1 := Lib.hid hB1
                                              have HB2 := Lib.hid hB2
                                              have HLn := Lib.hid hLn
                                              clear hB1 hB2 hLn hNQ hQA hlQ hNl hAl hAl2
                                              go_wp2_with fail
                                              refine (HB1.out w11 (Below.refl _ _)).mono ?_
                                              rintro e w12 ⟨rfl, n12, rfl⟩
                                              have hb12 := belowDrew (Below.refl w11.heap.size w11) n12
                                              generalize w11.drewN n12 = w12 at *
                                              go_wp2_with fail
                                              refine (HB2.out w12 hb12).mono ?_
                                              rintro e w13 ⟨rfl, n13, rfl⟩
                                              have hb13 := belowDrew hb12 n13
                                              generalize w12.drewN n13 = w13 at *
                                              clear hb12
                                              go_wp2_with fail
                                              refine (HLn.out w13 hb13).mono ?_
                                              rintro e w14 ⟨rfl, hw14⟩
                                              rw [hw14]
                                              clear hw14
                                              have HIn13 := Lib.hid (HIn11.out.keeps hb13)
                                              have HRr13 := Lib.hid (HRr11.out.step (Stp.of_below hb13))
                                              have HO3 := Lib.hid (open_still hSt9.out.mid (by decide))
                                              have hBS := hSt9.out.bnd
                                              clear hb13 HB1 HB2 HLn HIn11 HRr11 HRn11 HRa11
                                              have HBS := Lib.hid hBS
                                              clear hBS
                                              go_wp2_with fail
                                              refine (sopen_any HIn13.out.disk (Nat.le_trans HBS.out.now (by decide)) (Nat.le_trans HBS.out.acts (by decide)) ⟨w, rfl, HT.out, HIn13.out.below⟩ HIn13.out.old).mono ?_
                                              rintro e w15 hO
                                              obtain ⟨T15, po3, v15, hD15, hT15, hTu15, rfl, hl15⟩ := hO.one
                                              obtain ⟨lb3, rfl, _, _, _, hown15, _⟩ := hl15 _ HO3.out.1
                                              obtain ⟨hIn15, hs15⟩ := HIn13.out.opened hD15 hT15 hTu15
                                              have HIn15 := Lib.hid hIn15
                                              have HRr15 := Lib.hid (HRr13.out.step hs15)
                                              rw [HO3.out.2.1] at hown15
                                              obtain ⟨sa, sc, rfl, hrs15, _⟩ := hown15.read
                                              rw [HO3.out.2.2.1, List.length_map]
                                              have HTx : Hid (Calls Tryz.prog 25 #[.slice ra Q.length rc, .slice sa Q.length sc] w15 fun e w' => e = .returned (.bool true) ∧ ∃ n, w' = w15.drewN n) := Lib.hid (by
                                                have hlQ : (Q.map mkB).length = Q.length := List.length_map ..
                                                obtain ⟨y1, y2, e2, r2, c2⟩ := HRr15.out.row.read
                                                rw [hlQ] at e2
                                                cases e2
                                                have := stexts_any ra sa rc sc (Q.map mkB) (Q.map mkB) w15 (by rw [hlQ]; omega) r2 hrs15
                                                rw [hlQ, decide_eq_true rfl] at this
                                                exact this)
                                              have HSt15 := Lib.hid HO3.out.2.2.2.1
                                              clear hO hD15 hT15 hTu15 hl15 hIn15 hs15 hown15 hrs15 HRr13 HIn13
                                              generalize (openD d11).d = d15 at *
                                              go_wp2_with fail
                                              refine HTx.out.mono ?_
                                              rintro e w16 ⟨rfl, n16, rfl⟩
                                              have hb16 := belowDrew (Below.refl w15.heap.size w15) n16
                                              have HIn16 := Lib.hid (HIn15.out.keeps hb16)
                                              have HRr16 := Lib.hid (HRr15.out.step (Stp.of_below hb16))
                                              clear hb16 HIn15 HRr15 HTx
                                              go_wp2_with fail
                                              go_roundw
                                              case rel => exact ⟨k + 1, Q, d15, T15, lb2, by omega, by omega, by go_num, rfl, HIn16.out, HSt15, HRr16.out⟩
                                              case measure => simp [RowKit.intOf]; omega
      · as_aux_lemma =>
          have HA := Lib.hid (awake16_any wr (HT.out.keeps hIn.below))
          have HB := Lib.hid hIn.below
          have hnot : ¬ ((k : Int) < (puts.length : Int) ∧ (k : Int) < 40) := by omega
          rcases Nat.lt_or_ge k puts.length with hkp | hkp
          · have h1i : (k : Int) < (puts.length : Int) := by omega
            have h2i : ¬ ((k : Int) < 40) := by omega
            have h2d : decide ((k : Int) < 40) = false := decide_eq_false h2i
            clear hIn hRow hnot
            go_wp2_with fail
            refine HA.out.mono ?_
            rintro e w4 ⟨rfl, hb4⟩
            go_wp2_with fail
            go_ret
            exact ⟨rfl, HB.out.trans (hb4.mono HB.out.size)⟩
          · have h1i : ¬ ((k : Int) < (puts.length : Int)) := by omega
            have h1d : decide ((k : Int) < (puts.length : Int)) = false := decide_eq_false h1i
            clear hIn hRow hnot
            go_wp2_with fail
            refine HA.out.mono ?_
            rintro e w4 ⟨rfl, hb4⟩
            go_wp2_with fail
            go_ret
            exact ⟨rfl, HB.out.trans (hb4.mono HB.out.size)⟩
end Go.Proofs.YtgglheelhbfgiaaGreatDoor
