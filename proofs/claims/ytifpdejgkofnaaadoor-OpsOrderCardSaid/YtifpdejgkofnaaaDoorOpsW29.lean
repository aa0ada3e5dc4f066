import Derived.Test.YtifpdejgkofnaaaDoorSetsPure
import Derived.Test.YtifpdejgkofnaaaDoorOpsW28
import Derived.Test.YtifpdejgkofnaaaDoorOpsW24
import Derived.Test.YtifpdejgkofnaaaDoorPairs
import Derived.StillTailTactics
import Derived.Lib.QuietBelow
import Derived.IntWalk
namespace Go.Proofs.YtifpdejgkofnaaaDoor
open Go Go.RowKit Go.Lib

theorem few_all {l : List Opr} (h : fewO l = true) {x : Opr} (hx : x ∈ l) : x.name.size ≤ 100000 ∧ x.man.size ≤ 100000 := by
  simp only [fewO, Bool.and_eq_true, Bool.not_eq_true'] at h
  exact bigO_not2 (by simpa using List.any_eq_false.1 h.2 x hx)
def hasG (l : List Opr) (p : Pr) : Option Value := if hasO l p.1.1 p.1.2 then some (.bool true) else none
theorem hasG_none (p : Pr) : hasG [] p = none := rfl
theorem hasG_put {l : List Opr} {k : Nat} {y : Opr} (h : l[k]? = some y) (hp) (p : Pr) : hasG (l.take (k + 1)) p = putAt (hasG (l.take k)) (prOf y.who y.seq hp) (.bool true) p := by
  unfold hasG putAt
  rw [hasO_snoc h]
  by_cases e : p = prOf y.who y.seq hp
  · subst e
    rw [if_pos rfl, if_pos (by simp [prOf])]
  · rw [if_neg e]
    have : (y.who == p.1.1 && y.seq == p.1.2) = false := by
      rw [Bool.eq_false_iff]
      intro h2
      simp only [Bool.and_eq_true, beq_iff_eq] at h2
      exact e (Subtype.ext (Prod.ext h2.1.symm h2.2.symm))
    rw [this, Bool.or_false]
theorem hasG_yes {l : List Opr} {p : Pr} (h : hasO l p.1.1 p.1.2 = true) : (hasG l p).getD (.bool false) = .bool true := by
  unfold hasG
  rw [if_pos h]
  rfl

theorem zeroB29 (w : World) : (zeroValue 4).run Tryd.prog w = .ok (.bool false) w := by kernel_rfl
theorem prK : KeyOps Tryd.prog 47 Pr.val := prKeys (by kernel_rfl) (of_decide_eq_true (by kernel_rfl)) (of_decide_eq_true (by kernel_rfl)) Tryd.underlying47 Tryd.underlying3 (by kernel_rfl) (by kernel_rfl) (by kernel_rfl)
set_option maxRecDepth 100000 in
set_option maxHeartbeats 6400000 in
theorem law_opsSets (a : Option Addr) (cap : Nat) (l : List Opr) (w : World) (ha : RowsAt oprLay w a l) (_ : l.length ≤ cap) (hl : l.length ≤ 140737488351232) (_ : a = none → cap = 0) (_ : ∀ x ∈ l, -9223372036854775808 ≤ x.who) :
    Calls Tryd.prog 9 #[.slice a l.length cap] w fun e w' => e = .returned (.bool true) ∧ Below w.heap.size w w' := by
  have HA := Lib.hid awake06_any
  have HF := Lib.hid (few06_any a cap l w (by omega) ha)
  cases hf : fewO l with
  | false =>
    rw [hf] at HF
    clear hf ha
    go_enter Tryd.func9, Tryd.ntmps9
    go_wp2_with fail
    refine HF.out.mono ?_
    rintro e w1 ⟨rfl, rfl⟩
    go_wp2_with fail
    refine (HA.out _).mono ?_
    rintro e w5 ⟨rfl, hb5⟩
    go_wp2_with fail
    go_ret
    exact ⟨rfl, hb5⟩
  | true =>
    rw [hf] at HF
    by_cases hN : 100 < l.length
    · clear hf ha
      go_enter Tryd.func9, Tryd.ntmps9
      go_wp2_with fail
      refine HF.out.mono ?_
      rintro e w1 ⟨rfl, rfl⟩
      go_wp2_with fail
      refine (HA.out _).mono ?_
      rintro e w5 ⟨rfl, hb5⟩
      go_wp2_with fail
      go_ret
      exact ⟨rfl, hb5⟩
    have HR := Lib.hid ha
    have Hfw := Lib.hid hf
    clear hf ha
    go_enter Tryd.func9, Tryd.ntmps9
    go_wp2_with fail
    refine HF.out.mono ?_
    rintro e w1 ⟨rfl, rfl⟩
    go_wp2_with fail
    go_loopw [3, 4] (fun v i wr => ∃ k : Nat, k ≤ l.length ∧ i = .int .i64 k ∧ Below w1.heap.size w1 wr ∧ ∃ a' c', v = .slice a' (setO (l.take k)).length c' ∧ RowsAt oprLay wr a' (setO (l.take k)) ∧ (a' = none → c' = 0) ∧ (setO (l.take k)).length ≤ c') (fun _ i _ => l.length - (RowKit.intOf i).toNat)
    case atStart => exact ⟨0, Nat.zero_le _, rfl, Below.refl _ _, none, 0, rfl, RowsAt.nil _ _ _, fun _ => rfl, Nat.le_refl _⟩
    case round =>
      obtain ⟨k, hk, rfl, hb, a', c', rfl, hr, hn, hc⟩ := hrel
      by_cases hlt : k < l.length
      · obtain ⟨x, hx⟩ := at_some hlt
        obtain ⟨b, off, rfl, hbl, c0, c1, c2, c3, c4, c5, c6, c7, c8, c9, c10⟩ := opr_at (HR.out.keeps hb) hx
        have hsz := few_all Hfw.out (List.mem_of_getElem? hx)
        have hg := good_set (l.take k)
        rw [List.length_take] at hg
        have Hst := Lib.hid (show setO (l.take (k + 1)) = stepO (setO (l.take k)) x by rw [take_snoc hx, setO_snoc])
        have hgs := good_step (x := x) hg.1
        obtain ⟨g1, g2⟩ := hg
        have HAd := Lib.hid fun a cap W hn hc (h : RowsAt oprLay W a (setO (l.take k))) => add_any a cap (setO (l.take k)) x W (by omega) hsz.1 hsz.2 hn hc h
        generalize hs : setO (l.take k) = s at *
        have Hs := Lib.hid hs
        clear hx hs g1
        obtain ⟨hgd, hg1, hg2⟩ := hgs
        clear hgd
        have Hsp := Lib.hid (show stepO s x = if (addO s x).2 = 0 then (addO s x).1 else s from rfl)
        have Hlen := Lib.hid (show (addO s x).2 = 0 → s.length ≤ (addO s x).1.length ∧ (addO s x).1.length ≤ s.length + 1 by
          intro h0
          rw [Hsp.out, if_pos h0] at hg1 hg2
          exact ⟨hg1, hg2⟩)
        clear hg1 hg2
        generalize addO s x = ao at *
        obtain ⟨al, ae⟩ := ao
        dsimp only at HAd Hlen Hsp
        have hbx := hb.alloc hb.size (.cells #[.int .i64 x.cnt, .int .i64 x.who, .int .i64 x.seq, .int .i64 x.kind, .int .i64 x.nc, .int .i64 x.nw, .bool x.dir, .int .i64 x.pc, .int .i64 x.pw, .string x.name, .string x.man] 25)
        by_cases he : ae = 0
        · have hle := Hlen.out he
          subst he
          have Hsp2 := Lib.hid (Hsp.out.trans (if_pos rfl))
          have f1 : decide (al.length < s.length) = false := by simp; omega
          go_wp2_with fail
          refine (HAd.out a' c' _ hn hc hr).mono ?_
          rintro e w4 ⟨a4, c4, rfl, hr4, hn4, hc4, hb4⟩
          go_wp2_with fail
          go_roundw
          case rel => exact ⟨k + 1, by omega, by go_num, hb.trans (hb4.mono hb.size), a4, c4, by rw [Hst.out, Hsp2.out], by rw [Hst.out, Hsp2.out]; exact hr4, hn4, by rw [Hst.out, Hsp2.out]; exact hc4⟩
          case measure => simp [RowKit.intOf]; omega
        · have e1 : (ae == 0) = false := by simpa using he
          have Hsp2 := Lib.hid (Hsp.out.trans (if_neg he))
          go_wp2_with fail
          refine (HAd.out a' c' _ hn hc hr).mono ?_
          rintro e w4 ⟨a4, c4, rfl, hr4, hn4, hc4, hb4⟩
          go_wp2_with fail
          go_roundw
          case rel => exact ⟨k + 1, by omega, by go_num, hb.trans (hb4.mono hb.size), a', c', by rw [Hst.out, Hsp2.out], by rw [Hst.out, Hsp2.out]; exact hr.keeps hb4, hn, by rw [Hst.out, Hsp2.out]; exact hc⟩
          case measure => simp [RowKit.intOf]; omega
      · have hg := good_set l
        have hkl : k = l.length := by omega
        have Hmm := Lib.hid (fun x (h : x ∈ setO l) => few_all Hfw.out (set_mem h))
        rw [hkl, List.take_length] at hr hc
        rw [hkl, List.take_length]
        generalize setO l = s at *
        have hs100 : s.length ≤ 100 := by omega
        obtain ⟨hgd, hgl⟩ := hg
        have hvl : (vecO s).length ≤ 15 := by unfold vecO; rw [padO_len]; exact lenO_le s
        have hmm := @run_makeMap Tryd.prog
        go_wp2_with fail
        refine (vector_any a' c' s _ (by omega) hr).mono ?_
        rintro e w2 ⟨v2, rfl, ho2, hb2⟩
        obtain ⟨av, cv, rfl, hrv, hcv⟩ := ho2.read
        have hr2 := hr.keeps hb2
        have hB2 := hb.trans (hb2.mono hb.size)
        clear ho2 hb2 hr hb
        have HSl := Lib.hid hgd
        clear hgd
        go_wp2_with fail
        go_loopw [9] (fun i wr => ∃ k : Nat, k ≤ s.length ∧ i = .int .i64 k ∧ MapOf Pr.val wr w2.heap.size k (hasG (s.take k)) ∧ Below w2.heap.size w2 wr) (fun i _ => s.length - (RowKit.intOf i).toNat)
        case atStart => exact ⟨0, Nat.zero_le _, rfl, MapOf.made _, (Below.refl _ _).alloc (Nat.le_refl _) _⟩
        case round =>
          obtain ⟨k, hk, rfl, hm, hb⟩ := hrel
          by_cases hlt : k < s.length
          · obtain ⟨y, hy⟩ := at_some hlt
            obtain ⟨hyr, hyw1, hyw2, hys1, hys2⟩ := good_right HSl.out (List.mem_of_getElem? hy)
            have hsz := Hmm.out y (List.mem_of_getElem? hy)
            have HRi := Lib.hid fun W => oright_any y W hsz.1 hsz.2
            rw [hyr] at HRi
            have HY := Lib.hid hy
            obtain ⟨b, off, rfl, hbl, c0, c1, c2, c3, c4, c5, c6, c7, c8, c9, c10⟩ := opr_at (hr2.keeps hb) hy
            clear hy hyr
            have hkey : (-9223372036854775808 ≤ y.who ∧ y.who ≤ 9223372036854775807) ∧ -9223372036854775808 ≤ y.seq ∧ y.seq ≤ 9223372036854775807 := by omega
            have Hput := Lib.hid fun p => hasG_put HY.out hkey p
            have hi1 : (k : Int) < (s.length : Int) := by omega
            by_cases h0 : 0 < k
            · obtain ⟨j, hjk⟩ : ∃ j, k = j + 1 := ⟨k - 1, by omega⟩
              obtain ⟨z, hz⟩ := at_some (show j < s.length by omega)
              obtain ⟨_, _, he, _, e0, e1, _⟩ := opr_at (hr2.keeps hb) hz
              cases he
              have HL := Lib.hid fun W => cless_any z.cnt z.who y.cnt y.who W
              rw [good_lt HSl.out hz (by rw [← hjk]; exact HY.out)] at HL
              have d0 : decide ((0 : Int) < (k : Int)) = true := by simp; omega
              have d1 : IntKind.i64.wrap ((k : Int) - 1) = (j : Int) := by rw [IntWalk.i64_in _ (by omega)]; omega
              have d2 : (k : Int) - 1 = (j : Int) := by omega
              have d3 : (j : Int) < (s.length : Int) := by omega
              have r0 := cell_regrown e0
              have r1 := cell_regrown e1
              have q0 := cell_regrown c0
              have q1 := cell_regrown c1
              have q2 := cell_regrown c2
              have q3 := cell_regrown c3
              have q4 := cell_regrown c4
              have q5 := cell_regrown c5
              have q6 := cell_regrown c6
              have q7 := cell_regrown c7
              have q8 := cell_regrown c8
              have q9 := cell_regrown c9
              have q10 := cell_regrown c10
              clear hz e0 e1 hjk
              go_wp2_with fail
              refine wp_region_quiet_below (by kernel_rfl) (by kernel_rfl) ?_
              repeat (go_big_quiet_step (first | exact Calls.regrown_of (HRi.out _) | exact Calls.regrown_of (HL.out _)))
              refine wpQuiet_nil ?_
              intro _ hw'
              obtain ⟨⟨dq, osq⟩, hw''⟩ := hw'
              subst hw''
              clear q0 q1 q2 q3 q4 q5 q6 q7 q8 q9 q10 r0 r1 d1 d2 d3 d0 c0 c1 c2 c3 c4 c5 c6 c7 c8 c9 c10
              have hbq := below_regrown wr dq osq
              generalize «Sort».grow (redrawn wr dq) osq = wq at *
              have hmq := hm.below hbq hm.lt
              have hb3 := hb.trans (hbq.mono hb.size)
              obtain ⟨_, _, he, _, c0, c1, c2, _⟩ := opr_at (hr2.keeps hb3) HY.out
              cases he
              clear hm hbq
              go_wp2_with fail
              have hraw : ∀ p, World.cell? { heap := wq.heap, tape := wq.tape, drawn := wq.drawn + 1, os := wq.os, output := wq.output } p = wq.cell? p := fun _ => rfl
              go_still_tail 13, (by kernel_rfl)
              change wpList _ _ _ _ _ wq.drew
              clear hraw
              go_wp2_with (at_mapUpdate; refine wpList_mapUpdate_of rfl _ _ _ 45 rfl 47 4 prK Tryd.underlying45 rfl (hmq.of_block rfl) (prOf y.who y.seq hkey) rfl _ rfl ?_)
              intro wz hmz hgz
              have hbz := hb3.drew.grown hgz (by simpa using hb3.size) (fun j ej => by cases ej; exact Nat.le_refl _)
              clear hgz c0 c1 c2
              go_wp2_with fail
              go_roundw
              case rel => exact ⟨k + 1, by omega, by go_num, hmz.congr Hput.out, hbz⟩
              case measure => simp [RowKit.intOf]; omega
            · obtain rfl : k = 0 := by omega
              have d0 : decide ((0 : Int) < ((0 : Nat) : Int)) = false := rfl
              simp only [Nat.zero_mul, Nat.add_zero] at c0 c1 c2 c3 c4 c5 c6 c7 c8 c9 c10
              have q0 := cell_regrown c0
              have q1 := cell_regrown c1
              have q2 := cell_regrown c2
              have q3 := cell_regrown c3
              have q4 := cell_regrown c4
              have q5 := cell_regrown c5
              have q6 := cell_regrown c6
              have q7 := cell_regrown c7
              have q8 := cell_regrown c8
              have q9 := cell_regrown c9
              have q10 := cell_regrown c10
              go_wp2_with fail
              refine wp_region_quiet_below (by kernel_rfl) (by kernel_rfl) ?_
              repeat (go_big_quiet_step (exact Calls.regrown_of (HRi.out _)))
              refine wpQuiet_nil ?_
              intro _ hw'
              obtain ⟨⟨dq, osq⟩, hw''⟩ := hw'
              subst hw''
              clear q0 q1 q2 q3 q4 q5 q6 q7 q8 q9 q10 d0 c0 c1 c2 c3 c4 c5 c6 c7 c8 c9 c10
              have hbq := below_regrown wr dq osq
              generalize «Sort».grow (redrawn wr dq) osq = wq at *
              have hmq := hm.below hbq hm.lt
              have hb3 := hb.trans (hbq.mono hb.size)
              obtain ⟨_, _, he, _, c0, c1, c2, _⟩ := opr_at (hr2.keeps hb3) HY.out
              cases he
              clear hm hbq
              go_wp2_with fail
              have hraw : ∀ p, World.cell? { heap := wq.heap, tape := wq.tape, drawn := wq.drawn + 1, os := wq.os, output := wq.output } p = wq.cell? p := fun _ => rfl
              go_still_tail 13, (by kernel_rfl)
              change wpList _ _ _ _ _ wq.drew
              clear hraw
              go_wp2_with (at_mapUpdate; refine wpList_mapUpdate_of rfl _ _ _ 45 rfl 47 4 prK Tryd.underlying45 rfl (hmq.of_block rfl) (prOf y.who y.seq hkey) rfl _ rfl ?_)
              intro wz hmz hgz
              have hbz := hb3.drew.grown hgz (by simpa using hb3.size) (fun j ej => by cases ej; exact Nat.le_refl _)
              clear hgz c0 c1 c2
              go_wp2_with fail
              go_roundw
              case rel => exact ⟨0 + 1, by omega, by go_num, hmz.congr Hput.out, hbz⟩
              case measure => simp [RowKit.intOf]; omega
          · obtain rfl : k = s.length := by omega
            rw [List.take_length] at hm
            have hr3 := hr2.keeps hb
            have hrv3 := hrv.keeps hb
            have hB3 := hB2.trans (hb.mono hB2.size)
            have Hvl := Lib.hid hvl
            have Hlen := Lib.hid (show (vecO s).length = lenO s by unfold vecO; rw [padO_len])
            have Hall := Lib.hid (show sumO s (vecO s).length = (s.length : Int) by rw [Hlen.out]; exact sumO_all (good_valid HSl.out))
            have HS1 := Lib.hid (fun W (h : RowsAt oprLay W a' s) (h2 : RowsAt numLay W av (vecO s)) => since_any a' av c' cv s (vecO s) W (by omega) (by omega) h h2)
            rw [since_none HSl.out] at HS1
            have HS2 : Hid (∀ W, RowsAt oprLay W a' s → Calls Tryd.prog 24 #[.slice a' s.length c', .slice none 0 0] W fun e w' => ∃ u, e = .returned u ∧ OwnRows oprLay w' W.heap.size 25 u s ∧ Below W.heap.size W w') := Lib.hid (fun W h => by
              have := since_any a' none c' 0 s [] W (by omega) (by simp) h (RowsAt.nil _ _ _)
              rw [since_all HSl.out] at this
              exact this)
            clear hr2 hrv hB2 hb
            go_wp2_with fail
            go_loop [10, 11] (fun n i => ∃ j : Nat, j ≤ (vecO s).length ∧ i = .int .i64 j ∧ n = .int .i64 (sumO s j)) (fun _ i => (vecO s).length - (RowKit.intOf i).toNat)
            case atStart => exact ⟨0, Nat.zero_le _, rfl, by rw [sumO_zero (good_valid HSl.out)]⟩
            case round =>
              obtain ⟨j, hj, rfl, rfl⟩ := hrel
              by_cases hlt : j < (vecO s).length
              · obtain ⟨b1, o1, rfl, hb1, c0⟩ := num_at hrv3 (show (vecO s)[j]? = some (cntO s j) from padO_get (by rw [← Hlen.out]; exact hlt))
                have hs1 := sumO_le s j
                have hc1 := cntO_le s j
                have Hnx := Lib.hid (sumO_next s j)
                have Hhas := Lib.hid (fun k (h1 : 1 ≤ k) (h2 : k ≤ cntO s j) => hasO_all HSl.out (w := j) h1 h2)
                generalize cntO s j = cj at *
                generalize hsj : sumO s j = sj at *
                clear hsj
                go_wp2_with fail
                go_loop [10, 12] (fun n i => ∃ q : Nat, (q : Int) ≤ cj ∧ i = .int .i64 ((q : Int) + 1) ∧ n = .int .i64 (sj + q)) (fun _ i => (cj + 1 - RowKit.intOf i).toNat)
                case atStart => exact ⟨0, hc1.1, rfl, by simp⟩
                case round =>
                  obtain ⟨q, hq, rfl, rfl⟩ := hrel
                  by_cases hq1 : (q : Int) + 1 ≤ cj
                  · have hkk : (-9223372036854775808 ≤ (j : Int) ∧ (j : Int) ≤ 9223372036854775807) ∧ -9223372036854775808 ≤ (q : Int) + 1 ∧ (q : Int) + 1 ≤ 9223372036854775807 := by have := Hvl.out; omega
                    have hy := hasG_yes (l := s) (p := prOf j (q + 1) hkk) (Hhas.out ((q : Int) + 1) (by omega) hq1)
                    have hlk : (Instr.lookup 45 (.map (some w2.heap.size)) (.agg #[.int .i64 (j : Int), .int .i64 ((q : Int) + 1)]) false).run Tryd.prog wr = .ok (.bool true) wr := by
                      have := hm.lookup prK Tryd.underlying45 (prOf j (q + 1) hkk) (zeroB29 wr)
                      rw [hy] at this
                      exact this
                    clear hy
                    go_wp2_with fail
                    go_round
                    case rel => exact ⟨q + 1, by omega, by go_num, by go_num⟩
                    case measure => simp [RowKit.intOf]; omega
                  · have hqe : (q : Int) = cj := by omega
                    have Hqe := Lib.hid hqe
                    clear hqe
                    go_wp2_with fail
                    go_round
                    case rel => exact ⟨j + 1, by omega, by go_num, by rw [Hnx.out, Hqe.out]⟩
                    case measure => simp [RowKit.intOf]; omega
              · obtain rfl : j = (vecO s).length := by omega
                rw [Hall.out]
                go_wp2_with fail
                refine (HS1.out _ hr3 hrv3).mono ?_
                rintro e w4 ⟨u4, rfl, ho4, hb4⟩
                obtain ⟨a4, c4, rfl, _, _⟩ := ho4.read
                go_wp2_with fail
                refine (HS2.out _ (hr3.keeps hb4)).mono ?_
                rintro e w5 ⟨u5', rfl, ho5, hb5⟩
                obtain ⟨a5, c5, rfl, hr5, _⟩ := ho5.read
                have HO := Lib.hid (oprs_any a5 a' c5 c' s s w5 (by omega) hr5 ((hr3.keeps hb4).keeps hb5))
                rw [decide_eq_true rfl] at HO
                have hB5 := (hB3.trans (hb4.mono hB3.size)).trans (hb5.mono (hB3.trans (hb4.mono hB3.size)).size)
                go_wp2_with fail
                refine HO.out.mono ?_
                rintro e w6 ⟨rfl, n6, rfl⟩
                have hB6 := belowDrew hB5 n6
                go_wp2_with fail
                refine (HA.out _).mono ?_
                rintro e w7 ⟨rfl, hb7⟩
                go_wp2_with fail
                go_ret
                exact ⟨rfl, hB6.trans (hb7.mono hB6.size)⟩
end Go.Proofs.YtifpdejgkofnaaaDoor
