/-
  The library's stable sort, walked: the merge as a whole.
-/
import Derived.Test.YtfbdbjookkogjaaDoorStabG
namespace Go.Proofs.YtfbdbjookkogjaaDoor
open Go Go.RowKit Go.Lib Go.Sort Go.Shelf Go.Proofs

theorem rot_id {d : Array Itm} {s m t : Nat} (h : s = m ∨ t = m) : Rot s m t d d := ⟨permIn_refl _ _ _, fun x => by
  unfold rotF
  rcases h with rfl | rfl
  · by_cases c : s ≤ x ∧ x < s + (t - s)
    · rw [if_pos c]
      congr 1
      omega
    · rw [if_neg c, if_neg (by omega)]
  · by_cases c : s + (t - t) ≤ x ∧ x < t
    · rw [if_neg (by omega), if_pos c]
      congr 1
      omega
    · rw [if_neg (by omega), if_neg c]⟩
set_option maxRecDepth 1000000 in
set_option maxHeartbeats 16000000 in
theorem sym_step (k6 : Nat) (h6 : k6 = 6) (cf : Itm → Itm → Int) (hO : SWO (ltOf cf)) (blk off cap a m b : Nat) (d0 d : Array Itm) (w0 w : World) (hcmp : CmpLays Tryd.prog 31 #[] Itm.cells k6 cf blk off d0.size w0) (R : RowK Itm.cells k6 w0 blk off d0) (hs : d0.size = d.size) (S : SWK Itm.cells k6 w0 blk off d w) (ham : a + 1 < m) (hmb : m + 1 < b) (hb : b ≤ d.size) (hsz : d.size < 4611686018427387904) (h1 : SortedIn (ltOf cf) a m d) (h2 : SortedIn (ltOf cf) m b d)
    (ih : ∀ (a' m' b' : Nat) (d' : Array Itm) (W : World), b' - a' < b - a → a' < m' → m' < b' → b' ≤ d'.size → d0.size = d'.size → SWK Itm.cells k6 w0 blk off d' W → SortedIn (ltOf cf) a' m' d' → SortedIn (ltOf cf) m' b' d' →
      Calls Tryd.prog 66 #[.slice (some ⟨blk, off, none⟩) d'.size cap, .int .i64 a', .int .i64 m', .int .i64 b', .func (.func 31) #[] #[]] W fun e w' => e = .returned (.tuple #[]) ∧ ∃ d2, PermIn a' b' d' d2 ∧ SortedIn (ltOf cf) a' b' d2 ∧ SWK Itm.cells k6 w0 blk off d2 w') :
    Calls Tryd.prog 66 #[.slice (some ⟨blk, off, none⟩) d.size cap, .int .i64 a, .int .i64 m, .int .i64 b, .func (.func 31) #[] #[]] w fun e w' => e = .returned (.tuple #[]) ∧ ∃ d', PermIn a b d d' ∧ SortedIn (ltOf cf) a b d' ∧ SWK Itm.cells k6 w0 blk off d' w' := by
  have aE := aggI
  have zE := sizeI h6
  have mixed : Tryd.prog.follows .mixedOrders = true := by kernel_rfl
  have S0 : Aside (SWK Itm.cells k6 w0 blk off d w) := S
  have HC := Lib.hid hcmp
  have H1 := Lib.hid h1
  have H2 := Lib.hid h2
  have H6 := Lib.hid h6
  have IH := Lib.hid ih
  have hq1 : (((m : Int) - (a : Int)) == 1) = false := by rw [beq_eq_false_iff_ne]; omega
  have hq2 : (((b : Int) - (m : Int)) == 1) = false := by rw [beq_eq_false_iff_ne]; omega
  clear h6 S hcmp h1 h2 ih
  have ih := IH.out
  replace ih : Aside _ := ih
  clear IH
  go_enter Tryd.func66, Tryd.ntmps66
  go_upto_region 25 with fail
  obtain ⟨mid, hmid⟩ : ∃ mid : Nat, mid = (a + b) / 2 := ⟨_, rfl⟩
  rw [show ((a : Int) + (b : Int)) / 2 = (mid : Int) by omega]
  have hmid1 : a < mid := by omega
  have hmid2 : mid < b := by omega
  have hmid3 : 2 * mid ≤ a + b := by omega
  have hmid4 : a + b ≤ 2 * mid + 1 := by omega
  clear hmid
  by_cases hmm : mid < m
  · have hg : (m : Int) > (mid : Int) := by omega
    go_wp2_with fail
    go_loopw [20, 21] (fun i j wr => ∃ (s r : Nat), i = .int .i64 s ∧ j = .int .i64 r ∧ Hid (Sought (ltOf cf) d (mid + m - 1) (mid + m - b) (mid) s r) ∧ mid + m - b ≤ s ∧ s ≤ r ∧ r ≤ mid ∧ Aside (SWK Itm.cells k6 w0 blk off d wr)) (fun i j _ => (RowKit.intOf j).toNat - (RowKit.intOf i).toNat)
    case atStart => exact ⟨mid + m - b, mid, by congr 1; omega, rfl, Lib.hid (Sought.start _ _ _ _ (by omega)), Nat.le_refl _, by omega, Nat.le_refl _, S0⟩
    case round =>
      clear S0
      obtain ⟨s, r, rfl, rfl, HS, hls, hsr, hrh, S1⟩ := hrel
      by_cases hlt : s < r
      · have hlti : (s : Int) < (r : Int) := by omega
        go_upto_region 35 with fail
        obtain ⟨c, hc⟩ : ∃ c : Nat, c = (s + r) / 2 := ⟨_, rfl⟩
        rw [show ((s : Int) + (r : Int)) / 2 = (c : Int) by omega]
        have hc1 : s ≤ c := by omega
        have hc2 : c < r := by omega
        clear hc
        have rp : IntKind.i64.wrap ((mid : Int) + (m : Int) - 1 - (c : Int)) = (mid : Int) + (m : Int) - 1 - (c : Int) := by rw [IntKind.wrap_i64]; omega
        have tp : ((mid : Int) + (m : Int) - 1 - (c : Int)).toNat = mid + m - 1 - c := by omega
        have pp : (0 : Int) ≤ (mid : Int) + (m : Int) - 1 - (c : Int) := by omega
        have lp : (mid : Int) + (m : Int) - 1 - (c : Int) < (d.size : Int) := by omega
        have pp2 : (c : Int) ≤ (mid : Int) + (m : Int) - 1 := by omega
        have pp3 : (c : Int) + 1 ≤ (mid : Int) + (m : Int) := by omega
        have pp4 : (c : Int) < (mid : Int) + (m : Int) := by omega
        have pp5 : mid + m - 1 - c < d.size := by omega
        have hci : (c : Int) < (d.size : Int) := by omega
        have hci0 : (0 : Int) ≤ (c : Int) := by omega
        obtain ⟨xi, hxi⟩ : ∃ q, d[mid + m - 1 - c]! = q := ⟨_, rfl⟩
        obtain ⟨xj, hxj⟩ : ∃ q, d[c]! = q := ⟨_, rfl⟩
        have li := fun n' os' => S1.out.ld R (by omega) Tryd.prog (mid + m - 1 - c) (by omega) n' os'
        have lj := fun n' os' => S1.out.ld R (by omega) Tryd.prog (c) (by omega) n' os'
        have hcg : ∀ n' os', Calls Tryd.prog 31 #[.agg (Itm.cells xi).toArray, .agg (Itm.cells xj).toArray] (grow (wr.drewN n') os') fun e w' => e = .returned (.int .i64 (cf xi xj)) ∧ ∃ q os'', w' = grow ((grow (wr.drewN n') os').drewN q) os'' := fun n' os' => by
          have := S1.out.cmp HC.out (by omega) xi xj n' os'
          rwa [Array.append_empty] at this
        rw [hxi] at li
        rw [hxj] at lj
        have Hxi := Lib.hid hxi
        have Hxj := Lib.hid hxj
        clear hxi hxj
        by_cases hlv : cf xi xj < 0
        · have e1 : ltOf cf d[mid + m - 1 - c]! d[c]! = true := by rw [Hxi.out, Hxj.out]; exact ltOf_t hlv
          have HS2 := Lib.hid (HS.out.down hO H1.out H2.out (show a ≤ mid + m - b by omega) (by omega) (by omega) (by omega) hc1 hc2 e1)
          have hlb : decide (cf xi xj < 0) = true := decide_eq_true hlv
          clear e1
          go_wp2_with fail
          go_quiet_grown (first | (go_at_call 31; refine Calls.grown_of (hcg _ _)))
          have S2 : Aside _ := S1.out.grown nq osq
          generalize grow (wr.drewN nq) osq = w2 at S2 ⊢
          clear hcg li lj S1 HS rp tp pp lp
          go_wp2_with fail
          go_roundw
          case rel => exact ⟨s, c, rfl, rfl, HS2, hls, hc1, by omega, S2⟩
          case measure => simp [RowKit.intOf]; omega
        · have e1 : ltOf cf d[mid + m - 1 - c]! d[c]! = false := by rw [Hxi.out, Hxj.out]; exact ltOf_f hlv
          have HS2 := Lib.hid (HS.out.up hO H1.out H2.out (show a ≤ mid + m - b by omega) (by omega) (by omega) (by omega) hc1 hc2 e1)
          have hlb : decide (cf xi xj < 0) = false := decide_eq_false hlv
          have hlc : (0 : Int) ≤ cf xi xj := by omega
          have hld : decide ((0 : Int) ≤ cf xi xj) = true := decide_eq_true hlc
          have hle : (!decide (cf xi xj < 0)) = true := by rw [hlb]; rfl
          clear e1
          go_wp2_with fail
          go_quiet_grown (first | (go_at_call 31; refine Calls.grown_of (hcg _ _)))
          have S2 : Aside _ := S1.out.grown nq osq
          generalize grow (wr.drewN nq) osq = w2 at S2 ⊢
          clear hcg li lj S1 HS rp tp pp lp
          go_wp2_with fail
          go_roundw
          case rel => exact ⟨c + 1, r, by go_num, rfl, HS2, by omega, by omega, hrh, S2⟩
          case measure => simp [RowKit.intOf]; omega
      · obtain rfl : s = r := by omega
        obtain ⟨t, ht⟩ : ∃ t : Nat, t = mid + m - s := ⟨_, rfl⟩
        have Hts := Lib.hid (show (t : Int) = (mid : Int) + (m : Int) - (s : Int) by omega)
        have hd0 := HS.out.done hO H1.out H2.out (show a ≤ mid + m - b by omega) (by omega) (by omega) (by omega) (by omega) (by omega) (by omega)
        rw [← ht] at hd0
        have HLH := Lib.hid hd0
        have has : a ≤ s := by omega
        clear hd0 HS
        by_cases hmt : s < m ∧ m < t
        · obtain ⟨hm1, hm2⟩ := hmt
          have b1 : (s : Int) < (m : Int) := by omega
          have b2 : (m : Int) < (mid : Int) + (m : Int) - (s : Int) := by omega
          have HRo := rotR_k k6 H6.out (.func (.func 31) #[] #[]) blk off cap s m t d0 d w0 wr R hs S1.out hm1 hm2 (by omega) hsz
          rw [Hts.out] at HRo
          replace HRo := Lib.hid HRo
          go_wp2_with fail
          refine HRo.out.mono ?_
          rintro e W3 ⟨rfl, d1, hr', S1'⟩
          have Hr := Lib.hid hr'
          have hsm : s ≤ m := by omega
          have hmt2 : m ≤ t := by omega
          clear S1 HRo hr'
          have S1 : Aside _ := S1'
          clear S1'
          obtain ⟨hp1', hp2', hp3', hp4', hp5'⟩ := rot_parts hO H1.out H2.out has (by omega) (by omega) (by omega) Hr.out HLH.out.1 HLH.out.2
          have HP1 := Lib.hid (permIn_mono _ _ _ _ _ _ has (show t ≤ b by omega) (by omega) Hr.out.perm)
          rw [show s + (t - m) = mid by omega] at hp2' hp3' hp5'
          have HA := Lib.hid hp1'
          have HAm := Lib.hid hp2'
          have HM := Lib.hid hp3'
          have HB := Lib.hid hp4'
          have HX := Lib.hid hp5'
          have hz1 : d1.size = d.size := Hr.out.perm.1
          clear hp1' hp2' hp3' hp4' hp5'
          by_cases hl1 : a < s ∧ s < mid
          · obtain ⟨hl2, hl3⟩ := hl1
            have q1 : (a : Int) < (s : Int) := by omega
            have q2 : (s : Int) < (mid : Int) := by omega
            have HI1 := ih.out a s mid d1 W3 (by omega) hl2 hl3 (by omega) (by omega) S1.out HA.out HAm.out
            rw [hz1] at HI1
            replace HI1 := Lib.hid HI1
            go_wp2_with fail
            all_goals
              refine HI1.out.mono ?_
              rintro e W4 ⟨rfl, d2, hp2, hs2, S3'⟩
              have S3 : Aside _ := S3'
              have HPa := Lib.hid hp2
              have HSa := Lib.hid hs2
              have hz2 : d2.size = d.size := hp2.1.trans hz1
              clear hp2 hs2 S3' S1 HI1
              by_cases hr1 : mid < t ∧ t < b
              · obtain ⟨hr2, hr3⟩ := hr1
                have r1 : (mid : Int) < (mid : Int) + (m : Int) - (s : Int) := by omega
                have r2 : (mid : Int) + (m : Int) - (s : Int) < (b : Int) := by omega
                have HI2 := ih.out mid t b d2 W4 (by omega) hr2 hr3 (by omega) (by omega) S3.out (fun i j hi hij hj => by rw [HPa.out.2.1 i (.inr (by omega)), HPa.out.2.1 j (.inr (by omega))]; exact HM.out i j hi hij hj) (fun i j hi hij hj => by rw [HPa.out.2.1 i (.inr (by omega)), HPa.out.2.1 j (.inr (by omega))]; exact HB.out i j hi hij hj)
                rw [Hts.out, hz2] at HI2
                replace HI2 := Lib.hid HI2
                go_wp2_with fail
                all_goals
                  refine HI2.out.mono ?_
                  rintro e w5 ⟨rfl, d3, hp3, hs3, S3'⟩
                  have S3 : Aside _ := S3'
                  have Hp3 := Lib.hid hp3
                  have Hs3 := Lib.hid hs3
                  clear hp3 hs3 S3' HI2
                  go_wp2_with fail
                  all_goals
                    go_end0
                    exact ⟨rfl, _, permIn_trans _ _ _ _ _ HP1.out (halves (by omega) (by omega) (by omega) HX.out HPa.out HSa.out Hp3.out Hs3.out).1, (halves (by omega) (by omega) (by omega) HX.out HPa.out HSa.out Hp3.out Hs3.out).2, S3.out⟩
              · have HS3 := Lib.hid (show SortedIn (ltOf cf) mid b d2 from by
                  have h1 : SortedIn (ltOf cf) mid t d2 := fun i j hi hij hj => by rw [HPa.out.2.1 i (.inr (by omega)), HPa.out.2.1 j (.inr (by omega))]; exact HM.out i j hi hij hj
                  have h2 : SortedIn (ltOf cf) t b d2 := fun i j hi hij hj => by rw [HPa.out.2.1 i (.inr (by omega)), HPa.out.2.1 j (.inr (by omega))]; exact HB.out i j hi hij hj
                  by_cases e : t = mid
                  · rw [e] at h2
                    exact h2
                  · have e2 : t = b := by omega
                    rw [e2] at h1
                    exact h1)
                by_cases hr2 : mid < t
                · have r1 : (mid : Int) < (mid : Int) + (m : Int) - (s : Int) := by omega
                  have r2 : ¬ (mid : Int) + (m : Int) - (s : Int) < (b : Int) := by omega
                  go_wp2_with fail
                  all_goals
                    go_end0
                    exact ⟨rfl, _, permIn_trans _ _ _ _ _ HP1.out (halves (by omega) (by omega) (by omega) HX.out HPa.out HSa.out (permIn_refl _ _ _) HS3.out).1, (halves (by omega) (by omega) (by omega) HX.out HPa.out HSa.out (permIn_refl _ _ _) HS3.out).2, S3.out⟩
                · have r1 : ¬ (mid : Int) < (mid : Int) + (m : Int) - (s : Int) := by omega
                  go_wp2_with fail
                  all_goals
                    go_end0
                    exact ⟨rfl, _, permIn_trans _ _ _ _ _ HP1.out (halves (by omega) (by omega) (by omega) HX.out HPa.out HSa.out (permIn_refl _ _ _) HS3.out).1, (halves (by omega) (by omega) (by omega) HX.out HPa.out HSa.out (permIn_refl _ _ _) HS3.out).2, S3.out⟩
          · have HSa := Lib.hid (show SortedIn (ltOf cf) a mid d1 from by
              by_cases e : s = a
              · have h3 := HAm.out
                rw [e] at h3
                exact h3
              · have e2 : s = mid := by omega
                have h3 := HA.out
                rw [e2] at h3
                exact h3)
            have HPa := Lib.hid (permIn_refl d1 a mid)
            obtain ⟨d2, hd2⟩ : ∃ d2, d2 = d1 := ⟨_, rfl⟩
            obtain ⟨W4, hW4⟩ : ∃ W4, W4 = W3 := ⟨_, rfl⟩
            have S3 : Aside (SWK Itm.cells k6 w0 blk off d2 W4) := by rw [hd2, hW4]; exact S1
            have hz2 : d2.size = d.size := by rw [hd2]; exact hz1
            replace HSa : Hid (SortedIn (ltOf cf) a mid d2) := by rw [hd2]; exact HSa
            replace HPa : Hid (PermIn a mid d1 d2) := by rw [hd2]; exact HPa
            rw [← hW4]
            clear S1 hd2 hW4
            by_cases hl2 : a < s
            · have q1 : (a : Int) < (s : Int) := by omega
              have q2 : ¬ (s : Int) < (mid : Int) := by omega
              by_cases hr1 : mid < t ∧ t < b
              · obtain ⟨hr2, hr3⟩ := hr1
                have r1 : (mid : Int) < (mid : Int) + (m : Int) - (s : Int) := by omega
                have r2 : (mid : Int) + (m : Int) - (s : Int) < (b : Int) := by omega
                have HI2 := ih.out mid t b d2 W4 (by omega) hr2 hr3 (by omega) (by omega) S3.out (fun i j hi hij hj => by rw [HPa.out.2.1 i (.inr (by omega)), HPa.out.2.1 j (.inr (by omega))]; exact HM.out i j hi hij hj) (fun i j hi hij hj => by rw [HPa.out.2.1 i (.inr (by omega)), HPa.out.2.1 j (.inr (by omega))]; exact HB.out i j hi hij hj)
                rw [Hts.out, hz2] at HI2
                replace HI2 := Lib.hid HI2
                go_wp2_with fail
                all_goals
                  refine HI2.out.mono ?_
                  rintro e w5 ⟨rfl, d3, hp3, hs3, S3'⟩
                  have S3 : Aside _ := S3'
                  have Hp3 := Lib.hid hp3
                  have Hs3 := Lib.hid hs3
                  clear hp3 hs3 S3' HI2
                  go_wp2_with fail
                  all_goals
                    go_end0
                    exact ⟨rfl, _, permIn_trans _ _ _ _ _ HP1.out (halves (by omega) (by omega) (by omega) HX.out HPa.out HSa.out Hp3.out Hs3.out).1, (halves (by omega) (by omega) (by omega) HX.out HPa.out HSa.out Hp3.out Hs3.out).2, S3.out⟩
              · have HS3 := Lib.hid (show SortedIn (ltOf cf) mid b d2 from by
                  have h1 : SortedIn (ltOf cf) mid t d2 := fun i j hi hij hj => by rw [HPa.out.2.1 i (.inr (by omega)), HPa.out.2.1 j (.inr (by omega))]; exact HM.out i j hi hij hj
                  have h2 : SortedIn (ltOf cf) t b d2 := fun i j hi hij hj => by rw [HPa.out.2.1 i (.inr (by omega)), HPa.out.2.1 j (.inr (by omega))]; exact HB.out i j hi hij hj
                  by_cases e : t = mid
                  · rw [e] at h2
                    exact h2
                  · have e2 : t = b := by omega
                    rw [e2] at h1
                    exact h1)
                by_cases hr2 : mid < t
                · have r1 : (mid : Int) < (mid : Int) + (m : Int) - (s : Int) := by omega
                  have r2 : ¬ (mid : Int) + (m : Int) - (s : Int) < (b : Int) := by omega
                  go_wp2_with fail
                  all_goals
                    go_end0
                    exact ⟨rfl, _, permIn_trans _ _ _ _ _ HP1.out (halves (by omega) (by omega) (by omega) HX.out HPa.out HSa.out (permIn_refl _ _ _) HS3.out).1, (halves (by omega) (by omega) (by omega) HX.out HPa.out HSa.out (permIn_refl _ _ _) HS3.out).2, S3.out⟩
                · have r1 : ¬ (mid : Int) < (mid : Int) + (m : Int) - (s : Int) := by omega
                  go_wp2_with fail
                  all_goals
                    go_end0
                    exact ⟨rfl, _, permIn_trans _ _ _ _ _ HP1.out (halves (by omega) (by omega) (by omega) HX.out HPa.out HSa.out (permIn_refl _ _ _) HS3.out).1, (halves (by omega) (by omega) (by omega) HX.out HPa.out HSa.out (permIn_refl _ _ _) HS3.out).2, S3.out⟩
            · have q1 : ¬ (a : Int) < (s : Int) := by omega
              by_cases hr1 : mid < t ∧ t < b
              · obtain ⟨hr2, hr3⟩ := hr1
                have r1 : (mid : Int) < (mid : Int) + (m : Int) - (s : Int) := by omega
                have r2 : (mid : Int) + (m : Int) - (s : Int) < (b : Int) := by omega
                have HI2 := ih.out mid t b d2 W4 (by omega) hr2 hr3 (by omega) (by omega) S3.out (fun i j hi hij hj => by rw [HPa.out.2.1 i (.inr (by omega)), HPa.out.2.1 j (.inr (by omega))]; exact HM.out i j hi hij hj) (fun i j hi hij hj => by rw [HPa.out.2.1 i (.inr (by omega)), HPa.out.2.1 j (.inr (by omega))]; exact HB.out i j hi hij hj)
                rw [Hts.out, hz2] at HI2
                replace HI2 := Lib.hid HI2
                go_wp2_with fail
                all_goals
                  refine HI2.out.mono ?_
                  rintro e w5 ⟨rfl, d3, hp3, hs3, S3'⟩
                  have S3 : Aside _ := S3'
                  have Hp3 := Lib.hid hp3
                  have Hs3 := Lib.hid hs3
                  clear hp3 hs3 S3' HI2
                  go_wp2_with fail
                  all_goals
                    go_end0
                    exact ⟨rfl, _, permIn_trans _ _ _ _ _ HP1.out (halves (by omega) (by omega) (by omega) HX.out HPa.out HSa.out Hp3.out Hs3.out).1, (halves (by omega) (by omega) (by omega) HX.out HPa.out HSa.out Hp3.out Hs3.out).2, S3.out⟩
              · have HS3 := Lib.hid (show SortedIn (ltOf cf) mid b d2 from by
                  have h1 : SortedIn (ltOf cf) mid t d2 := fun i j hi hij hj => by rw [HPa.out.2.1 i (.inr (by omega)), HPa.out.2.1 j (.inr (by omega))]; exact HM.out i j hi hij hj
                  have h2 : SortedIn (ltOf cf) t b d2 := fun i j hi hij hj => by rw [HPa.out.2.1 i (.inr (by omega)), HPa.out.2.1 j (.inr (by omega))]; exact HB.out i j hi hij hj
                  by_cases e : t = mid
                  · rw [e] at h2
                    exact h2
                  · have e2 : t = b := by omega
                    rw [e2] at h1
                    exact h1)
                by_cases hr2 : mid < t
                · have r1 : (mid : Int) < (mid : Int) + (m : Int) - (s : Int) := by omega
                  have r2 : ¬ (mid : Int) + (m : Int) - (s : Int) < (b : Int) := by omega
                  go_wp2_with fail
                  all_goals
                    go_end0
                    exact ⟨rfl, _, permIn_trans _ _ _ _ _ HP1.out (halves (by omega) (by omega) (by omega) HX.out HPa.out HSa.out (permIn_refl _ _ _) HS3.out).1, (halves (by omega) (by omega) (by omega) HX.out HPa.out HSa.out (permIn_refl _ _ _) HS3.out).2, S3.out⟩
                · have r1 : ¬ (mid : Int) < (mid : Int) + (m : Int) - (s : Int) := by omega
                  go_wp2_with fail
                  all_goals
                    go_end0
                    exact ⟨rfl, _, permIn_trans _ _ _ _ _ HP1.out (halves (by omega) (by omega) (by omega) HX.out HPa.out HSa.out (permIn_refl _ _ _) HS3.out).1, (halves (by omega) (by omega) (by omega) HX.out HPa.out HSa.out (permIn_refl _ _ _) HS3.out).2, S3.out⟩
        · have Hr := Lib.hid (show Rot s m t d d from rot_id (by omega))
          obtain ⟨d1, hd1⟩ : ∃ d1, d1 = d := ⟨_, rfl⟩
          obtain ⟨W3, hW3⟩ : ∃ W3, W3 = wr := ⟨_, rfl⟩
          have S1' : Aside (SWK Itm.cells k6 w0 blk off d1 W3) := by rw [hd1, hW3]; exact S1
          replace Hr : Hid (Rot s m t d d1) := by rw [hd1]; exact Hr
          rw [← hW3]
          clear S1 hd1 hW3
          have S1 : Aside _ := S1'
          clear S1'
          by_cases hm1 : s < m
          · have b1 : (s : Int) < (m : Int) := by omega
            have b2 : ¬ (m : Int) < (mid : Int) + (m : Int) - (s : Int) := by omega
            obtain ⟨hp1', hp2', hp3', hp4', hp5'⟩ := rot_parts hO H1.out H2.out has (by omega) (by omega) (by omega) Hr.out HLH.out.1 HLH.out.2
            have HP1 := Lib.hid (permIn_mono _ _ _ _ _ _ has (show t ≤ b by omega) (by omega) Hr.out.perm)
            rw [show s + (t - m) = mid by omega] at hp2' hp3' hp5'
            have HA := Lib.hid hp1'
            have HAm := Lib.hid hp2'
            have HM := Lib.hid hp3'
            have HB := Lib.hid hp4'
            have HX := Lib.hid hp5'
            have hz1 : d1.size = d.size := Hr.out.perm.1
            clear hp1' hp2' hp3' hp4' hp5'
            by_cases hl1 : a < s ∧ s < mid
            · obtain ⟨hl2, hl3⟩ := hl1
              have q1 : (a : Int) < (s : Int) := by omega
              have q2 : (s : Int) < (mid : Int) := by omega
              have HI1 := ih.out a s mid d1 W3 (by omega) hl2 hl3 (by omega) (by omega) S1.out HA.out HAm.out
              rw [hz1] at HI1
              replace HI1 := Lib.hid HI1
              go_wp2_with fail
              all_goals
                refine HI1.out.mono ?_
                rintro e W4 ⟨rfl, d2, hp2, hs2, S3'⟩
                have S3 : Aside _ := S3'
                have HPa := Lib.hid hp2
                have HSa := Lib.hid hs2
                have hz2 : d2.size = d.size := hp2.1.trans hz1
                clear hp2 hs2 S3' S1 HI1
                by_cases hr1 : mid < t ∧ t < b
                · obtain ⟨hr2, hr3⟩ := hr1
                  have r1 : (mid : Int) < (mid : Int) + (m : Int) - (s : Int) := by omega
                  have r2 : (mid : Int) + (m : Int) - (s : Int) < (b : Int) := by omega
                  have HI2 := ih.out mid t b d2 W4 (by omega) hr2 hr3 (by omega) (by omega) S3.out (fun i j hi hij hj => by rw [HPa.out.2.1 i (.inr (by omega)), HPa.out.2.1 j (.inr (by omega))]; exact HM.out i j hi hij hj) (fun i j hi hij hj => by rw [HPa.out.2.1 i (.inr (by omega)), HPa.out.2.1 j (.inr (by omega))]; exact HB.out i j hi hij hj)
                  rw [Hts.out, hz2] at HI2
                  replace HI2 := Lib.hid HI2
                  go_wp2_with fail
                  all_goals
                    refine HI2.out.mono ?_
                    rintro e w5 ⟨rfl, d3, hp3, hs3, S3'⟩
                    have S3 : Aside _ := S3'
                    have Hp3 := Lib.hid hp3
                    have Hs3 := Lib.hid hs3
                    clear hp3 hs3 S3' HI2
                    go_wp2_with fail
                    all_goals
                      go_end0
                      exact ⟨rfl, _, permIn_trans _ _ _ _ _ HP1.out (halves (by omega) (by omega) (by omega) HX.out HPa.out HSa.out Hp3.out Hs3.out).1, (halves (by omega) (by omega) (by omega) HX.out HPa.out HSa.out Hp3.out Hs3.out).2, S3.out⟩
                · have HS3 := Lib.hid (show SortedIn (ltOf cf) mid b d2 from by
                    have h1 : SortedIn (ltOf cf) mid t d2 := fun i j hi hij hj => by rw [HPa.out.2.1 i (.inr (by omega)), HPa.out.2.1 j (.inr (by omega))]; exact HM.out i j hi hij hj
                    have h2 : SortedIn (ltOf cf) t b d2 := fun i j hi hij hj => by rw [HPa.out.2.1 i (.inr (by omega)), HPa.out.2.1 j (.inr (by omega))]; exact HB.out i j hi hij hj
                    by_cases e : t = mid
                    · rw [e] at h2
                      exact h2
                    · have e2 : t = b := by omega
                      rw [e2] at h1
                      exact h1)
                  by_cases hr2 : mid < t
                  · have r1 : (mid : Int) < (mid : Int) + (m : Int) - (s : Int) := by omega
                    have r2 : ¬ (mid : Int) + (m : Int) - (s : Int) < (b : Int) := by omega
                    go_wp2_with fail
                    all_goals
                      go_end0
                      exact ⟨rfl, _, permIn_trans _ _ _ _ _ HP1.out (halves (by omega) (by omega) (by omega) HX.out HPa.out HSa.out (permIn_refl _ _ _) HS3.out).1, (halves (by omega) (by omega) (by omega) HX.out HPa.out HSa.out (permIn_refl _ _ _) HS3.out).2, S3.out⟩
                  · have r1 : ¬ (mid : Int) < (mid : Int) + (m : Int) - (s : Int) := by omega
                    go_wp2_with fail
                    all_goals
                      go_end0
                      exact ⟨rfl, _, permIn_trans _ _ _ _ _ HP1.out (halves (by omega) (by omega) (by omega) HX.out HPa.out HSa.out (permIn_refl _ _ _) HS3.out).1, (halves (by omega) (by omega) (by omega) HX.out HPa.out HSa.out (permIn_refl _ _ _) HS3.out).2, S3.out⟩
            · have HSa := Lib.hid (show SortedIn (ltOf cf) a mid d1 from by
                by_cases e : s = a
                · have h3 := HAm.out
                  rw [e] at h3
                  exact h3
                · have e2 : s = mid := by omega
                  have h3 := HA.out
                  rw [e2] at h3
                  exact h3)
              have HPa := Lib.hid (permIn_refl d1 a mid)
              obtain ⟨d2, hd2⟩ : ∃ d2, d2 = d1 := ⟨_, rfl⟩
              obtain ⟨W4, hW4⟩ : ∃ W4, W4 = W3 := ⟨_, rfl⟩
              have S3 : Aside (SWK Itm.cells k6 w0 blk off d2 W4) := by rw [hd2, hW4]; exact S1
              have hz2 : d2.size = d.size := by rw [hd2]; exact hz1
              replace HSa : Hid (SortedIn (ltOf cf) a mid d2) := by rw [hd2]; exact HSa
              replace HPa : Hid (PermIn a mid d1 d2) := by rw [hd2]; exact HPa
              rw [← hW4]
              clear S1 hd2 hW4
              by_cases hl2 : a < s
              · have q1 : (a : Int) < (s : Int) := by omega
                have q2 : ¬ (s : Int) < (mid : Int) := by omega
                by_cases hr1 : mid < t ∧ t < b
                · obtain ⟨hr2, hr3⟩ := hr1
                  have r1 : (mid : Int) < (mid : Int) + (m : Int) - (s : Int) := by omega
                  have r2 : (mid : Int) + (m : Int) - (s : Int) < (b : Int) := by omega
                  have HI2 := ih.out mid t b d2 W4 (by omega) hr2 hr3 (by omega) (by omega) S3.out (fun i j hi hij hj => by rw [HPa.out.2.1 i (.inr (by omega)), HPa.out.2.1 j (.inr (by omega))]; exact HM.out i j hi hij hj) (fun i j hi hij hj => by rw [HPa.out.2.1 i (.inr (by omega)), HPa.out.2.1 j (.inr (by omega))]; exact HB.out i j hi hij hj)
                  rw [Hts.out, hz2] at HI2
                  replace HI2 := Lib.hid HI2
                  go_wp2_with fail
                  all_goals
                    refine HI2.out.mono ?_
                    rintro e w5 ⟨rfl, d3, hp3, hs3, S3'⟩
                    have S3 : Aside _ := S3'
                    have Hp3 := Lib.hid hp3
                    have Hs3 := Lib.hid hs3
                    clear hp3 hs3 S3' HI2
                    go_wp2_with fail
                    all_goals
                      go_end0
                      exact ⟨rfl, _, permIn_trans _ _ _ _ _ HP1.out (halves (by omega) (by omega) (by omega) HX.out HPa.out HSa.out Hp3.out Hs3.out).1, (halves (by omega) (by omega) (by omega) HX.out HPa.out HSa.out Hp3.out Hs3.out).2, S3.out⟩
                · have HS3 := Lib.hid (show SortedIn (ltOf cf) mid b d2 from by
                    have h1 : SortedIn (ltOf cf) mid t d2 := fun i j hi hij hj => by rw [HPa.out.2.1 i (.inr (by omega)), HPa.out.2.1 j (.inr (by omega))]; exact HM.out i j hi hij hj
                    have h2 : SortedIn (ltOf cf) t b d2 := fun i j hi hij hj => by rw [HPa.out.2.1 i (.inr (by omega)), HPa.out.2.1 j (.inr (by omega))]; exact HB.out i j hi hij hj
                    by_cases e : t = mid
                    · rw [e] at h2
                      exact h2
                    · have e2 : t = b := by omega
                      rw [e2] at h1
                      exact h1)
                  by_cases hr2 : mid < t
                  · have r1 : (mid : Int) < (mid : Int) + (m : Int) - (s : Int) := by omega
                    have r2 : ¬ (mid : Int) + (m : Int) - (s : Int) < (b : Int) := by omega
                    go_wp2_with fail
                    all_goals
                      go_end0
                      exact ⟨rfl, _, permIn_trans _ _ _ _ _ HP1.out (halves (by omega) (by omega) (by omega) HX.out HPa.out HSa.out (permIn_refl _ _ _) HS3.out).1, (halves (by omega) (by omega) (by omega) HX.out HPa.out HSa.out (permIn_refl _ _ _) HS3.out).2, S3.out⟩
                  · have r1 : ¬ (mid : Int) < (mid : Int) + (m : Int) - (s : Int) := by omega
                    go_wp2_with fail
                    all_goals
                      go_end0
                      exact ⟨rfl, _, permIn_trans _ _ _ _ _ HP1.out (halves (by omega) (by omega) (by omega) HX.out HPa.out HSa.out (permIn_refl _ _ _) HS3.out).1, (halves (by omega) (by omega) (by omega) HX.out HPa.out HSa.out (permIn_refl _ _ _) HS3.out).2, S3.out⟩
              · have q1 : ¬ (a : Int) < (s : Int) := by omega
                by_cases hr1 : mid < t ∧ t < b
                · obtain ⟨hr2, hr3⟩ := hr1
                  have r1 : (mid : Int) < (mid : Int) + (m : Int) - (s : Int) := by omega
                  have r2 : (mid : Int) + (m : Int) - (s : Int) < (b : Int) := by omega
                  have HI2 := ih.out mid t b d2 W4 (by omega) hr2 hr3 (by omega) (by omega) S3.out (fun i j hi hij hj => by rw [HPa.out.2.1 i (.inr (by omega)), HPa.out.2.1 j (.inr (by omega))]; exact HM.out i j hi hij hj) (fun i j hi hij hj => by rw [HPa.out.2.1 i (.inr (by omega)), HPa.out.2.1 j (.inr (by omega))]; exact HB.out i j hi hij hj)
                  rw [Hts.out, hz2] at HI2
                  replace HI2 := Lib.hid HI2
                  go_wp2_with fail
                  all_goals
                    refine HI2.out.mono ?_
                    rintro e w5 ⟨rfl, d3, hp3, hs3, S3'⟩
                    have S3 : Aside _ := S3'
                    have Hp3 := Lib.hid hp3
                    have Hs3 := Lib.hid hs3
                    clear hp3 hs3 S3' HI2
                    go_wp2_with fail
                    all_goals
                      go_end0
                      exact ⟨rfl, _, permIn_trans _ _ _ _ _ HP1.out (halves (by omega) (by omega) (by omega) HX.out HPa.out HSa.out Hp3.out Hs3.out).1, (halves (by omega) (by omega) (by omega) HX.out HPa.out HSa.out Hp3.out Hs3.out).2, S3.out⟩
                · have HS3 := Lib.hid (show SortedIn (ltOf cf) mid b d2 from by
                    have h1 : SortedIn (ltOf cf) mid t d2 := fun i j hi hij hj => by rw [HPa.out.2.1 i (.inr (by omega)), HPa.out.2.1 j (.inr (by omega))]; exact HM.out i j hi hij hj
                    have h2 : SortedIn (ltOf cf) t b d2 := fun i j hi hij hj => by rw [HPa.out.2.1 i (.inr (by omega)), HPa.out.2.1 j (.inr (by omega))]; exact HB.out i j hi hij hj
                    by_cases e : t = mid
                    · rw [e] at h2
                      exact h2
                    · have e2 : t = b := by omega
                      rw [e2] at h1
                      exact h1)
                  by_cases hr2 : mid < t
                  · have r1 : (mid : Int) < (mid : Int) + (m : Int) - (s : Int) := by omega
                    have r2 : ¬ (mid : Int) + (m : Int) - (s : Int) < (b : Int) := by omega
                    go_wp2_with fail
                    all_goals
                      go_end0
                      exact ⟨rfl, _, permIn_trans _ _ _ _ _ HP1.out (halves (by omega) (by omega) (by omega) HX.out HPa.out HSa.out (permIn_refl _ _ _) HS3.out).1, (halves (by omega) (by omega) (by omega) HX.out HPa.out HSa.out (permIn_refl _ _ _) HS3.out).2, S3.out⟩
                  · have r1 : ¬ (mid : Int) < (mid : Int) + (m : Int) - (s : Int) := by omega
                    go_wp2_with fail
                    all_goals
                      go_end0
                      exact ⟨rfl, _, permIn_trans _ _ _ _ _ HP1.out (halves (by omega) (by omega) (by omega) HX.out HPa.out HSa.out (permIn_refl _ _ _) HS3.out).1, (halves (by omega) (by omega) (by omega) HX.out HPa.out HSa.out (permIn_refl _ _ _) HS3.out).2, S3.out⟩
          · have b1 : ¬ (s : Int) < (m : Int) := by omega
            obtain ⟨hp1', hp2', hp3', hp4', hp5'⟩ := rot_parts hO H1.out H2.out has (by omega) (by omega) (by omega) Hr.out HLH.out.1 HLH.out.2
            have HP1 := Lib.hid (permIn_mono _ _ _ _ _ _ has (show t ≤ b by omega) (by omega) Hr.out.perm)
            rw [show s + (t - m) = mid by omega] at hp2' hp3' hp5'
            have HA := Lib.hid hp1'
            have HAm := Lib.hid hp2'
            have HM := Lib.hid hp3'
            have HB := Lib.hid hp4'
            have HX := Lib.hid hp5'
            have hz1 : d1.size = d.size := Hr.out.perm.1
            clear hp1' hp2' hp3' hp4' hp5'
            by_cases hl1 : a < s ∧ s < mid
            · obtain ⟨hl2, hl3⟩ := hl1
              have q1 : (a : Int) < (s : Int) := by omega
              have q2 : (s : Int) < (mid : Int) := by omega
              have HI1 := ih.out a s mid d1 W3 (by omega) hl2 hl3 (by omega) (by omega) S1.out HA.out HAm.out
              rw [hz1] at HI1
              replace HI1 := Lib.hid HI1
              go_wp2_with fail
              all_goals
                refine HI1.out.mono ?_
                rintro e W4 ⟨rfl, d2, hp2, hs2, S3'⟩
                have S3 : Aside _ := S3'
                have HPa := Lib.hid hp2
                have HSa := Lib.hid hs2
                have hz2 : d2.size = d.size := hp2.1.trans hz1
                clear hp2 hs2 S3' S1 HI1
                by_cases hr1 : mid < t ∧ t < b
                · obtain ⟨hr2, hr3⟩ := hr1
                  have r1 : (mid : Int) < (mid : Int) + (m : Int) - (s : Int) := by omega
                  have r2 : (mid : Int) + (m : Int) - (s : Int) < (b : Int) := by omega
                  have HI2 := ih.out mid t b d2 W4 (by omega) hr2 hr3 (by omega) (by omega) S3.out (fun i j hi hij hj => by rw [HPa.out.2.1 i (.inr (by omega)), HPa.out.2.1 j (.inr (by omega))]; exact HM.out i j hi hij hj) (fun i j hi hij hj => by rw [HPa.out.2.1 i (.inr (by omega)), HPa.out.2.1 j (.inr (by omega))]; exact HB.out i j hi hij hj)
                  rw [Hts.out, hz2] at HI2
                  replace HI2 := Lib.hid HI2
                  go_wp2_with fail
                  all_goals
                    refine HI2.out.mono ?_
                    rintro e w5 ⟨rfl, d3, hp3, hs3, S3'⟩
                    have S3 : Aside _ := S3'
                    have Hp3 := Lib.hid hp3
                    have Hs3 := Lib.hid hs3
                    clear hp3 hs3 S3' HI2
                    go_wp2_with fail
                    all_goals
                      go_end0
                      exact ⟨rfl, _, permIn_trans _ _ _ _ _ HP1.out (halves (by omega) (by omega) (by omega) HX.out HPa.out HSa.out Hp3.out Hs3.out).1, (halves (by omega) (by omega) (by omega) HX.out HPa.out HSa.out Hp3.out Hs3.out).2, S3.out⟩
                · have HS3 := Lib.hid (show SortedIn (ltOf cf) mid b d2 from by
                    have h1 : SortedIn (ltOf cf) mid t d2 := fun i j hi hij hj => by rw [HPa.out.2.1 i (.inr (by omega)), HPa.out.2.1 j (.inr (by omega))]; exact HM.out i j hi hij hj
                    have h2 : SortedIn (ltOf cf) t b d2 := fun i j hi hij hj => by rw [HPa.out.2.1 i (.inr (by omega)), HPa.out.2.1 j (.inr (by omega))]; exact HB.out i j hi hij hj
                    by_cases e : t = mid
                    · rw [e] at h2
                      exact h2
                    · have e2 : t = b := by omega
                      rw [e2] at h1
                      exact h1)
                  by_cases hr2 : mid < t
                  · have r1 : (mid : Int) < (mid : Int) + (m : Int) - (s : Int) := by omega
                    have r2 : ¬ (mid : Int) + (m : Int) - (s : Int) < (b : Int) := by omega
                    go_wp2_with fail
                    all_goals
                      go_end0
                      exact ⟨rfl, _, permIn_trans _ _ _ _ _ HP1.out (halves (by omega) (by omega) (by omega) HX.out HPa.out HSa.out (permIn_refl _ _ _) HS3.out).1, (halves (by omega) (by omega) (by omega) HX.out HPa.out HSa.out (permIn_refl _ _ _) HS3.out).2, S3.out⟩
                  · have r1 : ¬ (mid : Int) < (mid : Int) + (m : Int) - (s : Int) := by omega
                    go_wp2_with fail
                    all_goals
                      go_end0
                      exact ⟨rfl, _, permIn_trans _ _ _ _ _ HP1.out (halves (by omega) (by omega) (by omega) HX.out HPa.out HSa.out (permIn_refl _ _ _) HS3.out).1, (halves (by omega) (by omega) (by omega) HX.out HPa.out HSa.out (permIn_refl _ _ _) HS3.out).2, S3.out⟩
            · have HSa := Lib.hid (show SortedIn (ltOf cf) a mid d1 from by
                by_cases e : s = a
                · have h3 := HAm.out
                  rw [e] at h3
                  exact h3
                · have e2 : s = mid := by omega
                  have h3 := HA.out
                  rw [e2] at h3
                  exact h3)
              have HPa := Lib.hid (permIn_refl d1 a mid)
              obtain ⟨d2, hd2⟩ : ∃ d2, d2 = d1 := ⟨_, rfl⟩
              obtain ⟨W4, hW4⟩ : ∃ W4, W4 = W3 := ⟨_, rfl⟩
              have S3 : Aside (SWK Itm.cells k6 w0 blk off d2 W4) := by rw [hd2, hW4]; exact S1
              have hz2 : d2.size = d.size := by rw [hd2]; exact hz1
              replace HSa : Hid (SortedIn (ltOf cf) a mid d2) := by rw [hd2]; exact HSa
              replace HPa : Hid (PermIn a mid d1 d2) := by rw [hd2]; exact HPa
              rw [← hW4]
              clear S1 hd2 hW4
              by_cases hl2 : a < s
              · have q1 : (a : Int) < (s : Int) := by omega
                have q2 : ¬ (s : Int) < (mid : Int) := by omega
                by_cases hr1 : mid < t ∧ t < b
                · obtain ⟨hr2, hr3⟩ := hr1
                  have r1 : (mid : Int) < (mid : Int) + (m : Int) - (s : Int) := by omega
                  have r2 : (mid : Int) + (m : Int) - (s : Int) < (b : Int) := by omega
                  have HI2 := ih.out mid t b d2 W4 (by omega) hr2 hr3 (by omega) (by omega) S3.out (fun i j hi hij hj => by rw [HPa.out.2.1 i (.inr (by omega)), HPa.out.2.1 j (.inr (by omega))]; exact HM.out i j hi hij hj) (fun i j hi hij hj => by rw [HPa.out.2.1 i (.inr (by omega)), HPa.out.2.1 j (.inr (by omega))]; exact HB.out i j hi hij hj)
                  rw [Hts.out, hz2] at HI2
                  replace HI2 := Lib.hid HI2
                  go_wp2_with fail
                  all_goals
                    refine HI2.out.mono ?_
                    rintro e w5 ⟨rfl, d3, hp3, hs3, S3'⟩
                    have S3 : Aside _ := S3'
                    have Hp3 := Lib.hid hp3
                    have Hs3 := Lib.hid hs3
                    clear hp3 hs3 S3' HI2
                    go_wp2_with fail
                    all_goals
                      go_end0
                      exact ⟨rfl, _, permIn_trans _ _ _ _ _ HP1.out (halves (by omega) (by omega) (by omega) HX.out HPa.out HSa.out Hp3.out Hs3.out).1, (halves (by omega) (by omega) (by omega) HX.out HPa.out HSa.out Hp3.out Hs3.out).2, S3.out⟩
                · have HS3 := Lib.hid (show SortedIn (ltOf cf) mid b d2 from by
                    have h1 : SortedIn (ltOf cf) mid t d2 := fun i j hi hij hj => by rw [HPa.out.2.1 i (.inr (by omega)), HPa.out.2.1 j (.inr (by omega))]; exact HM.out i j hi hij hj
                    have h2 : SortedIn (ltOf cf) t b d2 := fun i j hi hij hj => by rw [HPa.out.2.1 i (.inr (by omega)), HPa.out.2.1 j (.inr (by omega))]; exact HB.out i j hi hij hj
                    by_cases e : t = mid
                    · rw [e] at h2
                      exact h2
                    · have e2 : t = b := by omega
                      rw [e2] at h1
                      exact h1)
                  by_cases hr2 : mid < t
                  · have r1 : (mid : Int) < (mid : Int) + (m : Int) - (s : Int) := by omega
                    have r2 : ¬ (mid : Int) + (m : Int) - (s : Int) < (b : Int) := by omega
                    go_wp2_with fail
                    all_goals
                      go_end0
                      exact ⟨rfl, _, permIn_trans _ _ _ _ _ HP1.out (halves (by omega) (by omega) (by omega) HX.out HPa.out HSa.out (permIn_refl _ _ _) HS3.out).1, (halves (by omega) (by omega) (by omega) HX.out HPa.out HSa.out (permIn_refl _ _ _) HS3.out).2, S3.out⟩
                  · have r1 : ¬ (mid : Int) < (mid : Int) + (m : Int) - (s : Int) := by omega
                    go_wp2_with fail
                    all_goals
                      go_end0
                      exact ⟨rfl, _, permIn_trans _ _ _ _ _ HP1.out (halves (by omega) (by omega) (by omega) HX.out HPa.out HSa.out (permIn_refl _ _ _) HS3.out).1, (halves (by omega) (by omega) (by omega) HX.out HPa.out HSa.out (permIn_refl _ _ _) HS3.out).2, S3.out⟩
              · have q1 : ¬ (a : Int) < (s : Int) := by omega
                by_cases hr1 : mid < t ∧ t < b
                · obtain ⟨hr2, hr3⟩ := hr1
                  have r1 : (mid : Int) < (mid : Int) + (m : Int) - (s : Int) := by omega
                  have r2 : (mid : Int) + (m : Int) - (s : Int) < (b : Int) := by omega
                  have HI2 := ih.out mid t b d2 W4 (by omega) hr2 hr3 (by omega) (by omega) S3.out (fun i j hi hij hj => by rw [HPa.out.2.1 i (.inr (by omega)), HPa.out.2.1 j (.inr (by omega))]; exact HM.out i j hi hij hj) (fun i j hi hij hj => by rw [HPa.out.2.1 i (.inr (by omega)), HPa.out.2.1 j (.inr (by omega))]; exact HB.out i j hi hij hj)
                  rw [Hts.out, hz2] at HI2
                  replace HI2 := Lib.hid HI2
                  go_wp2_with fail
                  all_goals
                    refine HI2.out.mono ?_
                    rintro e w5 ⟨rfl, d3, hp3, hs3, S3'⟩
                    have S3 : Aside _ := S3'
                    have Hp3 := Lib.hid hp3
                    have Hs3 := Lib.hid hs3
                    clear hp3 hs3 S3' HI2
                    go_wp2_with fail
                    all_goals
                      go_end0
                      exact ⟨rfl, _, permIn_trans _ _ _ _ _ HP1.out (halves (by omega) (by omega) (by omega) HX.out HPa.out HSa.out Hp3.out Hs3.out).1, (halves (by omega) (by omega) (by omega) HX.out HPa.out HSa.out Hp3.out Hs3.out).2, S3.out⟩
                · have HS3 := Lib.hid (show SortedIn (ltOf cf) mid b d2 from by
                    have h1 : SortedIn (ltOf cf) mid t d2 := fun i j hi hij hj => by rw [HPa.out.2.1 i (.inr (by omega)), HPa.out.2.1 j (.inr (by omega))]; exact HM.out i j hi hij hj
                    have h2 : SortedIn (ltOf cf) t b d2 := fun i j hi hij hj => by rw [HPa.out.2.1 i (.inr (by omega)), HPa.out.2.1 j (.inr (by omega))]; exact HB.out i j hi hij hj
                    by_cases e : t = mid
                    · rw [e] at h2
                      exact h2
                    · have e2 : t = b := by omega
                      rw [e2] at h1
                      exact h1)
                  by_cases hr2 : mid < t
                  · have r1 : (mid : Int) < (mid : Int) + (m : Int) - (s : Int) := by omega
                    have r2 : ¬ (mid : Int) + (m : Int) - (s : Int) < (b : Int) := by omega
                    go_wp2_with fail
                    all_goals
                      go_end0
                      exact ⟨rfl, _, permIn_trans _ _ _ _ _ HP1.out (halves (by omega) (by omega) (by omega) HX.out HPa.out HSa.out (permIn_refl _ _ _) HS3.out).1, (halves (by omega) (by omega) (by omega) HX.out HPa.out HSa.out (permIn_refl _ _ _) HS3.out).2, S3.out⟩
                  · have r1 : ¬ (mid : Int) < (mid : Int) + (m : Int) - (s : Int) := by omega
                    go_wp2_with fail
                    all_goals
                      go_end0
                      exact ⟨rfl, _, permIn_trans _ _ _ _ _ HP1.out (halves (by omega) (by omega) (by omega) HX.out HPa.out HSa.out (permIn_refl _ _ _) HS3.out).1, (halves (by omega) (by omega) (by omega) HX.out HPa.out HSa.out (permIn_refl _ _ _) HS3.out).2, S3.out⟩
  · have hg : ¬ (m : Int) > (mid : Int) := by omega
    go_wp2_with fail
    go_loopw [20, 21] (fun i j wr => ∃ (s r : Nat), i = .int .i64 s ∧ j = .int .i64 r ∧ Hid (Sought (ltOf cf) d (mid + m - 1) (a) (m) s r) ∧ a ≤ s ∧ s ≤ r ∧ r ≤ m ∧ Aside (SWK Itm.cells k6 w0 blk off d wr)) (fun i j _ => (RowKit.intOf j).toNat - (RowKit.intOf i).toNat)
    case atStart => exact ⟨a, m, rfl, rfl, Lib.hid (Sought.start _ _ _ _ (by omega)), Nat.le_refl _, by omega, Nat.le_refl _, S0⟩
    case round =>
      clear S0
      obtain ⟨s, r, rfl, rfl, HS, hls, hsr, hrh, S1⟩ := hrel
      by_cases hlt : s < r
      · have hlti : (s : Int) < (r : Int) := by omega
        go_upto_region 35 with fail
        obtain ⟨c, hc⟩ : ∃ c : Nat, c = (s + r) / 2 := ⟨_, rfl⟩
        rw [show ((s : Int) + (r : Int)) / 2 = (c : Int) by omega]
        have hc1 : s ≤ c := by omega
        have hc2 : c < r := by omega
        clear hc
        have rp : IntKind.i64.wrap ((mid : Int) + (m : Int) - 1 - (c : Int)) = (mid : Int) + (m : Int) - 1 - (c : Int) := by rw [IntKind.wrap_i64]; omega
        have tp : ((mid : Int) + (m : Int) - 1 - (c : Int)).toNat = mid + m - 1 - c := by omega
        have pp : (0 : Int) ≤ (mid : Int) + (m : Int) - 1 - (c : Int) := by omega
        have lp : (mid : Int) + (m : Int) - 1 - (c : Int) < (d.size : Int) := by omega
        have pp2 : (c : Int) ≤ (mid : Int) + (m : Int) - 1 := by omega
        have pp3 : (c : Int) + 1 ≤ (mid : Int) + (m : Int) := by omega
        have pp4 : (c : Int) < (mid : Int) + (m : Int) := by omega
        have pp5 : mid + m - 1 - c < d.size := by omega
        have hci : (c : Int) < (d.size : Int) := by omega
        have hci0 : (0 : Int) ≤ (c : Int) := by omega
        obtain ⟨xi, hxi⟩ : ∃ q, d[mid + m - 1 - c]! = q := ⟨_, rfl⟩
        obtain ⟨xj, hxj⟩ : ∃ q, d[c]! = q := ⟨_, rfl⟩
        have li := fun n' os' => S1.out.ld R (by omega) Tryd.prog (mid + m - 1 - c) (by omega) n' os'
        have lj := fun n' os' => S1.out.ld R (by omega) Tryd.prog (c) (by omega) n' os'
        have hcg : ∀ n' os', Calls Tryd.prog 31 #[.agg (Itm.cells xi).toArray, .agg (Itm.cells xj).toArray] (grow (wr.drewN n') os') fun e w' => e = .returned (.int .i64 (cf xi xj)) ∧ ∃ q os'', w' = grow ((grow (wr.drewN n') os').drewN q) os'' := fun n' os' => by
          have := S1.out.cmp HC.out (by omega) xi xj n' os'
          rwa [Array.append_empty] at this
        rw [hxi] at li
        rw [hxj] at lj
        have Hxi := Lib.hid hxi
        have Hxj := Lib.hid hxj
        clear hxi hxj
        by_cases hlv : cf xi xj < 0
        · have e1 : ltOf cf d[mid + m - 1 - c]! d[c]! = true := by rw [Hxi.out, Hxj.out]; exact ltOf_t hlv
          have HS2 := Lib.hid (HS.out.down hO H1.out H2.out (show a ≤ a by omega) (by omega) (by omega) (by omega) hc1 hc2 e1)
          have hlb : decide (cf xi xj < 0) = true := decide_eq_true hlv
          clear e1
          go_wp2_with fail
          go_quiet_grown (first | (go_at_call 31; refine Calls.grown_of (hcg _ _)))
          have S2 : Aside _ := S1.out.grown nq osq
          generalize grow (wr.drewN nq) osq = w2 at S2 ⊢
          clear hcg li lj S1 HS rp tp pp lp
          go_wp2_with fail
          go_roundw
          case rel => exact ⟨s, c, rfl, rfl, HS2, hls, hc1, by omega, S2⟩
          case measure => simp [RowKit.intOf]; omega
        · have e1 : ltOf cf d[mid + m - 1 - c]! d[c]! = false := by rw [Hxi.out, Hxj.out]; exact ltOf_f hlv
          have HS2 := Lib.hid (HS.out.up hO H1.out H2.out (show a ≤ a by omega) (by omega) (by omega) (by omega) hc1 hc2 e1)
          have hlb : decide (cf xi xj < 0) = false := decide_eq_false hlv
          have hlc : (0 : Int) ≤ cf xi xj := by omega
          have hld : decide ((0 : Int) ≤ cf xi xj) = true := decide_eq_true hlc
          have hle : (!decide (cf xi xj < 0)) = true := by rw [hlb]; rfl
          clear e1
          go_wp2_with fail
          go_quiet_grown (first | (go_at_call 31; refine Calls.grown_of (hcg _ _)))
          have S2 : Aside _ := S1.out.grown nq osq
          generalize grow (wr.drewN nq) osq = w2 at S2 ⊢
          clear hcg li lj S1 HS rp tp pp lp
          go_wp2_with fail
          go_roundw
          case rel => exact ⟨c + 1, r, by go_num, rfl, HS2, by omega, by omega, hrh, S2⟩
          case measure => simp [RowKit.intOf]; omega
      · obtain rfl : s = r := by omega
        obtain ⟨t, ht⟩ : ∃ t : Nat, t = mid + m - s := ⟨_, rfl⟩
        have Hts := Lib.hid (show (t : Int) = (mid : Int) + (m : Int) - (s : Int) by omega)
        have hd0 := HS.out.done hO H1.out H2.out (show a ≤ a by omega) (by omega) (by omega) (by omega) (by omega) (by omega) (by omega)
        rw [← ht] at hd0
        have HLH := Lib.hid hd0
        have has : a ≤ s := by omega
        clear hd0 HS
        by_cases hmt : s < m ∧ m < t
        · obtain ⟨hm1, hm2⟩ := hmt
          have b1 : (s : Int) < (m : Int) := by omega
          have b2 : (m : Int) < (mid : Int) + (m : Int) - (s : Int) := by omega
          have HRo := rotR_k k6 H6.out (.func (.func 31) #[] #[]) blk off cap s m t d0 d w0 wr R hs S1.out hm1 hm2 (by omega) hsz
          rw [Hts.out] at HRo
          replace HRo := Lib.hid HRo
          go_wp2_with fail
          refine HRo.out.mono ?_
          rintro e W3 ⟨rfl, d1, hr', S1'⟩
          have Hr := Lib.hid hr'
          have hsm : s ≤ m := by omega
          have hmt2 : m ≤ t := by omega
          clear S1 HRo hr'
          have S1 : Aside _ := S1'
          clear S1'
          obtain ⟨hp1', hp2', hp3', hp4', hp5'⟩ := rot_parts hO H1.out H2.out has (by omega) (by omega) (by omega) Hr.out HLH.out.1 HLH.out.2
          have HP1 := Lib.hid (permIn_mono _ _ _ _ _ _ has (show t ≤ b by omega) (by omega) Hr.out.perm)
          rw [show s + (t - m) = mid by omega] at hp2' hp3' hp5'
          have HA := Lib.hid hp1'
          have HAm := Lib.hid hp2'
          have HM := Lib.hid hp3'
          have HB := Lib.hid hp4'
          have HX := Lib.hid hp5'
          have hz1 : d1.size = d.size := Hr.out.perm.1
          clear hp1' hp2' hp3' hp4' hp5'
          by_cases hl1 : a < s ∧ s < mid
          · obtain ⟨hl2, hl3⟩ := hl1
            have q1 : (a : Int) < (s : Int) := by omega
            have q2 : (s : Int) < (mid : Int) := by omega
            have HI1 := ih.out a s mid d1 W3 (by omega) hl2 hl3 (by omega) (by omega) S1.out HA.out HAm.out
            rw [hz1] at HI1
            replace HI1 := Lib.hid HI1
            go_wp2_with fail
            all_goals
              refine HI1.out.mono ?_
              rintro e W4 ⟨rfl, d2, hp2, hs2, S3'⟩
              have S3 : Aside _ := S3'
              have HPa := Lib.hid hp2
              have HSa := Lib.hid hs2
              have hz2 : d2.size = d.size := hp2.1.trans hz1
              clear hp2 hs2 S3' S1 HI1
              by_cases hr1 : mid < t ∧ t < b
              · obtain ⟨hr2, hr3⟩ := hr1
                have r1 : (mid : Int) < (mid : Int) + (m : Int) - (s : Int) := by omega
                have r2 : (mid : Int) + (m : Int) - (s : Int) < (b : Int) := by omega
                have HI2 := ih.out mid t b d2 W4 (by omega) hr2 hr3 (by omega) (by omega) S3.out (fun i j hi hij hj => by rw [HPa.out.2.1 i (.inr (by omega)), HPa.out.2.1 j (.inr (by omega))]; exact HM.out i j hi hij hj) (fun i j hi hij hj => by rw [HPa.out.2.1 i (.inr (by omega)), HPa.out.2.1 j (.inr (by omega))]; exact HB.out i j hi hij hj)
                rw [Hts.out, hz2] at HI2
                replace HI2 := Lib.hid HI2
                go_wp2_with fail
                all_goals
                  refine HI2.out.mono ?_
                  rintro e w5 ⟨rfl, d3, hp3, hs3, S3'⟩
                  have S3 : Aside _ := S3'
                  have Hp3 := Lib.hid hp3
                  have Hs3 := Lib.hid hs3
                  clear hp3 hs3 S3' HI2
                  go_wp2_with fail
                  all_goals
                    go_end0
                    exact ⟨rfl, _, permIn_trans _ _ _ _ _ HP1.out (halves (by omega) (by omega) (by omega) HX.out HPa.out HSa.out Hp3.out Hs3.out).1, (halves (by omega) (by omega) (by omega) HX.out HPa.out HSa.out Hp3.out Hs3.out).2, S3.out⟩
              · have HS3 := Lib.hid (show SortedIn (ltOf cf) mid b d2 from by
                  have h1 : SortedIn (ltOf cf) mid t d2 := fun i j hi hij hj => by rw [HPa.out.2.1 i (.inr (by omega)), HPa.out.2.1 j (.inr (by omega))]; exact HM.out i j hi hij hj
                  have h2 : SortedIn (ltOf cf) t b d2 := fun i j hi hij hj => by rw [HPa.out.2.1 i (.inr (by omega)), HPa.out.2.1 j (.inr (by omega))]; exact HB.out i j hi hij hj
                  by_cases e : t = mid
                  · rw [e] at h2
                    exact h2
                  · have e2 : t = b := by omega
                    rw [e2] at h1
                    exact h1)
                by_cases hr2 : mid < t
                · have r1 : (mid : Int) < (mid : Int) + (m : Int) - (s : Int) := by omega
                  have r2 : ¬ (mid : Int) + (m : Int) - (s : Int) < (b : Int) := by omega
                  go_wp2_with fail
                  all_goals
                    go_end0
                    exact ⟨rfl, _, permIn_trans _ _ _ _ _ HP1.out (halves (by omega) (by omega) (by omega) HX.out HPa.out HSa.out (permIn_refl _ _ _) HS3.out).1, (halves (by omega) (by omega) (by omega) HX.out HPa.out HSa.out (permIn_refl _ _ _) HS3.out).2, S3.out⟩
                · have r1 : ¬ (mid : Int) < (mid : Int) + (m : Int) - (s : Int) := by omega
                  go_wp2_with fail
                  all_goals
                    go_end0
                    exact ⟨rfl, _, permIn_trans _ _ _ _ _ HP1.out (halves (by omega) (by omega) (by omega) HX.out HPa.out HSa.out (permIn_refl _ _ _) HS3.out).1, (halves (by omega) (by omega) (by omega) HX.out HPa.out HSa.out (permIn_refl _ _ _) HS3.out).2, S3.out⟩
          · have HSa := Lib.hid (show SortedIn (ltOf cf) a mid d1 from by
              by_cases e : s = a
              · have h3 := HAm.out
                rw [e] at h3
                exact h3
              · have e2 : s = mid := by omega
                have h3 := HA.out
                rw [e2] at h3
                exact h3)
            have HPa := Lib.hid (permIn_refl d1 a mid)
            obtain ⟨d2, hd2⟩ : ∃ d2, d2 = d1 := ⟨_, rfl⟩
            obtain ⟨W4, hW4⟩ : ∃ W4, W4 = W3 := ⟨_, rfl⟩
            have S3 : Aside (SWK Itm.cells k6 w0 blk off d2 W4) := by rw [hd2, hW4]; exact S1
            have hz2 : d2.size = d.size := by rw [hd2]; exact hz1
            replace HSa : Hid (SortedIn (ltOf cf) a mid d2) := by rw [hd2]; exact HSa
            replace HPa : Hid (PermIn a mid d1 d2) := by rw [hd2]; exact HPa
            rw [← hW4]
            clear S1 hd2 hW4
            by_cases hl2 : a < s
            · have q1 : (a : Int) < (s : Int) := by omega
              have q2 : ¬ (s : Int) < (mid : Int) := by omega
              by_cases hr1 : mid < t ∧ t < b
              · obtain ⟨hr2, hr3⟩ := hr1
                have r1 : (mid : Int) < (mid : Int) + (m : Int) - (s : Int) := by omega
                have r2 : (mid : Int) + (m : Int) - (s : Int) < (b : Int) := by omega
                have HI2 := ih.out mid t b d2 W4 (by omega) hr2 hr3 (by omega) (by omega) S3.out (fun i j hi hij hj => by rw [HPa.out.2.1 i (.inr (by omega)), HPa.out.2.1 j (.inr (by omega))]; exact HM.out i j hi hij hj) (fun i j hi hij hj => by rw [HPa.out.2.1 i (.inr (by omega)), HPa.out.2.1 j (.inr (by omega))]; exact HB.out i j hi hij hj)
                rw [Hts.out, hz2] at HI2
                replace HI2 := Lib.hid HI2
                go_wp2_with fail
                all_goals
                  refine HI2.out.mono ?_
                  rintro e w5 ⟨rfl, d3, hp3, hs3, S3'⟩
                  have S3 : Aside _ := S3'
                  have Hp3 := Lib.hid hp3
                  have Hs3 := Lib.hid hs3
                  clear hp3 hs3 S3' HI2
                  go_wp2_with fail
                  all_goals
                    go_end0
                    exact ⟨rfl, _, permIn_trans _ _ _ _ _ HP1.out (halves (by omega) (by omega) (by omega) HX.out HPa.out HSa.out Hp3.out Hs3.out).1, (halves (by omega) (by omega) (by omega) HX.out HPa.out HSa.out Hp3.out Hs3.out).2, S3.out⟩
              · have HS3 := Lib.hid (show SortedIn (ltOf cf) mid b d2 from by
                  have h1 : SortedIn (ltOf cf) mid t d2 := fun i j hi hij hj => by rw [HPa.out.2.1 i (.inr (by omega)), HPa.out.2.1 j (.inr (by omega))]; exact HM.out i j hi hij hj
                  have h2 : SortedIn (ltOf cf) t b d2 := fun i j hi hij hj => by rw [HPa.out.2.1 i (.inr (by omega)), HPa.out.2.1 j (.inr (by omega))]; exact HB.out i j hi hij hj
                  by_cases e : t = mid
                  · rw [e] at h2
                    exact h2
                  · have e2 : t = b := by omega
                    rw [e2] at h1
                    exact h1)
                by_cases hr2 : mid < t
                · have r1 : (mid : Int) < (mid : Int) + (m : Int) - (s : Int) := by omega
                  have r2 : ¬ (mid : Int) + (m : Int) - (s : Int) < (b : Int) := by omega
                  go_wp2_with fail
                  all_goals
                    go_end0
                    exact ⟨rfl, _, permIn_trans _ _ _ _ _ HP1.out (halves (by omega) (by omega) (by omega) HX.out HPa.out HSa.out (permIn_refl _ _ _) HS3.out).1, (halves (by omega) (by omega) (by omega) HX.out HPa.out HSa.out (permIn_refl _ _ _) HS3.out).2, S3.out⟩
                · have r1 : ¬ (mid : Int) < (mid : Int) + (m : Int) - (s : Int) := by omega
                  go_wp2_with fail
                  all_goals
                    go_end0
                    exact ⟨rfl, _, permIn_trans _ _ _ _ _ HP1.out (halves (by omega) (by omega) (by omega) HX.out HPa.out HSa.out (permIn_refl _ _ _) HS3.out).1, (halves (by omega) (by omega) (by omega) HX.out HPa.out HSa.out (permIn_refl _ _ _) HS3.out).2, S3.out⟩
            · have q1 : ¬ (a : Int) < (s : Int) := by omega
              by_cases hr1 : mid < t ∧ t < b
              · obtain ⟨hr2, hr3⟩ := hr1
                have r1 : (mid : Int) < (mid : Int) + (m : Int) - (s : Int) := by omega
                have r2 : (mid : Int) + (m : Int) - (s : Int) < (b : Int) := by omega
                have HI2 := ih.out mid t b d2 W4 (by omega) hr2 hr3 (by omega) (by omega) S3.out (fun i j hi hij hj => by rw [HPa.out.2.1 i (.inr (by omega)), HPa.out.2.1 j (.inr (by omega))]; exact HM.out i j hi hij hj) (fun i j hi hij hj => by rw [HPa.out.2.1 i (.inr (by omega)), HPa.out.2.1 j (.inr (by omega))]; exact HB.out i j hi hij hj)
                rw [Hts.out, hz2] at HI2
                replace HI2 := Lib.hid HI2
                go_wp2_with fail
                all_goals
                  refine HI2.out.mono ?_
                  rintro e w5 ⟨rfl, d3, hp3, hs3, S3'⟩
                  have S3 : Aside _ := S3'
                  have Hp3 := Lib.hid hp3
                  have Hs3 := Lib.hid hs3
                  clear hp3 hs3 S3' HI2
                  go_wp2_with fail
                  all_goals
                    go_end0
                    exact ⟨rfl, _, permIn_trans _ _ _ _ _ HP1.out (halves (by omega) (by omega) (by omega) HX.out HPa.out HSa.out Hp3.out Hs3.out).1, (halves (by omega) (by omega) (by omega) HX.out HPa.out HSa.out Hp3.out Hs3.out).2, S3.out⟩
              · have HS3 := Lib.hid (show SortedIn (ltOf cf) mid b d2 from by
                  have h1 : SortedIn (ltOf cf) mid t d2 := fun i j hi hij hj => by rw [HPa.out.2.1 i (.inr (by omega)), HPa.out.2.1 j (.inr (by omega))]; exact HM.out i j hi hij hj
                  have h2 : SortedIn (ltOf cf) t b d2 := fun i j hi hij hj => by rw [HPa.out.2.1 i (.inr (by omega)), HPa.out.2.1 j (.inr (by omega))]; exact HB.out i j hi hij hj
                  by_cases e : t = mid
                  · rw [e] at h2
                    exact h2
                  · have e2 : t = b := by omega
                    rw [e2] at h1
                    exact h1)
                by_cases hr2 : mid < t
                · have r1 : (mid : Int) < (mid : Int) + (m : Int) - (s : Int) := by omega
                  have r2 : ¬ (mid : Int) + (m : Int) - (s : Int) < (b : Int) := by omega
                  go_wp2_with fail
                  all_goals
                    go_end0
                    exact ⟨rfl, _, permIn_trans _ _ _ _ _ HP1.out (halves (by omega) (by omega) (by omega) HX.out HPa.out HSa.out (permIn_refl _ _ _) HS3.out).1, (halves (by omega) (by omega) (by omega) HX.out HPa.out HSa.out (permIn_refl _ _ _) HS3.out).2, S3.out⟩
                · have r1 : ¬ (mid : Int) < (mid : Int) + (m : Int) - (s : Int) := by omega
                  go_wp2_with fail
                  all_goals
                    go_end0
                    exact ⟨rfl, _, permIn_trans _ _ _ _ _ HP1.out (halves (by omega) (by omega) (by omega) HX.out HPa.out HSa.out (permIn_refl _ _ _) HS3.out).1, (halves (by omega) (by omega) (by omega) HX.out HPa.out HSa.out (permIn_refl _ _ _) HS3.out).2, S3.out⟩
        · have Hr := Lib.hid (show Rot s m t d d from rot_id (by omega))
          obtain ⟨d1, hd1⟩ : ∃ d1, d1 = d := ⟨_, rfl⟩
          obtain ⟨W3, hW3⟩ : ∃ W3, W3 = wr := ⟨_, rfl⟩
          have S1' : Aside (SWK Itm.cells k6 w0 blk off d1 W3) := by rw [hd1, hW3]; exact S1
          replace Hr : Hid (Rot s m t d d1) := by rw [hd1]; exact Hr
          rw [← hW3]
          clear S1 hd1 hW3
          have S1 : Aside _ := S1'
          clear S1'
          by_cases hm1 : s < m
          · have b1 : (s : Int) < (m : Int) := by omega
            have b2 : ¬ (m : Int) < (mid : Int) + (m : Int) - (s : Int) := by omega
            obtain ⟨hp1', hp2', hp3', hp4', hp5'⟩ := rot_parts hO H1.out H2.out has (by omega) (by omega) (by omega) Hr.out HLH.out.1 HLH.out.2
            have HP1 := Lib.hid (permIn_mono _ _ _ _ _ _ has (show t ≤ b by omega) (by omega) Hr.out.perm)
            rw [show s + (t - m) = mid by omega] at hp2' hp3' hp5'
            have HA := Lib.hid hp1'
            have HAm := Lib.hid hp2'
            have HM := Lib.hid hp3'
            have HB := Lib.hid hp4'
            have HX := Lib.hid hp5'
            have hz1 : d1.size = d.size := Hr.out.perm.1
            clear hp1' hp2' hp3' hp4' hp5'
            by_cases hl1 : a < s ∧ s < mid
            · obtain ⟨hl2, hl3⟩ := hl1
              have q1 : (a : Int) < (s : Int) := by omega
              have q2 : (s : Int) < (mid : Int) := by omega
              have HI1 := ih.out a s mid d1 W3 (by omega) hl2 hl3 (by omega) (by omega) S1.out HA.out HAm.out
              rw [hz1] at HI1
              replace HI1 := Lib.hid HI1
              go_wp2_with fail
              all_goals
                refine HI1.out.mono ?_
                rintro e W4 ⟨rfl, d2, hp2, hs2, S3'⟩
                have S3 : Aside _ := S3'
                have HPa := Lib.hid hp2
                have HSa := Lib.hid hs2
                have hz2 : d2.size = d.size := hp2.1.trans hz1
                clear hp2 hs2 S3' S1 HI1
                by_cases hr1 : mid < t ∧ t < b
                · obtain ⟨hr2, hr3⟩ := hr1
                  have r1 : (mid : Int) < (mid : Int) + (m : Int) - (s : Int) := by omega
                  have r2 : (mid : Int) + (m : Int) - (s : Int) < (b : Int) := by omega
                  have HI2 := ih.out mid t b d2 W4 (by omega) hr2 hr3 (by omega) (by omega) S3.out (fun i j hi hij hj => by rw [HPa.out.2.1 i (.inr (by omega)), HPa.out.2.1 j (.inr (by omega))]; exact HM.out i j hi hij hj) (fun i j hi hij hj => by rw [HPa.out.2.1 i (.inr (by omega)), HPa.out.2.1 j (.inr (by omega))]; exact HB.out i j hi hij hj)
                  rw [Hts.out, hz2] at HI2
                  replace HI2 := Lib.hid HI2
                  go_wp2_with fail
                  all_goals
                    refine HI2.out.mono ?_
                    rintro e w5 ⟨rfl, d3, hp3, hs3, S3'⟩
                    have S3 : Aside _ := S3'
                    have Hp3 := Lib.hid hp3
                    have Hs3 := Lib.hid hs3
                    clear hp3 hs3 S3' HI2
                    go_wp2_with fail
                    all_goals
                      go_end0
                      exact ⟨rfl, _, permIn_trans _ _ _ _ _ HP1.out (halves (by omega) (by omega) (by omega) HX.out HPa.out HSa.out Hp3.out Hs3.out).1, (halves (by omega) (by omega) (by omega) HX.out HPa.out HSa.out Hp3.out Hs3.out).2, S3.out⟩
                · have HS3 := Lib.hid (show SortedIn (ltOf cf) mid b d2 from by
                    have h1 : SortedIn (ltOf cf) mid t d2 := fun i j hi hij hj => by rw [HPa.out.2.1 i (.inr (by omega)), HPa.out.2.1 j (.inr (by omega))]; exact HM.out i j hi hij hj
                    have h2 : SortedIn (ltOf cf) t b d2 := fun i j hi hij hj => by rw [HPa.out.2.1 i (.inr (by omega)), HPa.out.2.1 j (.inr (by omega))]; exact HB.out i j hi hij hj
                    by_cases e : t = mid
                    · rw [e] at h2
                      exact h2
                    · have e2 : t = b := by omega
                      rw [e2] at h1
                      exact h1)
                  by_cases hr2 : mid < t
                  · have r1 : (mid : Int) < (mid : Int) + (m : Int) - (s : Int) := by omega
                    have r2 : ¬ (mid : Int) + (m : Int) - (s : Int) < (b : Int) := by omega
                    go_wp2_with fail
                    all_goals
                      go_end0
                      exact ⟨rfl, _, permIn_trans _ _ _ _ _ HP1.out (halves (by omega) (by omega) (by omega) HX.out HPa.out HSa.out (permIn_refl _ _ _) HS3.out).1, (halves (by omega) (by omega) (by omega) HX.out HPa.out HSa.out (permIn_refl _ _ _) HS3.out).2, S3.out⟩
                  · have r1 : ¬ (mid : Int) < (mid : Int) + (m : Int) - (s : Int) := by omega
                    go_wp2_with fail
                    all_goals
                      go_end0
                      exact ⟨rfl, _, permIn_trans _ _ _ _ _ HP1.out (halves (by omega) (by omega) (by omega) HX.out HPa.out HSa.out (permIn_refl _ _ _) HS3.out).1, (halves (by omega) (by omega) (by omega) HX.out HPa.out HSa.out (permIn_refl _ _ _) HS3.out).2, S3.out⟩
            · have HSa := Lib.hid (show SortedIn (ltOf cf) a mid d1 from by
                by_cases e : s = a
                · have h3 := HAm.out
                  rw [e] at h3
                  exact h3
                · have e2 : s = mid := by omega
                  have h3 := HA.out
                  rw [e2] at h3
                  exact h3)
              have HPa := Lib.hid (permIn_refl d1 a mid)
              obtain ⟨d2, hd2⟩ : ∃ d2, d2 = d1 := ⟨_, rfl⟩
              obtain ⟨W4, hW4⟩ : ∃ W4, W4 = W3 := ⟨_, rfl⟩
              have S3 : Aside (SWK Itm.cells k6 w0 blk off d2 W4) := by rw [hd2, hW4]; exact S1
              have hz2 : d2.size = d.size := by rw [hd2]; exact hz1
              replace HSa : Hid (SortedIn (ltOf cf) a mid d2) := by rw [hd2]; exact HSa
              replace HPa : Hid (PermIn a mid d1 d2) := by rw [hd2]; exact HPa
              rw [← hW4]
              clear S1 hd2 hW4
              by_cases hl2 : a < s
              · have q1 : (a : Int) < (s : Int) := by omega
                have q2 : ¬ (s : Int) < (mid : Int) := by omega
                by_cases hr1 : mid < t ∧ t < b
                · obtain ⟨hr2, hr3⟩ := hr1
                  have r1 : (mid : Int) < (mid : Int) + (m : Int) - (s : Int) := by omega
                  have r2 : (mid : Int) + (m : Int) - (s : Int) < (b : Int) := by omega
                  have HI2 := ih.out mid t b d2 W4 (by omega) hr2 hr3 (by omega) (by omega) S3.out (fun i j hi hij hj => by rw [HPa.out.2.1 i (.inr (by omega)), HPa.out.2.1 j (.inr (by omega))]; exact HM.out i j hi hij hj) (fun i j hi hij hj => by rw [HPa.out.2.1 i (.inr (by omega)), HPa.out.2.1 j (.inr (by omega))]; exact HB.out i j hi hij hj)
                  rw [Hts.out, hz2] at HI2
                  replace HI2 := Lib.hid HI2
                  go_wp2_with fail
                  all_goals
                    refine HI2.out.mono ?_
                    rintro e w5 ⟨rfl, d3, hp3, hs3, S3'⟩
                    have S3 : Aside _ := S3'
                    have Hp3 := Lib.hid hp3
                    have Hs3 := Lib.hid hs3
                    clear hp3 hs3 S3' HI2
                    go_wp2_with fail
                    all_goals
                      go_end0
                      exact ⟨rfl, _, permIn_trans _ _ _ _ _ HP1.out (halves (by omega) (by omega) (by omega) HX.out HPa.out HSa.out Hp3.out Hs3.out).1, (halves (by omega) (by omega) (by omega) HX.out HPa.out HSa.out Hp3.out Hs3.out).2, S3.out⟩
                · have HS3 := Lib.hid (show SortedIn (ltOf cf) mid b d2 from by
                    have h1 : SortedIn (ltOf cf) mid t d2 := fun i j hi hij hj => by rw [HPa.out.2.1 i (.inr (by omega)), HPa.out.2.1 j (.inr (by omega))]; exact HM.out i j hi hij hj
                    have h2 : SortedIn (ltOf cf) t b d2 := fun i j hi hij hj => by rw [HPa.out.2.1 i (.inr (by omega)), HPa.out.2.1 j (.inr (by omega))]; exact HB.out i j hi hij hj
                    by_cases e : t = mid
                    · rw [e] at h2
                      exact h2
                    · have e2 : t = b := by omega
                      rw [e2] at h1
                      exact h1)
                  by_cases hr2 : mid < t
                  · have r1 : (mid : Int) < (mid : Int) + (m : Int) - (s : Int) := by omega
                    have r2 : ¬ (mid : Int) + (m : Int) - (s : Int) < (b : Int) := by omega
                    go_wp2_with fail
                    all_goals
                      go_end0
                      exact ⟨rfl, _, permIn_trans _ _ _ _ _ HP1.out (halves (by omega) (by omega) (by omega) HX.out HPa.out HSa.out (permIn_refl _ _ _) HS3.out).1, (halves (by omega) (by omega) (by omega) HX.out HPa.out HSa.out (permIn_refl _ _ _) HS3.out).2, S3.out⟩
                  · have r1 : ¬ (mid : Int) < (mid : Int) + (m : Int) - (s : Int) := by omega
                    go_wp2_with fail
                    all_goals
                      go_end0
                      exact ⟨rfl, _, permIn_trans _ _ _ _ _ HP1.out (halves (by omega) (by omega) (by omega) HX.out HPa.out HSa.out (permIn_refl _ _ _) HS3.out).1, (halves (by omega) (by omega) (by omega) HX.out HPa.out HSa.out (permIn_refl _ _ _) HS3.out).2, S3.out⟩
              · have q1 : ¬ (a : Int) < (s : Int) := by omega
                by_cases hr1 : mid < t ∧ t < b
                · obtain ⟨hr2, hr3⟩ := hr1
                  have r1 : (mid : Int) < (mid : Int) + (m : Int) - (s : Int) := by omega
                  have r2 : (mid : Int) + (m : Int) - (s : Int) < (b : Int) := by omega
                  have HI2 := ih.out mid t b d2 W4 (by omega) hr2 hr3 (by omega) (by omega) S3.out (fun i j hi hij hj => by rw [HPa.out.2.1 i (.inr (by omega)), HPa.out.2.1 j (.inr (by omega))]; exact HM.out i j hi hij hj) (fun i j hi hij hj => by rw [HPa.out.2.1 i (.inr (by omega)), HPa.out.2.1 j (.inr (by omega))]; exact HB.out i j hi hij hj)
                  rw [Hts.out, hz2] at HI2
                  replace HI2 := Lib.hid HI2
                  go_wp2_with fail
                  all_goals
                    refine HI2.out.mono ?_
                    rintro e w5 ⟨rfl, d3, hp3, hs3, S3'⟩
                    have S3 : Aside _ := S3'
                    have Hp3 := Lib.hid hp3
                    have Hs3 := Lib.hid hs3
                    clear hp3 hs3 S3' HI2
                    go_wp2_with fail
                    all_goals
                      go_end0
                      exact ⟨rfl, _, permIn_trans _ _ _ _ _ HP1.out (halves (by omega) (by omega) (by omega) HX.out HPa.out HSa.out Hp3.out Hs3.out).1, (halves (by omega) (by omega) (by omega) HX.out HPa.out HSa.out Hp3.out Hs3.out).2, S3.out⟩
                · have HS3 := Lib.hid (show SortedIn (ltOf cf) mid b d2 from by
                    have h1 : SortedIn (ltOf cf) mid t d2 := fun i j hi hij hj => by rw [HPa.out.2.1 i (.inr (by omega)), HPa.out.2.1 j (.inr (by omega))]; exact HM.out i j hi hij hj
                    have h2 : SortedIn (ltOf cf) t b d2 := fun i j hi hij hj => by rw [HPa.out.2.1 i (.inr (by omega)), HPa.out.2.1 j (.inr (by omega))]; exact HB.out i j hi hij hj
                    by_cases e : t = mid
                    · rw [e] at h2
                      exact h2
                    · have e2 : t = b := by omega
                      rw [e2] at h1
                      exact h1)
                  by_cases hr2 : mid < t
                  · have r1 : (mid : Int) < (mid : Int) + (m : Int) - (s : Int) := by omega
                    have r2 : ¬ (mid : Int) + (m : Int) - (s : Int) < (b : Int) := by omega
                    go_wp2_with fail
                    all_goals
                      go_end0
                      exact ⟨rfl, _, permIn_trans _ _ _ _ _ HP1.out (halves (by omega) (by omega) (by omega) HX.out HPa.out HSa.out (permIn_refl _ _ _) HS3.out).1, (halves (by omega) (by omega) (by omega) HX.out HPa.out HSa.out (permIn_refl _ _ _) HS3.out).2, S3.out⟩
                  · have r1 : ¬ (mid : Int) < (mid : Int) + (m : Int) - (s : Int) := by omega
                    go_wp2_with fail
                    all_goals
                      go_end0
                      exact ⟨rfl, _, permIn_trans _ _ _ _ _ HP1.out (halves (by omega) (by omega) (by omega) HX.out HPa.out HSa.out (permIn_refl _ _ _) HS3.out).1, (halves (by omega) (by omega) (by omega) HX.out HPa.out HSa.out (permIn_refl _ _ _) HS3.out).2, S3.out⟩
          · have b1 : ¬ (s : Int) < (m : Int) := by omega
            obtain ⟨hp1', hp2', hp3', hp4', hp5'⟩ := rot_parts hO H1.out H2.out has (by omega) (by omega) (by omega) Hr.out HLH.out.1 HLH.out.2
            have HP1 := Lib.hid (permIn_mono _ _ _ _ _ _ has (show t ≤ b by omega) (by omega) Hr.out.perm)
            rw [show s + (t - m) = mid by omega] at hp2' hp3' hp5'
            have HA := Lib.hid hp1'
            have HAm := Lib.hid hp2'
            have HM := Lib.hid hp3'
            have HB := Lib.hid hp4'
            have HX := Lib.hid hp5'
            have hz1 : d1.size = d.size := Hr.out.perm.1
            clear hp1' hp2' hp3' hp4' hp5'
            by_cases hl1 : a < s ∧ s < mid
            · obtain ⟨hl2, hl3⟩ := hl1
              have q1 : (a : Int) < (s : Int) := by omega
              have q2 : (s : Int) < (mid : Int) := by omega
              have HI1 := ih.out a s mid d1 W3 (by omega) hl2 hl3 (by omega) (by omega) S1.out HA.out HAm.out
              rw [hz1] at HI1
              replace HI1 := Lib.hid HI1
              go_wp2_with fail
              all_goals
                refine HI1.out.mono ?_
                rintro e W4 ⟨rfl, d2, hp2, hs2, S3'⟩
                have S3 : Aside _ := S3'
                have HPa := Lib.hid hp2
                have HSa := Lib.hid hs2
                have hz2 : d2.size = d.size := hp2.1.trans hz1
                clear hp2 hs2 S3' S1 HI1
                by_cases hr1 : mid < t ∧ t < b
                · obtain ⟨hr2, hr3⟩ := hr1
                  have r1 : (mid : Int) < (mid : Int) + (m : Int) - (s : Int) := by omega
                  have r2 : (mid : Int) + (m : Int) - (s : Int) < (b : Int) := by omega
                  have HI2 := ih.out mid t b d2 W4 (by omega) hr2 hr3 (by omega) (by omega) S3.out (fun i j hi hij hj => by rw [HPa.out.2.1 i (.inr (by omega)), HPa.out.2.1 j (.inr (by omega))]; exact HM.out i j hi hij hj) (fun i j hi hij hj => by rw [HPa.out.2.1 i (.inr (by omega)), HPa.out.2.1 j (.inr (by omega))]; exact HB.out i j hi hij hj)
                  rw [Hts.out, hz2] at HI2
                  replace HI2 := Lib.hid HI2
                  go_wp2_with fail
                  all_goals
                    refine HI2.out.mono ?_
                    rintro e w5 ⟨rfl, d3, hp3, hs3, S3'⟩
                    have S3 : Aside _ := S3'
                    have Hp3 := Lib.hid hp3
                    have Hs3 := Lib.hid hs3
                    clear hp3 hs3 S3' HI2
                    go_wp2_with fail
                    all_goals
                      go_end0
                      exact ⟨rfl, _, permIn_trans _ _ _ _ _ HP1.out (halves (by omega) (by omega) (by omega) HX.out HPa.out HSa.out Hp3.out Hs3.out).1, (halves (by omega) (by omega) (by omega) HX.out HPa.out HSa.out Hp3.out Hs3.out).2, S3.out⟩
                · have HS3 := Lib.hid (show SortedIn (ltOf cf) mid b d2 from by
                    have h1 : SortedIn (ltOf cf) mid t d2 := fun i j hi hij hj => by rw [HPa.out.2.1 i (.inr (by omega)), HPa.out.2.1 j (.inr (by omega))]; exact HM.out i j hi hij hj
                    have h2 : SortedIn (ltOf cf) t b d2 := fun i j hi hij hj => by rw [HPa.out.2.1 i (.inr (by omega)), HPa.out.2.1 j (.inr (by omega))]; exact HB.out i j hi hij hj
                    by_cases e : t = mid
                    · rw [e] at h2
                      exact h2
                    · have e2 : t = b := by omega
                      rw [e2] at h1
                      exact h1)
                  by_cases hr2 : mid < t
                  · have r1 : (mid : Int) < (mid : Int) + (m : Int) - (s : Int) := by omega
                    have r2 : ¬ (mid : Int) + (m : Int) - (s : Int) < (b : Int) := by omega
                    go_wp2_with fail
                    all_goals
                      go_end0
                      exact ⟨rfl, _, permIn_trans _ _ _ _ _ HP1.out (halves (by omega) (by omega) (by omega) HX.out HPa.out HSa.out (permIn_refl _ _ _) HS3.out).1, (halves (by omega) (by omega) (by omega) HX.out HPa.out HSa.out (permIn_refl _ _ _) HS3.out).2, S3.out⟩
                  · have r1 : ¬ (mid : Int) < (mid : Int) + (m : Int) - (s : Int) := by omega
                    go_wp2_with fail
                    all_goals
                      go_end0
                      exact ⟨rfl, _, permIn_trans _ _ _ _ _ HP1.out (halves (by omega) (by omega) (by omega) HX.out HPa.out HSa.out (permIn_refl _ _ _) HS3.out).1, (halves (by omega) (by omega) (by omega) HX.out HPa.out HSa.out (permIn_refl _ _ _) HS3.out).2, S3.out⟩
            · have HSa := Lib.hid (show SortedIn (ltOf cf) a mid d1 from by
                by_cases e : s = a
                · have h3 := HAm.out
                  rw [e] at h3
                  exact h3
                · have e2 : s = mid := by omega
                  have h3 := HA.out
                  rw [e2] at h3
                  exact h3)
              have HPa := Lib.hid (permIn_refl d1 a mid)
              obtain ⟨d2, hd2⟩ : ∃ d2, d2 = d1 := ⟨_, rfl⟩
              obtain ⟨W4, hW4⟩ : ∃ W4, W4 = W3 := ⟨_, rfl⟩
              have S3 : Aside (SWK Itm.cells k6 w0 blk off d2 W4) := by rw [hd2, hW4]; exact S1
              have hz2 : d2.size = d.size := by rw [hd2]; exact hz1
              replace HSa : Hid (SortedIn (ltOf cf) a mid d2) := by rw [hd2]; exact HSa
              replace HPa : Hid (PermIn a mid d1 d2) := by rw [hd2]; exact HPa
              rw [← hW4]
              clear S1 hd2 hW4
              by_cases hl2 : a < s
              · have q1 : (a : Int) < (s : Int) := by omega
                have q2 : ¬ (s : Int) < (mid : Int) := by omega
                by_cases hr1 : mid < t ∧ t < b
                · obtain ⟨hr2, hr3⟩ := hr1
                  have r1 : (mid : Int) < (mid : Int) + (m : Int) - (s : Int) := by omega
                  have r2 : (mid : Int) + (m : Int) - (s : Int) < (b : Int) := by omega
                  have HI2 := ih.out mid t b d2 W4 (by omega) hr2 hr3 (by omega) (by omega) S3.out (fun i j hi hij hj => by rw [HPa.out.2.1 i (.inr (by omega)), HPa.out.2.1 j (.inr (by omega))]; exact HM.out i j hi hij hj) (fun i j hi hij hj => by rw [HPa.out.2.1 i (.inr (by omega)), HPa.out.2.1 j (.inr (by omega))]; exact HB.out i j hi hij hj)
                  rw [Hts.out, hz2] at HI2
                  replace HI2 := Lib.hid HI2
                  go_wp2_with fail
                  all_goals
                    refine HI2.out.mono ?_
                    rintro e w5 ⟨rfl, d3, hp3, hs3, S3'⟩
                    have S3 : Aside _ := S3'
                    have Hp3 := Lib.hid hp3
                    have Hs3 := Lib.hid hs3
                    clear hp3 hs3 S3' HI2
                    go_wp2_with fail
                    all_goals
                      go_end0
                      exact ⟨rfl, _, permIn_trans _ _ _ _ _ HP1.out (halves (by omega) (by omega) (by omega) HX.out HPa.out HSa.out Hp3.out Hs3.out).1, (halves (by omega) (by omega) (by omega) HX.out HPa.out HSa.out Hp3.out Hs3.out).2, S3.out⟩
                · have HS3 := Lib.hid (show SortedIn (ltOf cf) mid b d2 from by
                    have h1 : SortedIn (ltOf cf) mid t d2 := fun i j hi hij hj => by rw [HPa.out.2.1 i (.inr (by omega)), HPa.out.2.1 j (.inr (by omega))]; exact HM.out i j hi hij hj
                    have h2 : SortedIn (ltOf cf) t b d2 := fun i j hi hij hj => by rw [HPa.out.2.1 i (.inr (by omega)), HPa.out.2.1 j (.inr (by omega))]; exact HB.out i j hi hij hj
                    by_cases e : t = mid
                    · rw [e] at h2
                      exact h2
                    · have e2 : t = b := by omega
                      rw [e2] at h1
                      exact h1)
                  by_cases hr2 : mid < t
                  · have r1 : (mid : Int) < (mid : Int) + (m : Int) - (s : Int) := by omega
                    have r2 : ¬ (mid : Int) + (m : Int) - (s : Int) < (b : Int) := by omega
                    go_wp2_with fail
                    all_goals
                      go_end0
                      exact ⟨rfl, _, permIn_trans _ _ _ _ _ HP1.out (halves (by omega) (by omega) (by omega) HX.out HPa.out HSa.out (permIn_refl _ _ _) HS3.out).1, (halves (by omega) (by omega) (by omega) HX.out HPa.out HSa.out (permIn_refl _ _ _) HS3.out).2, S3.out⟩
                  · have r1 : ¬ (mid : Int) < (mid : Int) + (m : Int) - (s : Int) := by omega
                    go_wp2_with fail
                    all_goals
                      go_end0
                      exact ⟨rfl, _, permIn_trans _ _ _ _ _ HP1.out (halves (by omega) (by omega) (by omega) HX.out HPa.out HSa.out (permIn_refl _ _ _) HS3.out).1, (halves (by omega) (by omega) (by omega) HX.out HPa.out HSa.out (permIn_refl _ _ _) HS3.out).2, S3.out⟩
              · have q1 : ¬ (a : Int) < (s : Int) := by omega
                by_cases hr1 : mid < t ∧ t < b
                · obtain ⟨hr2, hr3⟩ := hr1
                  have r1 : (mid : Int) < (mid : Int) + (m : Int) - (s : Int) := by omega
                  have r2 : (mid : Int) + (m : Int) - (s : Int) < (b : Int) := by omega
                  have HI2 := ih.out mid t b d2 W4 (by omega) hr2 hr3 (by omega) (by omega) S3.out (fun i j hi hij hj => by rw [HPa.out.2.1 i (.inr (by omega)), HPa.out.2.1 j (.inr (by omega))]; exact HM.out i j hi hij hj) (fun i j hi hij hj => by rw [HPa.out.2.1 i (.inr (by omega)), HPa.out.2.1 j (.inr (by omega))]; exact HB.out i j hi hij hj)
                  rw [Hts.out, hz2] at HI2
                  replace HI2 := Lib.hid HI2
                  go_wp2_with fail
                  all_goals
                    refine HI2.out.mono ?_
                    rintro e w5 ⟨rfl, d3, hp3, hs3, S3'⟩
                    have S3 : Aside _ := S3'
                    have Hp3 := Lib.hid hp3
                    have Hs3 := Lib.hid hs3
                    clear hp3 hs3 S3' HI2
                    go_wp2_with fail
                    all_goals
                      go_end0
                      exact ⟨rfl, _, permIn_trans _ _ _ _ _ HP1.out (halves (by omega) (by omega) (by omega) HX.out HPa.out HSa.out Hp3.out Hs3.out).1, (halves (by omega) (by omega) (by omega) HX.out HPa.out HSa.out Hp3.out Hs3.out).2, S3.out⟩
                · have HS3 := Lib.hid (show SortedIn (ltOf cf) mid b d2 from by
                    have h1 : SortedIn (ltOf cf) mid t d2 := fun i j hi hij hj => by rw [HPa.out.2.1 i (.inr (by omega)), HPa.out.2.1 j (.inr (by omega))]; exact HM.out i j hi hij hj
                    have h2 : SortedIn (ltOf cf) t b d2 := fun i j hi hij hj => by rw [HPa.out.2.1 i (.inr (by omega)), HPa.out.2.1 j (.inr (by omega))]; exact HB.out i j hi hij hj
                    by_cases e : t = mid
                    · rw [e] at h2
                      exact h2
                    · have e2 : t = b := by omega
                      rw [e2] at h1
                      exact h1)
                  by_cases hr2 : mid < t
                  · have r1 : (mid : Int) < (mid : Int) + (m : Int) - (s : Int) := by omega
                    have r2 : ¬ (mid : Int) + (m : Int) - (s : Int) < (b : Int) := by omega
                    go_wp2_with fail
                    all_goals
                      go_end0
                      exact ⟨rfl, _, permIn_trans _ _ _ _ _ HP1.out (halves (by omega) (by omega) (by omega) HX.out HPa.out HSa.out (permIn_refl _ _ _) HS3.out).1, (halves (by omega) (by omega) (by omega) HX.out HPa.out HSa.out (permIn_refl _ _ _) HS3.out).2, S3.out⟩
                  · have r1 : ¬ (mid : Int) < (mid : Int) + (m : Int) - (s : Int) := by omega
                    go_wp2_with fail
                    all_goals
                      go_end0
                      exact ⟨rfl, _, permIn_trans _ _ _ _ _ HP1.out (halves (by omega) (by omega) (by omega) HX.out HPa.out HSa.out (permIn_refl _ _ _) HS3.out).1, (halves (by omega) (by omega) (by omega) HX.out HPa.out HSa.out (permIn_refl _ _ _) HS3.out).2, S3.out⟩
end Go.Proofs.YtfbdbjookkogjaaDoor
