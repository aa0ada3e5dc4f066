import Derived.Test.YtalkckalbmaghaaDoorGlobW5
namespace Go.Proofs.YtalkckalbmaghaaDoor
open Go.RowKit Go.Lib

theorem splG_last (s : ByteArray) (c : UInt8) : ∀ k, k ≤ s.size → (splG s c k).2 = (Lib.lastIdx s c.toNat k + 1).toNat := by
  intro k
  induction k with
  | zero => intro _; rfl
  | succ k ih =>
    intro hk
    have hl : k < s.data.toList.length := by rw [← size_eq]; omega
    have hb : s.data[k]! = s.data.toList[k] := by
      rw [getElem!_pos s.data k (by simpa using hl)]
      simp
    by_cases hc : s.data.toList[k] = c
    · have h1 : s.data.toList[k]? = some c := by rw [List.getElem?_eq_getElem hl, hc]
      rw [splG, if_pos h1, Lib.lastIdx_hit s c.toNat k (by rw [hb, hc])]
      dsimp only
      omega
    · have h1 : ¬ s.data.toList[k]? = some c := by rw [List.getElem?_eq_getElem hl]; exact fun e => hc (Option.some.inj e)
      have h2 : ¬ ((s.data[k]!).toNat : Int) = c.toNat := by
        rw [hb]
        exact fun e => hc (by rw [← UInt8.toNat_inj]; exact Int.ofNat.inj e)
      rw [splG, if_neg h1, ih (by omega)]
      congr 2
      simp only [Lib.lastIdx, h2, if_false]
theorem split_last (p : ByteArray) : ∃ out, splitG p 47 = out ++ [p.extract (Lib.lastIndexByte p 47 + 1).toNat p.size] ∧ out.length ≤ p.size := by
  refine ⟨(splG p 47 p.size).1, ?_, (splG_le p 47 p.size).2⟩
  unfold splitG
  rw [splG_last p 47 p.size (Nat.le_refl _)]
  rfl

set_option maxRecDepth 100000 in
set_option maxHeartbeats 3200000 in
theorem rmatch_any (a : Option Addr) (cap : Nat) (l : List Rul) (p : ByteArray) (dir : Bool) (w : World) (hsz : ∀ x ∈ l, x.text.size ≤ 100000) (hl : l.length ≤ 1000) (hp : p.size ≤ 100000) (ha : RowsAt rulLay w a l) :
    Calls Tryd.prog 21 #[.slice a l.length cap, .string p, .bool dir] w fun e w' => e = .returned (.bool (matchG l p dir)) ∧ Below w.heap.size w w' := by
  have HA := Lib.hid ha
  have Hsz := Lib.hid hsz
  have HSP := Lib.hid fun W => rsplit_any p 47 W hp
  have HE := Lib.hid fun q W (hq : q.size ≤ 100000) => rext_any q W (by omega)
  clear ha hsz
  go_enter Tryd.func21, Tryd.ntmps21
  go_wp2_with fail
  go_loopw [7, 8] (fun b i wr => ∃ k : Nat, k ≤ l.length ∧ i = .int .i64 k ∧ ∃ bi : Int, b = .int .i64 bi ∧ ((bi < 0 ∧ bestG p l k = none) ∨ ∃ (m : Nat) (y : Rul), bi = m ∧ l[m]? = some y ∧ bestG p l k = some y) ∧ Below w.heap.size w wr) (fun _ i _ => l.length - (RowKit.intOf i).toNat)
  case atStart => exact ⟨0, Nat.zero_le _, rfl, -1, rfl, .inl ⟨by omega, rfl⟩, Below.refl _ _⟩
  case round =>
    obtain ⟨k, hk, rfl, bi, rfl, hbest, hb⟩ := hrel
    by_cases hlt : k < l.length
    · obtain ⟨x, hx⟩ := at_some hlt
      obtain ⟨b, off, rfl, hbl, c0, c1⟩ := rul_at (HA.out.keeps hb) hx
      have htx := Hsz.out x (List.mem_of_getElem? hx)
      have hst := bestG_step (p := p) hx
      obtain ⟨xk, xt⟩ := x
      dsimp only at c0 c1 htx
      have HW := Lib.hid fun W => rwithin_any p xt W htx
      have Hst := Lib.hid hst
      have Hx := Lib.hid hx
      clear hst hx
      generalize bestG p l k = best at *
      have hbx := hb.alloc hb.size (.cells #[.int .i64 xk, .string xt] 33)
      by_cases hk1 : xk = 1
      · subst hk1
        rw [saysG_in (.inl rfl)] at Hst
        dsimp only at Hst
        generalize withinG p xt = wi at *
        cases wi with
        | false =>
          go_wp2_with fail
          refine (HW.out _).mono ?_
          rintro e w1 ⟨rfl, rfl⟩
          go_wp2_with fail
          go_roundw
          case rel =>
            refine ⟨k + 1, by omega, by go_num, bi, rfl, ?_, hbx⟩
            rw [Hst.out]
            exact hbest
          case measure => simp [RowKit.intOf]; omega
        | true =>
          rcases hbest with ⟨hbi, hbn⟩ | ⟨m, ⟨yk, yt⟩, rfl, hy, hbs⟩
          · have e1 : decide (bi < 0) = true := by rw [decide_eq_true_eq]; exact hbi
            rw [hbn] at Hst
            clear hbn
            go_wp2_with fail
            refine (HW.out _).mono ?_
            rintro e w1 ⟨rfl, rfl⟩
            go_wp2_with fail
            go_quiet ((go_at_call 44; exact Calls.quiet_of_same (long_any _ _)))
            go_wp2_with fail
            go_roundw
            case rel => exact ⟨k + 1, by omega, by go_num, k, rfl, .inr ⟨k, _, rfl, Hx.out, by rw [Hst.out]; rfl⟩, below_drewN hbx nq⟩
            case measure => simp [RowKit.intOf]; omega
          · have e1 : decide ((m : Int) < 0) = false := by rw [decide_eq_false_iff_not]; omega
            have hm1 : (0 : Int) ≤ m := by omega
            have hm2 : (m : Int) < l.length := by have := (List.getElem?_eq_some_iff.1 hy).1; omega
            obtain ⟨_, _, he, hbl2, d0, d1⟩ := rul_at (HA.out.keeps hb) hy
            cases he
            dsimp only at d0 d1
            rw [hbs] at Hst
            have Hy := Lib.hid hy
            clear hy hbs
            have hbet : betterG (some ⟨yk, yt⟩) ⟨1, xt⟩ = (decide (longG yt < longG xt) || (longG xt == longG yt && (1 : Int) == 2)) := rfl
            rcases Int.lt_trichotomy (longG yt) (longG xt) with hd | hd | hd
            · have e2 : decide (longG yt < longG xt) = true := by rw [decide_eq_true_eq]; exact hd
              have Hb := Lib.hid (show betterG (some ⟨yk, yt⟩) ⟨1, xt⟩ = true by rw [hbet]; simp [hd])
              clear hd hbet
              go_wp2_with fail
              refine (HW.out _).mono ?_
              rintro e w1 ⟨rfl, rfl⟩
              go_wp2_with fail
              go_quiet ((go_at_call 44; exact Calls.quiet_of_same (long_any _ _)))
              go_wp2_with fail
              go_roundw
              case rel => exact ⟨k + 1, by omega, by go_num, k, rfl, .inr ⟨k, _, rfl, Hx.out, by rw [Hst.out, Hb.out]; rfl⟩, below_drewN hbx nq⟩
              case measure => simp [RowKit.intOf]; omega
            · have e2 : decide (longG yt < longG xt) = false := by rw [decide_eq_false_iff_not]; omega
              have e3 : (longG xt == longG yt) = true := by rw [beq_iff_eq]; omega
              have Hb := Lib.hid (show betterG (some ⟨yk, yt⟩) ⟨1, xt⟩ = false by rw [hbet, hd]; simp)
              clear hd hbet
              go_wp2_with fail
              refine (HW.out _).mono ?_
              rintro e w1 ⟨rfl, rfl⟩
              go_wp2_with fail
              go_quiet ((go_at_call 44; exact Calls.quiet_of_same (long_any _ _)))
              go_wp2_with fail
              go_roundw
              case rel => exact ⟨k + 1, by omega, by go_num, _, rfl, .inr ⟨m, _, rfl, Hy.out, by rw [Hst.out, Hb.out]; rfl⟩, below_drewN hbx nq⟩
              case measure => simp [RowKit.intOf]; omega
            · have e2 : decide (longG yt < longG xt) = false := by rw [decide_eq_false_iff_not]; omega
              have e3 : (longG xt == longG yt) = false := by rw [beq_eq_false_iff_ne]; omega
              have Hb := Lib.hid (show betterG (some ⟨yk, yt⟩) ⟨1, xt⟩ = false by
                have h1 : ¬ longG yt < longG xt := by omega
                rw [hbet, e3]; simp [h1])
              clear hd hbet
              go_wp2_with fail
              refine (HW.out _).mono ?_
              rintro e w1 ⟨rfl, rfl⟩
              go_wp2_with fail
              go_quiet ((go_at_call 44; exact Calls.quiet_of_same (long_any _ _)))
              go_wp2_with fail
              go_roundw
              case rel => exact ⟨k + 1, by omega, by go_num, _, rfl, .inr ⟨m, _, rfl, Hy.out, by rw [Hst.out, Hb.out]; rfl⟩, below_drewN hbx nq⟩
              case measure => simp [RowKit.intOf]; omega
      · by_cases hk2 : xk = 2
        · subst hk2
          rw [saysG_in (.inr rfl)] at Hst
          dsimp only at Hst
          generalize withinG p xt = wi at *
          cases wi with
          | false =>
            go_wp2_with fail
            refine (HW.out _).mono ?_
            rintro e w1 ⟨rfl, rfl⟩
            go_wp2_with fail
            go_roundw
            case rel =>
              refine ⟨k + 1, by omega, by go_num, bi, rfl, ?_, hbx⟩
              rw [Hst.out]
              exact hbest
            case measure => simp [RowKit.intOf]; omega
          | true =>
            rcases hbest with ⟨hbi, hbn⟩ | ⟨m, ⟨yk, yt⟩, rfl, hy, hbs⟩
            · have e1 : decide (bi < 0) = true := by rw [decide_eq_true_eq]; exact hbi
              rw [hbn] at Hst
              clear hbn
              go_wp2_with fail
              refine (HW.out _).mono ?_
              rintro e w1 ⟨rfl, rfl⟩
              go_wp2_with fail
              go_quiet ((go_at_call 44; exact Calls.quiet_of_same (long_any _ _)))
              go_wp2_with fail
              go_roundw
              case rel => exact ⟨k + 1, by omega, by go_num, k, rfl, .inr ⟨k, _, rfl, Hx.out, by rw [Hst.out]; rfl⟩, below_drewN hbx nq⟩
              case measure => simp [RowKit.intOf]; omega
            · have e1 : decide ((m : Int) < 0) = false := by rw [decide_eq_false_iff_not]; omega
              have hm1 : (0 : Int) ≤ m := by omega
              have hm2 : (m : Int) < l.length := by have := (List.getElem?_eq_some_iff.1 hy).1; omega
              obtain ⟨_, _, he, hbl2, d0, d1⟩ := rul_at (HA.out.keeps hb) hy
              cases he
              dsimp only at d0 d1
              rw [hbs] at Hst
              have Hy := Lib.hid hy
              clear hy hbs
              have hbet : betterG (some ⟨yk, yt⟩) ⟨2, xt⟩ = (decide (longG yt < longG xt) || (longG xt == longG yt && (2 : Int) == 2)) := rfl
              rcases Int.lt_trichotomy (longG yt) (longG xt) with hd | hd | hd
              · have e2 : decide (longG yt < longG xt) = true := by rw [decide_eq_true_eq]; exact hd
                have Hb := Lib.hid (show betterG (some ⟨yk, yt⟩) ⟨2, xt⟩ = true by rw [hbet]; simp [hd])
                clear hd hbet
                go_wp2_with fail
                refine (HW.out _).mono ?_
                rintro e w1 ⟨rfl, rfl⟩
                go_wp2_with fail
                go_quiet ((go_at_call 44; exact Calls.quiet_of_same (long_any _ _)))
                go_wp2_with fail
                go_roundw
                case rel => exact ⟨k + 1, by omega, by go_num, k, rfl, .inr ⟨k, _, rfl, Hx.out, by rw [Hst.out, Hb.out]; rfl⟩, below_drewN hbx nq⟩
                case measure => simp [RowKit.intOf]; omega
              · have e2 : decide (longG yt < longG xt) = false := by rw [decide_eq_false_iff_not]; omega
                have e3 : (longG xt == longG yt) = true := by rw [beq_iff_eq]; omega
                have Hb := Lib.hid (show betterG (some ⟨yk, yt⟩) ⟨2, xt⟩ = true by rw [hbet, hd]; simp)
                clear hd hbet
                go_wp2_with fail
                refine (HW.out _).mono ?_
                rintro e w1 ⟨rfl, rfl⟩
                go_wp2_with fail
                go_quiet ((go_at_call 44; exact Calls.quiet_of_same (long_any _ _)))
                go_wp2_with fail
                go_roundw
                case rel => exact ⟨k + 1, by omega, by go_num, k, rfl, .inr ⟨k, _, rfl, Hx.out, by rw [Hst.out, Hb.out]; rfl⟩, below_drewN hbx nq⟩
                case measure => simp [RowKit.intOf]; omega
              · have e2 : decide (longG yt < longG xt) = false := by rw [decide_eq_false_iff_not]; omega
                have e3 : (longG xt == longG yt) = false := by rw [beq_eq_false_iff_ne]; omega
                have Hb := Lib.hid (show betterG (some ⟨yk, yt⟩) ⟨2, xt⟩ = false by
                  have h1 : ¬ longG yt < longG xt := by omega
                  rw [hbet, e3]; simp [h1])
                clear hd hbet
                go_wp2_with fail
                refine (HW.out _).mono ?_
                rintro e w1 ⟨rfl, rfl⟩
                go_wp2_with fail
                go_quiet ((go_at_call 44; exact Calls.quiet_of_same (long_any _ _)))
                go_wp2_with fail
                go_roundw
                case rel => exact ⟨k + 1, by omega, by go_num, _, rfl, .inr ⟨m, _, rfl, Hy.out, by rw [Hst.out, Hb.out]; rfl⟩, below_drewN hbx nq⟩
                case measure => simp [RowKit.intOf]; omega
        · have Hs := Lib.hid (saysG_no (p := p) (x := ⟨xk, xt⟩) hk1 hk2)
          have e1 : (xk != 1) = true := by rw [bne_iff_ne]; exact hk1
          have e2 : (xk != 2) = true := by rw [bne_iff_ne]; exact hk2
          clear hk1 hk2
          go_wp2_with fail
          go_roundw
          case rel =>
            refine ⟨k + 1, by omega, by go_num, bi, rfl, ?_, hbx⟩
            rw [Hst.out, Hs.out]
            exact hbest
          case measure => simp [RowKit.intOf]; omega
    · obtain rfl : k = l.length := by omega
      clear Hsz
      rcases hbest with ⟨hbi, hbn⟩ | ⟨m, ⟨yk, yt⟩, rfl, hy, hbs⟩
      · have e1 : decide (bi < 0) = true := by rw [decide_eq_true_eq]; exact hbi
        have Hm := Lib.hid (matchG_no (l := l) (p := p) (dir := dir) (by rw [hbn]; decide))
        clear hbn
        go_wp2_with fail
        go_ret
        exact ⟨ret_bool Hm.out.symm, hb⟩
      · have e1 : decide ((m : Int) < 0) = false := by rw [decide_eq_false_iff_not]; omega
        have hm1 : (0 : Int) ≤ m := by omega
        have hm2 : (m : Int) < l.length := by have := (List.getElem?_eq_some_iff.1 hy).1; omega
        obtain ⟨b, off, rfl, hbl, d0, d1⟩ := rul_at (HA.out.keeps hb) hy
        have hyk := (bestG_says p l l.length _ hbs).1
        dsimp only at d0 d1 hyk
        clear hy
        by_cases hk : yk = 1
        · have hm := matchG_yes (l := l) (p := p) (dir := dir) (by rw [hbs]; exact hk)
          have Hm := Lib.hid hm
          have e2 : (yk == 2) = false := by rw [hk]; rfl
          clear hm hk hyk hbs
          cases dir with
          | true =>
            go_wp2_with fail
            go_ret
            exact ⟨by rw [Hm.out]; simp, hb⟩
          | false =>
            obtain ⟨out, hsp, hcap⟩ := split_last p
            have hend : endG p = ⟨(extL (p.extract (Lib.lastIndexByte p 47 + 1).toNat p.size).data.toList).toArray⟩ := rfl
            have hq : (p.extract (Lib.lastIndexByte p 47 + 1).toNat p.size).size ≤ 100000 := by rw [ByteArray.size_extract]; omega
            generalize p.extract (Lib.lastIndexByte p 47 + 1).toNat p.size = last at *
            have Hend := Lib.hid hend
            have Hsp := Lib.hid hsp
            clear hend hsp
            go_wp2_with fail
            refine (HSP.out _).mono ?_
            rintro e w2 ⟨v, rfl, hoa, hb2⟩
            rw [Hsp.out] at hoa
            have hb3 := hb.trans (hb2.mono hb.size)
            obtain ⟨sa, sc, rfl, hra, _⟩ := hoa.read
            have hol : (out ++ [last]).length = out.length + 1 := by simp
            have hlast : (out ++ [last])[out.length]? = some last := by simp
            obtain ⟨sb, so, rfl, hsb, s0⟩ := str_at hra hlast
            rw [hol]
            clear hoa hra hol hlast d0 d1
            go_wp2_with fail
            have hb3s := hb3.size
            refine (HE.out _ _ hq).mono ?_
            rintro e w3 ⟨rfl, rfl⟩
            rw [← Hend.out]
            clear s0 hsb hq hcap HSP
            go_wp2_with fail
            go_loopw [12, 13] (fun t i wr => ∃ k : Nat, k ≤ l.length ∧ i = .int .i64 k ∧ t = .bool ((l.take k).any fun x => x.kind == 3) ∧ ((l.take k).any fun x => x.kind == 3 && decide (x.text = endG p)) = false ∧ wr = w2) (fun _ i _ => l.length - (RowKit.intOf i).toNat)
            case atStart => exact ⟨0, Nat.zero_le _, rfl, rfl, rfl, rfl⟩
            case round =>
              obtain ⟨k, hk, rfl, rfl, hno, rfl⟩ := hrel
              by_cases hlt : k < l.length
              · obtain ⟨x, hx⟩ := at_some hlt
                obtain ⟨_, _, he, hbl2, c0, c1⟩ := rul_at (HA.out.keeps hb3) hx
                cases he
                have ht1 : ((l.take (k + 1)).any fun x => x.kind == 3) = (((l.take k).any fun x => x.kind == 3) || x.kind == 3) := by rw [List.take_add_one, hx, Option.toList_some, List.any_append]; simp
                have ht2 : ((l.take (k + 1)).any fun x => x.kind == 3 && decide (x.text = endG p)) = (x.kind == 3 && decide (x.text = endG p)) := by rw [List.take_add_one, hx, Option.toList_some, List.any_append, hno]; simp
                obtain ⟨xk, xt⟩ := x
                dsimp only at c0 c1 ht1 ht2
                have Hx := Lib.hid hx
                have Ht1 := Lib.hid ht1
                have Ht2 := Lib.hid ht2
                clear hx ht1 ht2 hno
                by_cases h3 : xk = 3
                · have e3 : (xk == 3) = true := by rw [beq_iff_eq]; exact h3
                  by_cases hxt : xt = endG p
                  · have Hy := Lib.hid (idxR_hit (r := ⟨3, endG p⟩) Hx.out h3 hxt)
                    have e4 := str_eq hxt
                    clear h3 hxt
                    go_wp2_with fail
                    go_ret
                    refine ⟨?_, hb3⟩
                    rw [Hm.out]
                    rw [Hy.out]
                    simp
                  · have Hxt := Lib.hid hxt
                    have e4 := str_ne hxt
                    clear h3 hxt
                    go_wp2_with fail
                    go_roundw
                    case rel => exact ⟨k + 1, by omega, by go_num, by rw [Ht1.out, e3]; simp, by rw [Ht2.out]; simp [Hxt.out], trivial⟩
                    case measure => simp [RowKit.intOf]; omega
                · have e3 : (xk == 3) = false := by rw [beq_eq_false_iff_ne]; exact h3
                  clear h3
                  go_wp2_with fail
                  go_roundw
                  case rel => exact ⟨k + 1, by omega, by go_num, by rw [Ht1.out, e3]; simp, by rw [Ht2.out, e3]; simp, trivial⟩
                  case measure => simp [RowKit.intOf]; omega
              · obtain rfl : k = l.length := by omega
                rw [List.take_length] at hno ⊢
                have Hno := Lib.hid hno
                clear hno
                go_wp2_with fail
                go_ret
                exact ⟨by rw [Hm.out, Hno.out]; simp, hb3⟩
        · have hk2 : yk = 2 := by omega
          have Hm := Lib.hid (matchG_no (l := l) (p := p) (dir := dir) (by rw [hbs]; exact hk))
          have e2 : (yk == 2) = true := by rw [hk2]; rfl
          clear hk hk2 hyk hbs
          go_wp2_with fail
          go_ret
          exact ⟨ret_bool Hm.out.symm, hb⟩
end Go.Proofs.YtalkckalbmaghaaDoor
