import Derived.Test.YtifpdejgkofnaaaDoorOpsW29
namespace Go.Proofs.YtifpdejgkofnaaaDoor
open Go Go.RowKit Go.Lib

set_option maxRecDepth 100000 in
set_option maxHeartbeats 6400000 in
theorem law_opsOrder (a : Option Addr) (cap : Nat) (l : List Opr) (ap : Option Addr) (cp : Nat) (ps : List Int) (w : World) (ha : RowsAt oprLay w a l) (_ : l.length ≤ cap) (hl : l.length ≤ 140737488351232) (_ : a = none → cap = 0) (_ : ∀ x ∈ l, -9223372036854775808 ≤ x.who) (hp : RowsAt numLay w ap ps) (_ : ps.length ≤ cp) (hpb : ps.length * Tryd.prog.bytesOf 3 ≤ 140737488351232) (_ : ap = none → cp = 0) :
    Calls Tryd.prog 6 #[.slice a l.length cap, .slice ap ps.length cp] w fun e w' => e = .returned (.bool true) ∧ Below w.heap.size w w' := by
  obtain ⟨i0, hi, hz0, hz1, hz2⟩ := info_parts oprInfo
  have Hi := Lib.hid hi
  have Hz0 := Lib.hid hz0
  have Hz1 := Lib.hid hz1
  have Hz2 := Lib.hid hz2
  clear hi hz0 hz1 hz2
  have hpl : ps.length ≤ 140737488351232 := by
    have : Tryd.prog.bytesOf 3 = 8 := by kernel_rfl
    rw [this] at hpb
    omega
  clear hpb
  have HA := Lib.hid awake06_any
  have HF := Lib.hid (few06_any a cap l w (by omega) ha)
  cases hf : fewO l with
  | false =>
    rw [hf] at HF
    clear hf ha hp
    go_enter Tryd.func6, Tryd.ntmps6
    go_wp2_with fail
    refine HF.out.mono ?_
    rintro e w1 ⟨rfl, rfl⟩
    go_wp2_with fail
    refine (HA.out _).mono ?_
    rintro e w5 ⟨rfl, hb5⟩
    go_wp2_with fail
    go_ret
    exact ⟨rfl, hb5⟩
  | true =>
    rw [hf] at HF
    by_cases hN : 60 < l.length
    · clear hf ha hp
      go_enter Tryd.func6, Tryd.ntmps6
      go_wp2_with fail
      refine HF.out.mono ?_
      rintro e w1 ⟨rfl, rfl⟩
      go_wp2_with fail
      refine (HA.out _).mono ?_
      rintro e w5 ⟨rfl, hb5⟩
      go_wp2_with fail
      go_ret
      exact ⟨rfl, hb5⟩
    by_cases hP : ps.length = 0
    · have hp0 : ((ps.length : Int) == 0) = true := by rw [hP]; rfl
      have HP := Lib.hid hP
      clear hf ha hp hP
      go_enter Tryd.func6, Tryd.ntmps6
      go_wp2_with fail
      refine HF.out.mono ?_
      rintro e w1 ⟨rfl, rfl⟩
      go_wp2_with fail
      refine (HA.out _).mono ?_
      rintro e w5 ⟨rfl, hb5⟩
      go_wp2_with fail
      go_ret
      exact ⟨rfl, hb5⟩
    have hp0 : ((ps.length : Int) == 0) = false := by simpa using hP
    have hP1 : 0 < ps.length := by omega
    have HR := Lib.hid ha
    have HPs := Lib.hid hp
    have Hfw := Lib.hid hf
    clear hf ha hp hP
    go_enter Tryd.func6, Tryd.ntmps6
    go_wp2_with fail
    refine HF.out.mono ?_
    rintro e w1 ⟨rfl, rfl⟩
    go_wp2_with fail
    go_loopw [5, 6] (fun v i wr => ∃ k : Nat, k ≤ l.length ∧ i = .int .i64 k ∧ Below w1.heap.size w1 wr ∧ ∃ a' c', v = .slice a' (setO (l.take k)).length c' ∧ RowsAt oprLay wr a' (setO (l.take k)) ∧ (a' = none → c' = 0) ∧ (setO (l.take k)).length ≤ c') (fun _ i _ => l.length - (RowKit.intOf i).toNat)
    case atStart => exact ⟨0, Nat.zero_le _, rfl, Below.refl _ _, none, 0, rfl, RowsAt.nil _ _ _, fun _ => rfl, Nat.le_refl _⟩
    case round =>
      obtain ⟨k, hk, rfl, hb, a', c', rfl, hr, hn, hc⟩ := hrel
      by_cases hlt : k < l.length
      · obtain ⟨x, hx⟩ := at_some hlt
        obtain ⟨b, off, rfl, hbl, c0, c1, c2, c3, c4, c5, c6, c7, c8, c9, c10⟩ := opr_at (HR.out.keeps hb) hx
        have hsz := few_all Hfw.out (List.mem_of_getElem? hx)
        have hg := good_set (l.take k)
        rw [List.length_take] at hg
        have Hst := Lib.hid (show setO (l.take (k + 1)) = stepO (setO (l.take k)) x by rw [take_snoc hx, setO_snoc])
        have HAd := Lib.hid fun a cap W hn hc (h : RowsAt oprLay W a (setO (l.take k))) => add_any a cap (setO (l.take k)) x W (by omega) hsz.1 hsz.2 hn hc h
        generalize hs : setO (l.take k) = s at *
        have Hs := Lib.hid hs
        clear hx hs
        replace hg := hg.2
        have Hsp := Lib.hid (show stepO s x = if (addO s x).2 = 0 then (addO s x).1 else s from rfl)
        generalize addO s x = ao at *
        obtain ⟨al, ae⟩ := ao
        dsimp only at HAd Hsp
        by_cases he : ae = 0
        · subst he
          have Hsp2 := Lib.hid (Hsp.out.trans (if_pos rfl))
          go_wp2_with fail
          refine (HAd.out a' c' _ hn hc hr).mono ?_
          rintro e w4 ⟨a4, c4, rfl, hr4, hn4, hc4, hb4⟩
          go_wp2_with fail
          go_roundw
          case rel => exact ⟨k + 1, by omega, by go_num, hb.trans (hb4.mono hb.size), a4, c4, by rw [Hst.out, Hsp2.out], by rw [Hst.out, Hsp2.out]; exact hr4, hn4, by rw [Hst.out, Hsp2.out]; exact hc4⟩
          case measure => simp [RowKit.intOf]; omega
        · have e1 : (ae == 0) = false := by simpa using he
          have Hsp2 := Lib.hid (Hsp.out.trans (if_neg he))
          go_wp2_with fail
          refine (HAd.out a' c' _ hn hc hr).mono ?_
          rintro e w4 ⟨a4, c4, rfl, hr4, hn4, hc4, hb4⟩
          go_wp2_with fail
          go_roundw
          case rel => exact ⟨k + 1, by omega, by go_num, hb.trans (hb4.mono hb.size), a', c', by rw [Hst.out, Hsp2.out], by rw [Hst.out, Hsp2.out]; exact hr.keeps hb4, hn, by rw [Hst.out, Hsp2.out]; exact hc⟩
          case measure => simp [RowKit.intOf]; omega
      · have hg := good_set l
        have hkl : k = l.length := by omega
        have Hmm := Lib.hid (fun x (h : x ∈ setO l) => few_all Hfw.out (set_mem h))
        rw [hkl, List.take_length] at hr hc
        rw [hkl, List.take_length]
        generalize setO l = s at *
        have hs60 : s.length ≤ 60 := by omega
        obtain ⟨hgd, hgl⟩ := hg
        have HG := Lib.hid hgd
        clear hgd
        have ho := OwnRows.lit wr oprLay wr.heap.size wr.heap.size 25 #[] 0 [] rfl (Nat.le_refl _) (Nat.zero_le _) rfl rfl
        have hr1 := hr.keeps ((Below.refl _ _).alloc (Nat.le_refl _) (.cells #[] 25))
        have hb1 := (Below.refl wr.heap.size wr).alloc (Nat.le_refl _) (.cells #[] 25)
        go_wp2_with (at_builtin; refine wpList_append_from _ rfl _ _ 27 rfl oprLay wr.heap.size 25 i0 (.agg #[.int .i64 0, .int .i64 0, .int .i64 0, .int .i64 0, .int .i64 0, .int .i64 0, .bool false, .int .i64 0, .int .i64 0, .string ⟨#[]⟩, .string ⟨#[]⟩]) 104 Tryd.underlying27 Hi.out Hz0.out Hz1.out Hz2.out rfl (by decide) _ [] rfl ho a' c' s.length s rfl rfl hr1 hn (by unfold maxLen; simp; omega) (by simp; omega) (by simp) ?_)
        intro v w2 ho2 hg2 _
        have hb2 := hb1.grown hg2 (by simp) (fun j ej => (ho.lt ej).1)
        have hr2 := hr.keeps hb2
        have hB2 := hb.trans (hb2.mono hb.size)
        replace ho2 : OwnRows oprLay w2 wr.heap.size 25 v s := by simpa using ho2
        obtain ⟨al0, cl0, rfl, hrl0, hcl0, hnl0, _⟩ := ho2.read_nil
        clear hg2 ho ho2 hr1 hb1 hr hb hb2
        go_wp2_with fail
        go_loopw [9, 10, 11] (fun lv ag i wr => ∃ (again left : List Opr) (j : Nat), i = .int .i64 j ∧ j + left.length = s.length ∧ Hid (PartsO s again left) ∧ again.length ≤ s.length ∧ Below w2.heap.size w2 wr ∧ (∃ al cl, lv = .slice al left.length cl ∧ RowsAt oprLay wr al left ∧ (al = none → cl = 0) ∧ left.length ≤ cl) ∧ ∃ aa ca, ag = .slice aa again.length ca ∧ RowsAt oprLay wr aa again ∧ (aa = none → ca = 0) ∧ again.length ≤ ca) (fun lv _ _ _ => match lv with | .slice _ n _ => n | _ => 0)
        case atStart => exact ⟨[], s, 0, rfl, Nat.zero_add _, Lib.hid (parts_start HG.out), Nat.zero_le _, Below.refl _ _, ⟨al0, cl0, rfl, hrl0, hnl0, hcl0⟩, none, 0, rfl, RowsAt.nil _ _ _, fun _ => rfl, Nat.le_refl _⟩
        case round =>
          obtain ⟨again, left, j, rfl, hj, HPt, hal, hb, ⟨al, cl, rfl, hrl, hnl, hcl⟩, aa, ca, rfl, hra, hna, hca⟩ := hrel
          by_cases hlt : 0 < left.length
          · skip
            obtain ⟨pk, hpk⟩ := at_some (l := ps) (k := j % ps.length) (Nat.mod_lt _ hP1)
            obtain ⟨bp, op, rfl, hbp, cp0⟩ := num_at (((HPs.out).keeps hB2).keeps hb) hpk
            have m1 : (0 : Int) ≤ (j : Int) % (ps.length : Int) := Int.emod_nonneg _ (by omega)
            have m2 : (j : Int) % (ps.length : Int) < (ps.length : Int) := Int.emod_lt_of_pos _ (by omega)
            clear hpk
            go_wp2_with fail
            generalize (wrap64 (pk.tmod 15 + 15)).tmod 15 = q
            go_loop [13, 14] (fun at' k => ∃ kk p : Nat, kk ≤ left.length ∧ p < left.length ∧ k = .int .i64 ((kk : Int) - 1) ∧ at' = .int .i64 p ∧ Hid (PickO left q kk p)) (fun _ k => (RowKit.intOf k + 1).toNat)
            case atStart => exact ⟨left.length, 0, Nat.le_refl _, hlt, rfl, rfl, Lib.hid (pick_start _ _)⟩
            case round =>
              obtain ⟨kk, p, hkk, hpl, rfl, rfl, HPk⟩ := hrel
              by_cases h0 : 0 < kk
              · obtain ⟨n, rfl⟩ : ∃ n, kk = n + 1 := ⟨kk - 1, by omega⟩
                have e1 : ((n + 1 : Nat) : Int) - 1 = (n : Int) := by omega
                rw [e1]
                obtain ⟨y, hy⟩ := at_some (show n < left.length by omega)
                obtain ⟨b, off, rfl, hbl, c0, c1, c2, c3, c4, c5, c6, c7, c8, c9, c10⟩ := opr_at hrl hy
                have HY := Lib.hid hy
                clear hy e1
                by_cases hw : y.who = q
                · have f1 : (y.who == q) = true := beq_iff_eq.2 hw
                  have Hw := Lib.hid hw
                  clear hw
                  go_wp2_with fail
                  go_round
                  case rel => exact ⟨n, n, by omega, by omega, rfl, rfl, Lib.hid (pick_hit HY.out Hw.out)⟩
                  case measure => simp [RowKit.intOf]
                · have f1 : (y.who == q) = false := beq_eq_false_iff_ne.2 hw
                  have Hw := Lib.hid hw
                  clear hw
                  go_wp2_with fail
                  go_round
                  case rel => exact ⟨n, p, by omega, hpl, rfl, rfl, Lib.hid (pick_miss HPk.out HY.out Hw.out)⟩
                  case measure => simp [RowKit.intOf]
              · obtain rfl : kk = 0 := by omega
                obtain ⟨x, hx, hnx⟩ := pick_end HPk.out hlt
                have hsx := parts_step HPt.out hx hnx (by omega)
                have hlx := congrArg Prod.fst hsx.1
                have hinl := ins_len again x
                have hsz := Hmm.out x ((HPt.out.mem x).2 (.inr (List.mem_of_getElem? hx)))
                have HAd := Lib.hid fun a cap W hn hc (h : RowsAt oprLay W a again) => add_any a cap again x W (by omega) hsz.1 hsz.2 hn hc h
                rw [hsx.1] at HAd
                have HP2 := Lib.hid hsx.2
                obtain ⟨b, off, rfl, hbl, c0, c1, c2, c3, c4, c5, c6, c7, c8, c9, c10⟩ := opr_at hrl hx
                have hlen2 := hsx.2.len
                have hll : (left.take p ++ left.drop (p + 1)).length + 1 = left.length := by simp; omega
                clear hsx hlx hx hnx
                generalize insO again x = ag2 at *
                have hsl := slice_high (P := Tryd.prog) Tryd.underlying27 (fun w => Tryd.sizeOf25 w) (some ⟨b, off, none⟩) left.length cl p (by omega)
                obtain ⟨la, hla⟩ : ∃ la, lowA (some ⟨b, off, none⟩) (p + 1) cl oprLay.sz = la := ⟨_, rfl⟩
                have hsl2 : ∀ W, (Instr.slice 27 (.slice (some ⟨b, off, none⟩) left.length cl) (some (.int .i64 ((p : Int) + 1))) none none).run Tryd.prog W = .ok (.slice la (left.length - (p + 1)) (cl - (p + 1))) W := by
                  intro W
                  have := slice_low (P := Tryd.prog) Tryd.underlying27 (fun w => Tryd.sizeOf25 w) (some ⟨b, off, none⟩) left.length cl (p + 1) (by omega) W
                  rw [show ((p + 1 : Nat) : Int) = (p : Int) + 1 from by omega] at this
                  rw [← hla]
                  exact this
                have hln : la = none → cl - (p + 1) = 0 := by rw [← hla]; exact lowA_nil (fun h => by cases h)
                have Hla := Lib.hid hla
                have Hinl := Lib.hid hinl
                clear hla hinl
                go_wp2_with fail
                refine (HAd.out aa ca _ hna hca hra).mono ?_
                rintro e w4 ⟨a4, c4', rfl, hr4, hn4, hc4, hb4⟩
                have hb5 := hb.trans (hb4.mono hb.size)
                have hrl4 := hrl.keeps hb4
                clear c0 c1 c2 c3 c4 c5 c6 c7 c8 c9 c10 hrl hra
                go_wp2_with (at_builtin; refine wpList_append_from _ rfl _ _ 27 rfl oprLay w4.heap.size 25 i0 (.agg #[.int .i64 0, .int .i64 0, .int .i64 0, .int .i64 0, .int .i64 0, .int .i64 0, .bool false, .int .i64 0, .int .i64 0, .string ⟨#[]⟩, .string ⟨#[]⟩]) 104 Tryd.underlying27 Hi.out Hz0.out Hz1.out Hz2.out rfl (by decide) _ [] rfl (OwnRows.nil _ _ _ _) _ _ p (left.take p) rfl (by simp; omega) (hrl4.take p) (fun h => by cases h) (by unfold maxLen; simp; omega) (by simp; omega) (Nat.le_refl _) ?_)
                intro v5 w5 ho5 hg5 _
                replace ho5 : OwnRows oprLay w5 w4.heap.size 25 v5 (left.take p) := by simpa using ho5
                have hg45 := (Below.refl w4.heap.size w4).grown hg5 (Nat.le_refl _) (fun j ej => by cases ej)
                have hrl5 := rows_low (hrl4.keeps hg45) hcl (p + 1)
                rw [Hla.out] at hrl5
                have hr5 := hr4.keeps hg45
                have hb6 := hb5.trans (hg45.mono hb5.size)
                have hr4' := hr4
                clear hg5 hrl4 hr4
                go_wp2_with (at_builtin; refine wpList_append_from _ rfl _ _ 27 rfl oprLay w4.heap.size 25 i0 (.agg #[.int .i64 0, .int .i64 0, .int .i64 0, .int .i64 0, .int .i64 0, .int .i64 0, .bool false, .int .i64 0, .int .i64 0, .string ⟨#[]⟩, .string ⟨#[]⟩]) 104 Tryd.underlying27 Hi.out Hz0.out Hz1.out Hz2.out rfl (by decide) _ _ rfl ho5 _ _ (left.length - (p + 1)) (left.drop (p + 1)) rfl (by simp) hrl5 hln (by unfold maxLen; simp; omega) (by simp; omega) hg45.size ?_)
                intro v6 w6 ho6 hg6 _
                have hg56 := hg45.grown hg6 hg45.size (fun j ej => (ho5.lt ej).1)
                have hr6 := hr4'.keeps hg56
                obtain ⟨a6, c6, rfl, hrl6, hcl6, hnl6, _⟩ := ho6.read_nil
                have hb7 := hb5.trans (hg56.mono hb5.size)
                clear hg6 ho6 ho5 hrl5 hr5
                go_wp2_with fail
                go_roundw
                case rel => exact ⟨ag2, _, j + 1, by go_num, by omega, HP2, by omega, hb7, ⟨a6, c6, rfl, hrl6, hnl6, hcl6⟩, a4, c4', by rw [Hinl.out], hr6, hn4, hc4⟩
                case measure => simp; omega
          · have hl0 : left = [] := List.length_eq_zero_iff.1 (by omega)
            subst hl0
            have hpe := parts_end HPt.out
            subst hpe
            have HO := Lib.hid (oprs_any aa a' ca c' again again wr (by omega) hra (hr2.keeps hb))
            rw [decide_eq_true rfl] at HO
            have hB3 := hB2.trans (hb.mono hB2.size)
            go_wp2_with fail
            refine HO.out.mono ?_
            rintro e w6 ⟨rfl, n6, rfl⟩
            have hB6 := belowDrew hB3 n6
            go_wp2_with fail
            refine (HA.out _).mono ?_
            rintro e w7 ⟨rfl, hb7⟩
            go_wp2_with fail
            go_ret
            exact ⟨rfl, hB6.trans (hb7.mono hB6.size)⟩
end Go.Proofs.YtifpdejgkofnaaaDoor
