import Derived.Test.YtlenpifjkbcmdaaGreatDoorCodecW1
import Derived.Laws.Bits64b
namespace Go.Proofs.YtlenpifjkbcmdaaGreatDoor
open Go Go.RowKit Go.Lib

theorem takeR_none {r : Rd} {n : Nat} (h : r.rest.length < n) : takeR r n = ([], ⟨10, []⟩) := by unfold takeR; rw [if_pos h]
theorem takeR_some {r : Rd} {n : Nat} (h : ¬ r.rest.length < n) : takeR r n = (r.rest.take n, ⟨0, r.rest.drop n⟩) := by unfold takeR; rw [if_neg h]
theorem errCell {W : World} {b : Nat} {r : Rd} (h : RdAt W b r) : W.cell? ⟨b, 2, none⟩ = some (.int .i64 r.err) := by
  obtain ⟨d, p, hc, _⟩ := h
  exact hc.2.2.1
theorem errFree {W : World} {b : Nat} {r : Rd} (h : RdAt W b r) : ∀ i, W.frozen? ⟨b, i, none⟩ = false := by
  obtain ⟨d, p, hc, _⟩ := h
  exact hc.2.2.2.1
theorem RdAt.setErr {W : World} {b : Nat} {r : Rd} (h : RdAt W b r) {e : Int} (he : e ≠ 0) : RdAt (W.setCell ⟨b, 2, none⟩ (.int .i64 e)) b ⟨e, []⟩ := by
  obtain ⟨d, p, hc, hp, hd, _⟩ := h
  exact ⟨d, p, hc.setErr e, hp, hd, fun h => absurd h he⟩

theorem first_text (c : UInt8) (l : List UInt8) : ∃ s : ByteArray, (⟨(c :: l).toArray⟩ : ByteArray) = s ∧ s.size = l.length + 1 ∧ (∃ h : 0 < s.size, (s[0]'h).toNat = c.toNat) ∧ s.toList.isEmpty = false :=
  ⟨_, rfl, by rw [size_eq]; simp, ⟨by rw [size_eq]; simp, rfl⟩, by rw [toList_data]; rfl⟩
theorem text_at (l : List UInt8) : ∃ s : ByteArray, (⟨l.toArray⟩ : ByteArray) = s ∧ s.size = l.length ∧ ∀ k (h : k < s.size), ∃ x, l[k]? = some x ∧ (s[k]'h).toNat = x.toNat := by
  refine ⟨_, rfl, by rw [size_eq], fun k h => ?_⟩
  have hk : k < l.length := by rw [size_eq] at h; simpa using h
  exact ⟨l[k], List.getElem?_eq_getElem hk, rfl⟩
theorem wrap_64 (n : Int) : IntKind.i64.wrap n = wrap64 n := by
  simp only [IntKind.wrap, IntKind.signed, IntKind.bits, wrap64]
  simp
  omega
set_option maxRecDepth 100000 in
theorem or_byte {a b : Nat} (h : a * 256 + b < 18446744073709551616) (hb : b < 256) : bits .or .u64 ((a : Int) * 256) (b : Int) = ((a * 256 + b : Nat) : Int) := by
  have e : (a : Int) * 256 = ((a * 256 : Nat) : Int) := by omega
  rw [e, bits_or_u64_nat _ _ (by omega) (by omega)]
  have := Nat.shiftLeft_add_eq_or_of_lt (i := 8) (b := b) (by omega) a
  rw [Nat.shiftLeft_eq] at this
  rw [← this]
theorem valL_step {l : List UInt8} {k : Nat} {x : UInt8} (h : l[k]? = some x) : valL (l.take (k + 1)) = valL (l.take k) * 256 + x.toNat := by
  rw [List.take_add_one, h, Option.toList_some, valL_snoc]

set_option maxRecDepth 100000 in
set_option maxHeartbeats 1600000 in
theorem num_any (b : Nat) (r : Rd) (w : World) (h0 : r.err = 0) (h : RdAt w b r) :
    Calls Tryz.prog 66 #[.pointer (some ⟨b, 0, none⟩)] w fun e w' => e = .returned (.int .u64 r.raw.1) ∧ RdAt w' b r.raw.2 ∧ w.grownBy w' (some b) := by
  obtain ⟨err, rest⟩ := r
  obtain rfl : err = 0 := h0
  have H1 := Lib.hid (take_any b ⟨0, rest⟩ 1 (by decide) w rfl h)
  cases rest with
  | nil =>
    rw [takeR_none (by simp)] at H1
    go_enter Tryz.func66, Tryz.ntmps66
    go_wp2_with fail
    refine H1.out.mono ?_
    rintro e w1 ⟨rfl, h1, hg1⟩
    have hE := errCell h1
    go_wp2_with fail
    go_ret
    exact ⟨rfl, h1, hg1⟩
  | cons c t =>
    rw [takeR_some (by simp)] at H1
    have e1 : (List.take 1 (c :: t)) = [c] := rfl
    have e2 : (List.drop 1 (c :: t)) = t := rfl
    have hc := c.toNat_lt
    dsimp only at H1
    rw [e1, e2] at H1
    clear e1 e2
    obtain ⟨s1, he1, hz1, ⟨hz2, hb1⟩, _⟩ := first_text c []
    rw [he1] at H1
    clear he1
    have hz1 : (0 : Int) < s1.size := by omega
    by_cases h8 : 8 < c.toNat
    · have HR := Lib.hid (raw_wide (t := t) h8)
      have h8' : (8 : Int) < c.toNat := by omega
      go_enter Tryz.func66, Tryz.ntmps66
      go_wp2_with fail
      refine H1.out.mono ?_
      rintro e w1 ⟨rfl, h1, hg1⟩
      have hE := errCell h1
      have hF := errFree h1
      go_wp2_with fail
      go_ret
      rw [HR.out]
      exact ⟨rfl, h1.setErr (by decide), hg1.trans (grown_cell _ b 2 _)⟩
    · have h8' : ¬ ((8 : Int) < c.toNat) := by omega
      have H2 := Lib.hid fun W (hW : RdAt W b ⟨0, t⟩) => take_any b ⟨0, t⟩ c.toNat (by omega) W rfl hW
      by_cases hs : t.length < c.toNat
      · have HR := Lib.hid (raw_short h8 hs)
        rw [takeR_none hs] at H2
        go_enter Tryz.func66, Tryz.ntmps66
        go_wp2_with fail
        refine H1.out.mono ?_
        rintro e w1 ⟨rfl, h1, hg1⟩
        have hE := errCell h1
        go_wp2_with fail
        refine (H2.out _ h1).mono ?_
        rintro e w2 ⟨rfl, h2, hg2⟩
        go_wp2_with fail
        go_loop [5, 39] (fun u i => u = .int .u64 0 ∧ i = .int .i64 0) (fun _ _ => 0)
        case atStart => exact ⟨rfl, rfl⟩
        case round =>
          obtain ⟨rfl, rfl⟩ := hrel
          go_wp2_with fail
          go_ret
          rw [HR.out]
          exact ⟨rfl, h2, hg1.trans hg2⟩
      · rw [takeR_some hs] at H2
        dsimp only at H2
        by_cases h3 : c.toNat ≠ 0 ∧ t[0]? = some 0
        · have HR := Lib.hid (raw_zero h8 hs h3)
          obtain ⟨h31, h32⟩ := h3
          obtain ⟨t', rfl⟩ : ∃ t', t = 0 :: t' := by
            cases t with
            | nil => cases h32
            | cons a t' => simp at h32; subst h32; exact ⟨t', rfl⟩
          obtain ⟨m, hm⟩ : ∃ m, c.toNat = m + 1 := ⟨c.toNat - 1, by omega⟩
          have e3 : List.take c.toNat (0 :: t') = 0 :: t'.take m := by rw [hm]; rfl
          rw [e3] at H2
          obtain ⟨s2, he2, _, ⟨hz4, hb2⟩, hne⟩ := first_text 0 (t'.take m)
          rw [he2] at H2
          have hz3 : (0 : Int) < s2.size := by omega
          have e4 : (((s2[0]'hz4).toNat : Int) == 0) = true := by rw [hb2]; rfl
          clear he2 hb2
          clear h31 h32 hm e3
          go_enter Tryz.func66, Tryz.ntmps66
          go_wp2_with fail
          refine H1.out.mono ?_
          rintro e w1 ⟨rfl, h1, hg1⟩
          have hE := errCell h1
          go_wp2_with fail
          refine (H2.out _ h1).mono ?_
          rintro e w2 ⟨rfl, h2, hg2⟩
          have hE2 := errCell h2
          have hF := errFree h2
          go_wp2_with fail
          go_ret
          rw [HR.out]
          exact ⟨rfl, h2.setErr (by decide), (hg1.trans hg2).trans (grown_cell _ b 2 _)⟩
        · have HR := Lib.hid (raw_ok h8 hs h3)
          have hlen : (t.take c.toNat).length = c.toNat := by rw [List.length_take]; omega
          have hfirst : ∀ a l, t.take c.toNat = a :: l → a ≠ 0 := by
            intro a l he ha
            apply h3
            subst ha
            refine ⟨fun h => by rw [h] at he; simp at he, ?_⟩
            cases t with
            | nil => simp at he
            | cons x t' =>
              obtain ⟨m, hm⟩ : ∃ m, c.toNat = m + 1 := ⟨c.toNat - 1, by
                have : c.toNat ≠ 0 := fun h => by rw [h] at he; simp at he
                omega⟩
              rw [hm, List.take_succ_cons] at he
              injection he with he1
              rw [he1]; rfl
          have hbound := valL_lt (t.take c.toNat)
          have h64 : valL (t.take c.toNat) < 18446744073709551616 := Nat.lt_of_lt_of_le hbound (Nat.pow_le_pow_right (n := 256) (by omega) (show (t.take c.toNat).length ≤ 8 by omega))
          generalize t.take c.toNat = s at *
          obtain ⟨s2, he2, hsz2, hat2⟩ := text_at s
          rw [he2] at H2
          have hsl : s.length ≤ 8 := by omega
          have hval : ∀ k, valL (s.take k) < 18446744073709551616 := by
            intro k
            have h1 := valL_lt (s.take k)
            exact Nat.lt_of_lt_of_le h1 (Nat.pow_le_pow_right (n := 256) (by omega) (show (s.take k).length ≤ 8 by rw [List.length_take]; omega))
          have Hval := Lib.hid hval
          have Hfirst : s2.toList.isEmpty = false → ∃ h : 0 < s2.size, ((s2[0]'h).toNat : Int) ≠ 0 := by
            intro hne
            cases s with
            | nil => rw [← he2, toList_data] at hne; cases hne
            | cons a l =>
              have hz : 0 < s2.size := by rw [hsz2]; simp
              obtain ⟨x, hx, hxe⟩ := hat2 0 hz
              cases hx
              refine ⟨hz, ?_⟩
              have := hfirst a l rfl
              rw [hxe]
              intro h
              exact this (by rw [← UInt8.toNat_inj]; have : (0 : UInt8).toNat = 0 := rfl; omega)
          have Hat := Lib.hid hat2
          clear hval hfirst hbound h64 hat2 he2 h3 hs
          cases hemp : s2.toList.isEmpty with
          | true =>
            have hs0 : s = [] := by
              have h5 : s2.size = 0 := by rw [size_eq, ← toList_data, List.isEmpty_iff.1 hemp]; rfl
              exact List.length_eq_zero_iff.1 (by omega)
            subst hs0
            have hz0 : s2.size = 0 := hsz2
            clear Hfirst Hat Hval
            go_enter Tryz.func66, Tryz.ntmps66
            go_wp2_with fail
            refine H1.out.mono ?_
            rintro e w1 ⟨rfl, h1, hg1⟩
            have hE := errCell h1
            go_wp2_with fail
            refine (H2.out _ h1).mono ?_
            rintro e w2 ⟨rfl, h2, hg2⟩
            have hE2 := errCell h2
            go_wp2_with fail
            go_loop [5, 39] (fun u i => u = .int .u64 0 ∧ i = .int .i64 0) (fun _ _ => 0)
            case atStart => exact ⟨rfl, rfl⟩
            case round =>
              obtain ⟨rfl, rfl⟩ := hrel
              go_wp2_with fail
              go_ret
              rw [HR.out]
              exact ⟨rfl, h2, hg1.trans hg2⟩
          | false =>
            obtain ⟨hz4, hne4⟩ := Hfirst hemp
            have hz3 : (0 : Int) < s2.size := by omega
            have e4 : (((s2[0]'hz4).toNat : Int) == 0) = false := by rw [beq_eq_false_iff_ne]; exact hne4
            clear Hfirst hne4
            go_enter Tryz.func66, Tryz.ntmps66
            go_wp2_with fail
            refine H1.out.mono ?_
            rintro e w1 ⟨rfl, h1, hg1⟩
            have hE := errCell h1
            go_wp2_with fail
            refine (H2.out _ h1).mono ?_
            rintro e w2 ⟨rfl, h2, hg2⟩
            go_wp2_with fail
            go_loop [5, 39] (fun u i => ∃ k : Nat, k ≤ s.length ∧ u = .int .u64 (valL (s.take k)) ∧ i = .int .i64 k) (fun _ i => s.length - (RowKit.intOf i).toNat)
            case atStart => exact ⟨0, Nat.zero_le _, rfl, rfl⟩
            case round =>
              obtain ⟨k, hk, rfl, rfl⟩ := hrel
              by_cases hlt : k < s.length
              · have hk2 : k < s2.size := by omega
                obtain ⟨x, hx, hxe⟩ := Hat.out k hk2
                have hst := valL_step hx
                have hv := Hval.out (k + 1)
                rw [hst] at hv
                have hx256 := x.toNat_lt
                have hor := or_byte hv hx256
                rw [← hst] at hor
                have Hor := Lib.hid hor
                clear hst hor hx Hval
                go_wp2_with fail
                go_round
                case rel => exact ⟨k + 1, by omega, by rw [Hor.out], by go_num⟩
                case measure => simp [RowKit.intOf]; omega
              · obtain rfl : k = s.length := by omega
                rw [List.take_length]
                go_wp2_with fail
                go_ret
                rw [HR.out]
                exact ⟨rfl, h2, hg1.trans hg2⟩

set_option maxRecDepth 100000 in
theorem Num_any (b : Nat) (r : Rd) (w : World) (h : RdAt w b r) :
    Calls Tryz.prog 37 #[.pointer (some ⟨b, 0, none⟩)] w fun e w' => e = .returned (.int .i64 r.num.1) ∧ RdAt w' b r.num.2 ∧ w.grownBy w' (some b) := by
  have hE := errCell h
  by_cases h0 : r.err = 0
  · have HN := Lib.hid (num_any b r w h0 h)
    have hb := raw_bound r
    have hn : r.num = (IntKind.i64.wrap r.raw.1, r.raw.2) := rfl
    rw [hn]
    rw [h0] at hE
    generalize r.raw = q at *
    obtain ⟨u, r'⟩ := q
    dsimp only at hb HN ⊢
    clear hn h h0
    go_enter Tryz.func37, Tryz.ntmps37
    go_wp2_with fail
    refine HN.out.mono ?_
    rintro e w1 ⟨rfl, h1, hg1⟩
    go_wp2_with fail
    go_ret
    exact ⟨by rw [wrap_64]; rfl, h1, hg1⟩
  · have hn : r.num = (0, r) := by unfold Rd.num; rw [raw_err h0]; rfl
    have e1 : (r.err != 0) = true := by rw [bne_iff_ne]; exact h0
    rw [hn]
    clear hn
    go_enter Tryz.func37, Tryz.ntmps37
    go_wp2_with fail
    go_ret
    exact ⟨rfl, h, World.grownBy.refl _ _⟩

set_option maxRecDepth 100000 in
theorem Text_any (b : Nat) (r : Rd) (w : World) (h : RdAt w b r) :
    Calls Tryz.prog 40 #[.pointer (some ⟨b, 0, none⟩)] w fun e w' => e = .returned (.string ⟨r.text.1.toArray⟩) ∧ RdAt w' b r.text.2 ∧ w.grownBy w' (some b) := by
  have hE := errCell h
  by_cases h0 : r.err = 0
  · have HN := Lib.hid (num_any b r w h0 h)
    have hb := raw_bound r
    have hn : r.text = (if r.raw.2.err ≠ 0 then ([], r.raw.2) else if r.raw.2.rest.length < r.raw.1 then ([], ⟨10, []⟩) else (r.raw.2.rest.take r.raw.1, ⟨0, r.raw.2.rest.drop r.raw.1⟩)) := rfl
    rw [hn]
    rw [h0] at hE
    generalize r.raw = q at *
    obtain ⟨u, r'⟩ := q
    dsimp only at hb HN ⊢
    clear hn h h0
    by_cases h1 : r'.err = 0
    · rw [if_neg (by simpa using h1)]
      have ht : (if r'.rest.length < u then ([], ⟨10, []⟩) else (r'.rest.take u, ⟨0, r'.rest.drop u⟩) : List UInt8 × Rd) = takeR r' u := rfl
      rw [ht]
      have HT := Lib.hid fun W (hW : RdAt W b r') => take_any b r' u hb W h1 hW
      go_enter Tryz.func40, Tryz.ntmps40
      go_wp2_with fail
      refine HN.out.mono ?_
      rintro e w1 ⟨rfl, hr1, hg1⟩
      have hE1 := errCell hr1
      rw [h1] at hE1
      go_wp2_with fail
      refine (HT.out _ hr1).mono ?_
      rintro e w2 ⟨rfl, hr2, hg2⟩
      go_wp2_with fail
      go_ret
      exact ⟨rfl, hr2, hg1.trans hg2⟩
    · rw [if_pos h1]
      have e1 : (r'.err != 0) = true := by rw [bne_iff_ne]; exact h1
      go_enter Tryz.func40, Tryz.ntmps40
      go_wp2_with fail
      refine HN.out.mono ?_
      rintro e w1 ⟨rfl, hr1, hg1⟩
      have hE1 := errCell hr1
      go_wp2_with fail
      go_ret
      exact ⟨rfl, hr1, hg1⟩
  · have hn : r.text = ([], r) := by unfold Rd.text; rw [raw_err h0]; simp [h0]
    have e1 : (r.err != 0) = true := by rw [bne_iff_ne]; exact h0
    rw [hn]
    clear hn
    go_enter Tryz.func40, Tryz.ntmps40
    go_wp2_with fail
    go_ret
    exact ⟨rfl, h, World.grownBy.refl _ _⟩

set_option maxRecDepth 100000 in
theorem Err_any (b : Nat) (r : Rd) (w : World) (h : RdAt w b r) :
    Calls Tryz.prog 44 #[.pointer (some ⟨b, 0, none⟩)] w fun e w' => e = .returned (.int .i64 r.err) ∧ w' = w := by
  have hE := errCell h
  go_enter Tryz.func44, Tryz.ntmps44
  go_wp2_with fail
  go_ret
  exact ⟨rfl, rfl⟩
set_option maxRecDepth 100000 in
theorem End_any (b : Nat) (r : Rd) (w : World) (h : RdAt w b r) :
    Calls Tryz.prog 45 #[.pointer (some ⟨b, 0, none⟩)] w fun e w' => e = .returned (.int .i64 r.fin) ∧ ∃ n, w' = w.drewN n := by
  have HE := Lib.hid (Err_any b r w h)
  by_cases h0 : r.err = 0
  · rw [h0] at HE
    obtain ⟨d, p, ⟨c0, c1, c2, hf, hl⟩, hp, hd, hr⟩ := h
    have hr := hr h0
    have hlen : r.rest.length = d.size - p := by rw [hr, List.length_drop, ← size_eq]
    by_cases hlt : (p : Int) < d.size
    · have HR := Lib.hid (show r.fin = 12 by
        have hne : r.rest ≠ [] := fun h => by rw [h] at hlen; simp at hlen; omega
        unfold Rd.fin; simp [h0, hne])
      clear hr hlen h0
      go_enter Tryz.func45, Tryz.ntmps45
      go_wp2_with fail
      refine HE.out.mono ?_
      rintro e w1 ⟨rfl, rfl⟩
      go_wp2_with fail
      go_quiet (fail)
      go_wp2_with fail
      go_ret
      rw [HR.out]
      exact ⟨rfl, _, rfl⟩
    · have HR := Lib.hid (show r.fin = 0 by
        have hne : r.rest = [] := List.length_eq_zero_iff.1 (by omega)
        unfold Rd.fin; simp [h0, hne])
      clear hr hlen h0
      go_enter Tryz.func45, Tryz.ntmps45
      go_wp2_with fail
      refine HE.out.mono ?_
      rintro e w1 ⟨rfl, rfl⟩
      go_wp2_with fail
      go_quiet (fail)
      go_wp2_with fail
      go_ret
      rw [HR.out]
      exact ⟨rfl, _, rfl⟩
  · have HR := Lib.hid (show r.fin = r.err by unfold Rd.fin; simp [h0])
    have e1 : (r.err != 0) = true := by rw [bne_iff_ne]; exact h0
    go_enter Tryz.func45, Tryz.ntmps45
    go_wp2_with fail
    refine HE.out.mono ?_
    rintro e w1 ⟨rfl, rfl⟩
    go_wp2_with fail
    go_ret
    rw [HR.out]
    exact ⟨rfl, Drawn.refl _⟩
set_option maxRecDepth 100000 in
theorem Read_any (d : ByteArray) (w : World) (hd : d.size ≤ 100000000) :
    Calls Tryz.prog 36 #[.string d] w fun e w' => e = .returned (.pointer (some ⟨w.heap.size, 0, none⟩)) ∧ RdAt w' w.heap.size ⟨0, d.data.toList⟩ ∧ Below w.heap.size w w' := by
  go_enter Tryz.func36, Tryz.ntmps36
  go_wp2_with fail
  go_ret
  refine ⟨rfl, ⟨d, 0, ⟨?_, ?_, ?_, fun i => ?_, ?_⟩, Nat.zero_le _, hd, fun _ => by simp⟩, (Below.refl _ _).alloc (Nat.le_refl _) _⟩
  all_goals simp
end Go.Proofs.YtlenpifjkbcmdaaGreatDoor
