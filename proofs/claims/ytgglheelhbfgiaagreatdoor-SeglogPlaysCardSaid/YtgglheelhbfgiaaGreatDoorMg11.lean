/-
  Slices of bytes of the call's own.
-/
import Derived.Test.YtgglheelhbfgiaaGreatDoorMg10
import Derived.Laws.Bits64b
import Derived.Test.YtgglheelhbfgiaaGreatDoorMg7
import Derived.Laws.BytesArg
namespace Go.Proofs.YtgglheelhbfgiaaGreatDoor
open Go Go.RowKit Go.Lib

theorem takeR_none {r : Rd} {n : Nat} (h : r.rest.length < n) : takeR r n = ([], ⟨10, []⟩) := by unfold takeR; rw [if_pos h]
theorem takeR_some {r : Rd} {n : Nat} (h : ¬ r.rest.length < n) : takeR r n = (r.rest.take n, ⟨0, r.rest.drop n⟩) := by unfold takeR; rw [if_neg h]
theorem errCell {W : World} {b : Nat} {r : Rd} (h : RdAt W b r) : W.cell? ⟨b, 2, none⟩ = some (.int .i64 r.err) := by
  obtain ⟨d, p, hc, _⟩ := h
  exact hc.2.2.1
theorem errFree {W : World} {b : Nat} {r : Rd} (h : RdAt W b r) : ∀ i, W.frozen? ⟨b, i, none⟩ = false := by
  obtain ⟨d, p, hc, _⟩ := h
  exact hc.2.2.2.1
theorem RdAt.setErr {W : World} {b : Nat} {r : Rd} (h : RdAt W b r) {e : Int} (he : e ≠ 0) : RdAt (W.setCell ⟨b, 2, none⟩ (.int .i64 e)) b ⟨e, []⟩ := by
  obtain ⟨d, p, hc, hp, hd, _⟩ := h
  exact ⟨d, p, hc.setErr e, hp, hd, fun h => absurd h he⟩

theorem first_text (c : UInt8) (l : List UInt8) : ∃ s : ByteArray, (⟨(c :: l).toArray⟩ : ByteArray) = s ∧ s.size = l.length + 1 ∧ (∃ h : 0 < s.size, (s[0]'h).toNat = c.toNat) ∧ s.toList.isEmpty = false :=
  ⟨_, rfl, by rw [size_eq]; simp, ⟨by rw [size_eq]; simp, rfl⟩, by rw [toList_data]; rfl⟩
theorem text_at (l : List UInt8) : ∃ s : ByteArray, (⟨l.toArray⟩ : ByteArray) = s ∧ s.size = l.length ∧ ∀ k (h : k < s.size), ∃ x, l[k]? = some x ∧ (s[k]'h).toNat = x.toNat := by
  refine ⟨_, rfl, by rw [size_eq], fun k h => ?_⟩
  have hk : k < l.length := by rw [size_eq] at h; simpa using h
  exact ⟨l[k], List.getElem?_eq_getElem hk, rfl⟩
theorem wrap_64 (n : Int) : IntKind.i64.wrap n = wrap64 n := by
  simp only [IntKind.wrap, IntKind.signed, IntKind.bits, wrap64]
  simp
  omega
set_option maxRecDepth 100000 in
theorem or_byte {a b : Nat} (h : a * 256 + b < 18446744073709551616) (hb : b < 256) : bits .or .u64 ((a : Int) * 256) (b : Int) = ((a * 256 + b : Nat) : Int) := by
  have e : (a : Int) * 256 = ((a * 256 : Nat) : Int) := by omega
  rw [e, bits_or_u64_nat _ _ (by omega) (by omega)]
  have := Nat.shiftLeft_add_eq_or_of_lt (i := 8) (b := b) (by omega) a
  rw [Nat.shiftLeft_eq] at this
  rw [← this]
theorem valL_step {l : List UInt8} {k : Nat} {x : UInt8} (h : l[k]? = some x) : valL (l.take (k + 1)) = valL (l.take k) * 256 + x.toNat := by
  rw [List.take_add_one, h, Option.toList_some, valL_snoc]

set_option maxRecDepth 100000 in
set_option maxHeartbeats 1600000 in
theorem num_any (b : Nat) (r : Rd) (w : World) (h0 : r.err = 0) (h : RdAt w b r) :
    Calls Tryz.prog 141 #[.pointer (some ⟨b, 0, none⟩)] w fun e w' => e = .returned (.int .u64 r.raw.1) ∧ RdAt w' b r.raw.2 ∧ w.grownBy w' (some b) := by
  obtain ⟨err, rest⟩ := r
  obtain rfl : err = 0 := h0
  have H1 := Lib.hid (take_any b ⟨0, rest⟩ 1 (by decide) w rfl h)
  cases rest with
  | nil =>
    rw [takeR_none (by simp)] at H1
    go_enter Tryz.func141, Tryz.ntmps141
    go_wp2_with fail
    refine H1.out.mono ?_
    rintro e w1 ⟨rfl, h1, hg1⟩
    have hE := errCell h1
    go_wp2_with fail
    go_ret
    exact ⟨rfl, h1, hg1⟩
  | cons c t =>
    rw [takeR_some (by simp)] at H1
    have e1 : (List.take 1 (c :: t)) = [c] := rfl
    have e2 : (List.drop 1 (c :: t)) = t := rfl
    have hc := c.toNat_lt
    dsimp only at H1
    rw [e1, e2] at H1
    clear e1 e2
    obtain ⟨s1, he1, hz1, ⟨hz2, hb1⟩, _⟩ := first_text c []
    rw [he1] at H1
    clear he1
    have hz1 : (0 : Int) < s1.size := by omega
    by_cases h8 : 8 < c.toNat
    · have HR := Lib.hid (raw_wide (t := t) h8)
      have h8' : (8 : Int) < c.toNat := by omega
      go_enter Tryz.func141, Tryz.ntmps141
      go_wp2_with fail
      refine H1.out.mono ?_
      rintro e w1 ⟨rfl, h1, hg1⟩
      have hE := errCell h1
      have hF := errFree h1
      go_wp2_with fail
      go_ret
      rw [HR.out]
      exact ⟨rfl, h1.setErr (by decide), hg1.trans (grown_cell _ b 2 _)⟩
    · have h8' : ¬ ((8 : Int) < c.toNat) := by omega
      have H2 := Lib.hid fun W (hW : RdAt W b ⟨0, t⟩) => take_any b ⟨0, t⟩ c.toNat (by omega) W rfl hW
      by_cases hs : t.length < c.toNat
      · have HR := Lib.hid (raw_short h8 hs)
        rw [takeR_none hs] at H2
        go_enter Tryz.func141, Tryz.ntmps141
        go_wp2_with fail
        refine H1.out.mono ?_
        rintro e w1 ⟨rfl, h1, hg1⟩
        have hE := errCell h1
        go_wp2_with fail
        refine (H2.out _ h1).mono ?_
        rintro e w2 ⟨rfl, h2, hg2⟩
        go_wp2_with fail
        go_loop [5, 39] (fun u i => u = .int .u64 0 ∧ i = .int .i64 0) (fun _ _ => 0)
        case atStart => exact ⟨rfl, rfl⟩
        case round =>
          obtain ⟨rfl, rfl⟩ := hrel
          go_wp2_with fail
          go_ret
          rw [HR.out]
          exact ⟨rfl, h2, hg1.trans hg2⟩
      · rw [takeR_some hs] at H2
        dsimp only at H2
        by_cases h3 : c.toNat ≠ 0 ∧ t[0]? = some 0
        · have HR := Lib.hid (raw_zero h8 hs h3)
          obtain ⟨h31, h32⟩ := h3
          obtain ⟨t', rfl⟩ : ∃ t', t = 0 :: t' := by
            cases t with
            | nil => cases h32
            | cons a t' => simp at h32; subst h32; exact ⟨t', rfl⟩
          obtain ⟨m, hm⟩ : ∃ m, c.toNat = m + 1 := ⟨c.toNat - 1, by omega⟩
          have e3 : List.take c.toNat (0 :: t') = 0 :: t'.take m := by rw [hm]; rfl
          rw [e3] at H2
          obtain ⟨s2, he2, _, ⟨hz4, hb2⟩, hne⟩ := first_text 0 (t'.take m)
          rw [he2] at H2
          have hz3 : (0 : Int) < s2.size := by omega
          have e4 : (((s2[0]'hz4).toNat : Int) == 0) = true := by rw [hb2]; rfl
          clear he2 hb2
          clear h31 h32 hm e3
          go_enter Tryz.func141, Tryz.ntmps141
          go_wp2_with fail
          refine H1.out.mono ?_
          rintro e w1 ⟨rfl, h1, hg1⟩
          have hE := errCell h1
          go_wp2_with fail
          refine (H2.out _ h1).mono ?_
          rintro e w2 ⟨rfl, h2, hg2⟩
          have hE2 := errCell h2
          have hF := errFree h2
          go_wp2_with fail
          go_ret
          rw [HR.out]
          exact ⟨rfl, h2.setErr (by decide), (hg1.trans hg2).trans (grown_cell _ b 2 _)⟩
        · have HR := Lib.hid (raw_ok h8 hs h3)
          have hlen : (t.take c.toNat).length = c.toNat := by rw [List.length_take]; omega
          have hfirst : ∀ a l, t.take c.toNat = a :: l → a ≠ 0 := by
            intro a l he ha
            apply h3
            subst ha
            refine ⟨fun h => by rw [h] at he; simp at he, ?_⟩
            cases t with
            | nil => simp at he
            | cons x t' =>
              obtain ⟨m, hm⟩ : ∃ m, c.toNat = m + 1 := ⟨c.toNat - 1, by
                have : c.toNat ≠ 0 := fun h => by rw [h] at he; simp at he
                omega⟩
              rw [hm, List.take_succ_cons] at he
              injection he with he1
              rw [he1]; rfl
          have hbound := valL_lt (t.take c.toNat)
          have h64 : valL (t.take c.toNat) < 18446744073709551616 := Nat.lt_of_lt_of_le hbound (Nat.pow_le_pow_right (n := 256) (by omega) (show (t.take c.toNat).length ≤ 8 by omega))
          generalize t.take c.toNat = s at *
          obtain ⟨s2, he2, hsz2, hat2⟩ := text_at s
          rw [he2] at H2
          have hsl : s.length ≤ 8 := by omega
          have hval : ∀ k, valL (s.take k) < 18446744073709551616 := by
            intro k
            have h1 := valL_lt (s.take k)
            exact Nat.lt_of_lt_of_le h1 (Nat.pow_le_pow_right (n := 256) (by omega) (show (s.take k).length ≤ 8 by rw [List.length_take]; omega))
          have Hval := Lib.hid hval
          have Hfirst : s2.toList.isEmpty = false → ∃ h : 0 < s2.size, ((s2[0]'h).toNat : Int) ≠ 0 := by
            intro hne
            cases s with
            | nil => rw [← he2, toList_data] at hne; cases hne
            | cons a l =>
              have hz : 0 < s2.size := by rw [hsz2]; simp
              obtain ⟨x, hx, hxe⟩ := hat2 0 hz
              cases hx
              refine ⟨hz, ?_⟩
              have := hfirst a l rfl
              rw [hxe]
              intro h
              exact this (by rw [← UInt8.toNat_inj]; have : (0 : UInt8).toNat = 0 := rfl; omega)
          have Hat := Lib.hid hat2
          clear hval hfirst hbound h64 hat2 he2 h3 hs
          cases hemp : s2.toList.isEmpty with
          | true =>
            have hs0 : s = [] := by
              have h5 : s2.size = 0 := by rw [size_eq, ← toList_data, List.isEmpty_iff.1 hemp]; rfl
              exact List.length_eq_zero_iff.1 (by omega)
            subst hs0
            have hz0 : s2.size = 0 := hsz2
            clear Hfirst Hat Hval
            go_enter Tryz.func141, Tryz.ntmps141
            go_wp2_with fail
            refine H1.out.mono ?_
            rintro e w1 ⟨rfl, h1, hg1⟩
            have hE := errCell h1
            go_wp2_with fail
            refine (H2.out _ h1).mono ?_
            rintro e w2 ⟨rfl, h2, hg2⟩
            have hE2 := errCell h2
            go_wp2_with fail
            go_loop [5, 39] (fun u i => u = .int .u64 0 ∧ i = .int .i64 0) (fun _ _ => 0)
            case atStart => exact ⟨rfl, rfl⟩
            case round =>
              obtain ⟨rfl, rfl⟩ := hrel
              go_wp2_with fail
              go_ret
              rw [HR.out]
              exact ⟨rfl, h2, hg1.trans hg2⟩
          | false =>
            obtain ⟨hz4, hne4⟩ := Hfirst hemp
            have hz3 : (0 : Int) < s2.size := by omega
            have e4 : (((s2[0]'hz4).toNat : Int) == 0) = false := by rw [beq_eq_false_iff_ne]; exact hne4
            clear Hfirst hne4
            go_enter Tryz.func141, Tryz.ntmps141
            go_wp2_with fail
            refine H1.out.mono ?_
            rintro e w1 ⟨rfl, h1, hg1⟩
            have hE := errCell h1
            go_wp2_with fail
            refine (H2.out _ h1).mono ?_
            rintro e w2 ⟨rfl, h2, hg2⟩
            go_wp2_with fail
            go_loop [5, 39] (fun u i => ∃ k : Nat, k ≤ s.length ∧ u = .int .u64 (valL (s.take k)) ∧ i = .int .i64 k) (fun _ i => s.length - (RowKit.intOf i).toNat)
            case atStart => exact ⟨0, Nat.zero_le _, rfl, rfl⟩
            case round =>
              obtain ⟨k, hk, rfl, rfl⟩ := hrel
              by_cases hlt : k < s.length
              · have hk2 : k < s2.size := by omega
                obtain ⟨x, hx, hxe⟩ := Hat.out k hk2
                have hst := valL_step hx
                have hv := Hval.out (k + 1)
                rw [hst] at hv
                have hx256 := x.toNat_lt
                have hor := or_byte hv hx256
                rw [← hst] at hor
                have Hor := Lib.hid hor
                clear hst hor hx Hval
                go_wp2_with fail
                go_round
                case rel => exact ⟨k + 1, by omega, by rw [Hor.out], by go_num⟩
                case measure => simp [RowKit.intOf]; omega
              · obtain rfl : k = s.length := by omega
                rw [List.take_length]
                go_wp2_with fail
                go_ret
                rw [HR.out]
                exact ⟨rfl, h2, hg1.trans hg2⟩

set_option maxRecDepth 100000 in
theorem Num_any (b : Nat) (r : Rd) (w : World) (h : RdAt w b r) :
    Calls Tryz.prog 118 #[.pointer (some ⟨b, 0, none⟩)] w fun e w' => e = .returned (.int .i64 r.num.1) ∧ RdAt w' b r.num.2 ∧ w.grownBy w' (some b) := by
  have hE := errCell h
  by_cases h0 : r.err = 0
  · have HN := Lib.hid (num_any b r w h0 h)
    have hb := raw_bound r
    have hn : r.num = (IntKind.i64.wrap r.raw.1, r.raw.2) := rfl
    rw [hn]
    rw [h0] at hE
    generalize r.raw = q at *
    obtain ⟨u, r'⟩ := q
    dsimp only at hb HN ⊢
    clear hn h h0
    go_enter Tryz.func118, Tryz.ntmps118
    go_wp2_with fail
    refine HN.out.mono ?_
    rintro e w1 ⟨rfl, h1, hg1⟩
    go_wp2_with fail
    go_ret
    exact ⟨by rw [wrap_64]; rfl, h1, hg1⟩
  · have hn : r.num = (0, r) := by unfold Rd.num; rw [raw_err h0]; rfl
    have e1 : (r.err != 0) = true := by rw [bne_iff_ne]; exact h0
    rw [hn]
    clear hn
    go_enter Tryz.func118, Tryz.ntmps118
    go_wp2_with fail
    go_ret
    exact ⟨rfl, h, World.grownBy.refl _ _⟩

set_option maxRecDepth 100000 in
theorem Text_any (b : Nat) (r : Rd) (w : World) (h : RdAt w b r) :
    Calls Tryz.prog 119 #[.pointer (some ⟨b, 0, none⟩)] w fun e w' => e = .returned (.string ⟨r.text.1.toArray⟩) ∧ RdAt w' b r.text.2 ∧ w.grownBy w' (some b) := by
  have hE := errCell h
  by_cases h0 : r.err = 0
  · have HN := Lib.hid (num_any b r w h0 h)
    have hb := raw_bound r
    have hn : r.text = (if r.raw.2.err ≠ 0 then ([], r.raw.2) else if r.raw.2.rest.length < r.raw.1 then ([], ⟨10, []⟩) else (r.raw.2.rest.take r.raw.1, ⟨0, r.raw.2.rest.drop r.raw.1⟩)) := rfl
    rw [hn]
    rw [h0] at hE
    generalize r.raw = q at *
    obtain ⟨u, r'⟩ := q
    dsimp only at hb HN ⊢
    clear hn h h0
    by_cases h1 : r'.err = 0
    · rw [if_neg (by simpa using h1)]
      have ht : (if r'.rest.length < u then ([], ⟨10, []⟩) else (r'.rest.take u, ⟨0, r'.rest.drop u⟩) : List UInt8 × Rd) = takeR r' u := rfl
      rw [ht]
      have HT := Lib.hid fun W (hW : RdAt W b r') => take_any b r' u hb W h1 hW
      go_enter Tryz.func119, Tryz.ntmps119
      go_wp2_with fail
      refine HN.out.mono ?_
      rintro e w1 ⟨rfl, hr1, hg1⟩
      have hE1 := errCell hr1
      rw [h1] at hE1
      go_wp2_with fail
      refine (HT.out _ hr1).mono ?_
      rintro e w2 ⟨rfl, hr2, hg2⟩
      go_wp2_with fail
      go_ret
      exact ⟨rfl, hr2, hg1.trans hg2⟩
    · rw [if_pos h1]
      have e1 : (r'.err != 0) = true := by rw [bne_iff_ne]; exact h1
      go_enter Tryz.func119, Tryz.ntmps119
      go_wp2_with fail
      refine HN.out.mono ?_
      rintro e w1 ⟨rfl, hr1, hg1⟩
      have hE1 := errCell hr1
      go_wp2_with fail
      go_ret
      exact ⟨rfl, hr1, hg1⟩
  · have hn : r.text = ([], r) := by unfold Rd.text; rw [raw_err h0]; simp [h0]
    have e1 : (r.err != 0) = true := by rw [bne_iff_ne]; exact h0
    rw [hn]
    clear hn
    go_enter Tryz.func119, Tryz.ntmps119
    go_wp2_with fail
    go_ret
    exact ⟨rfl, h, World.grownBy.refl _ _⟩

set_option maxRecDepth 100000 in
theorem Err_any (b : Nat) (r : Rd) (w : World) (h : RdAt w b r) :
    Calls Tryz.prog 120 #[.pointer (some ⟨b, 0, none⟩)] w fun e w' => e = .returned (.int .i64 r.err) ∧ w' = w := by
  have hE := errCell h
  go_enter Tryz.func120, Tryz.ntmps120
  go_wp2_with fail
  go_ret
  exact ⟨rfl, rfl⟩
set_option maxRecDepth 100000 in
theorem End_any (b : Nat) (r : Rd) (w : World) (h : RdAt w b r) :
    Calls Tryz.prog 122 #[.pointer (some ⟨b, 0, none⟩)] w fun e w' => e = .returned (.int .i64 r.fin) ∧ ∃ n, w' = w.drewN n := by
  have HE := Lib.hid (Err_any b r w h)
  by_cases h0 : r.err = 0
  · rw [h0] at HE
    obtain ⟨d, p, ⟨c0, c1, c2, hf, hl⟩, hp, hd, hr⟩ := h
    have hr := hr h0
    have hlen : r.rest.length = d.size - p := by rw [hr, List.length_drop, ← size_eq]
    by_cases hlt : (p : Int) < d.size
    · have HR := Lib.hid (show r.fin = 12 by
        have hne : r.rest ≠ [] := fun h => by rw [h] at hlen; simp at hlen; omega
        unfold Rd.fin; simp [h0, hne])
      clear hr hlen h0
      go_enter Tryz.func122, Tryz.ntmps122
      go_wp2_with fail
      refine HE.out.mono ?_
      rintro e w1 ⟨rfl, rfl⟩
      go_wp2_with fail
      go_quiet (fail)
      go_wp2_with fail
      go_ret
      rw [HR.out]
      exact ⟨rfl, _, rfl⟩
    · have HR := Lib.hid (show r.fin = 0 by
        have hne : r.rest = [] := List.length_eq_zero_iff.1 (by omega)
        unfold Rd.fin; simp [h0, hne])
      clear hr hlen h0
      go_enter Tryz.func122, Tryz.ntmps122
      go_wp2_with fail
      refine HE.out.mono ?_
      rintro e w1 ⟨rfl, rfl⟩
      go_wp2_with fail
      go_quiet (fail)
      go_wp2_with fail
      go_ret
      rw [HR.out]
      exact ⟨rfl, _, rfl⟩
  · have HR := Lib.hid (show r.fin = r.err by unfold Rd.fin; simp [h0])
    have e1 : (r.err != 0) = true := by rw [bne_iff_ne]; exact h0
    go_enter Tryz.func122, Tryz.ntmps122
    go_wp2_with fail
    refine HE.out.mono ?_
    rintro e w1 ⟨rfl, rfl⟩
    go_wp2_with fail
    go_ret
    rw [HR.out]
    exact ⟨rfl, Drawn.refl _⟩
set_option maxRecDepth 100000 in
theorem Read_any (d : ByteArray) (w : World) (hd : d.size ≤ 100000000) :
    Calls Tryz.prog 117 #[.string d] w fun e w' => e = .returned (.pointer (some ⟨w.heap.size, 0, none⟩)) ∧ RdAt w' w.heap.size ⟨0, d.data.toList⟩ ∧ Below w.heap.size w w' := by
  go_enter Tryz.func117, Tryz.ntmps117
  go_wp2_with fail
  go_ret
  refine ⟨rfl, ⟨d, 0, ⟨?_, ?_, ?_, fun i => ?_, ?_⟩, Nat.zero_le _, hd, fun _ => by simp⟩, (Below.refl _ _).alloc (Nat.le_refl _) _⟩
  all_goals simp
end Go.Proofs.YtgglheelhbfgiaaGreatDoor

namespace Go.Proofs.YtgglheelhbfgiaaGreatDoor
open Go Go.RowKit Go.Lib

/-- arbourref01.Reader's cells. -/
def RrCells (W : World) (b : Nat) (d : ByteArray) (e : Int) : Prop := W.cell? ⟨b, 0, none⟩ = some (.string d) ∧ W.cell? ⟨b, 1, none⟩ = some (.int .i64 e) ∧ (∀ i, W.frozen? ⟨b, i, none⟩ = false) ∧ b < W.heap.size
theorem RrCells.keeps {W W' : World} {b : Nat} {d : ByteArray} {e : Int} (h : RrCells W b d e) {B : Nat} (hb : Below B W W') (hlt : b < B) : RrCells W' b d e := by
  obtain ⟨h0, h1, hf, hl⟩ := h
  exact ⟨(hb.cell (p := ⟨b, 0, none⟩) hlt).trans h0, (hb.cell (p := ⟨b, 1, none⟩) hlt).trans h1, fun i => (hb.frozen (p := ⟨b, i, none⟩) hlt).trans (hf i), Nat.lt_of_lt_of_le hl hb.size⟩
theorem RrCells.setErr {W : World} {b : Nat} {d : ByteArray} {e : Int} (h : RrCells W b d e) (e' : Int) : RrCells (W.setCell ⟨b, 1, none⟩ (.int .i64 e')) b d e' := by
  obtain ⟨h0, h1, hf, hl⟩ := h
  refine ⟨?_, World.cell?_setCell_same _ _ _ h1, fun i => by simpa using hf i, by simpa using hl⟩
  rw [World.cell?_setCell_other _ _ _ _ (by simp)]; exact h0
theorem RrCells.setText {W : World} {b : Nat} {d : ByteArray} {e : Int} (h : RrCells W b d e) (d' : ByteArray) : RrCells (W.setCell ⟨b, 0, none⟩ (.string d')) b d' e := by
  obtain ⟨h0, h1, hf, hl⟩ := h
  refine ⟨World.cell?_setCell_same _ _ _ h0, ?_, fun i => by simpa using hf i, by simpa using hl⟩
  rw [World.cell?_setCell_other _ _ _ _ (by simp)]; exact h1
def RrAt (W : World) (b : Nat) (r : Rd) : Prop := ∃ d : ByteArray, RrCells W b d r.err ∧ d.size ≤ 100000000 ∧ (r.err = 0 → r.rest = d.data.toList)
theorem RrAt.keeps {W W' : World} {b : Nat} {r : Rd} (h : RrAt W b r) {B : Nat} (hb : Below B W W') (hlt : b < B) : RrAt W' b r := by
  obtain ⟨d, hc, r⟩ := h
  exact ⟨d, hc.keeps hb hlt, r⟩
theorem RrAt.lt {W : World} {b : Nat} {r : Rd} (h : RrAt W b r) : b < W.heap.size := by
  obtain ⟨d, hc, _⟩ := h
  exact hc.2.2.2
theorem rrCell {W : World} {b : Nat} {r : Rd} (h : RrAt W b r) : W.cell? ⟨b, 1, none⟩ = some (.int .i64 r.err) := by
  obtain ⟨d, hc, _⟩ := h
  exact hc.2.1
theorem drop_extract (d : ByteArray) (n : Nat) : (d.extract n d.size).data.toList = d.data.toList.drop n := by
  rw [ByteArray.data_extract, Array.toList_extract, List.extract_eq_take_drop, List.take_of_length_le (by rw [List.length_drop, ← size_eq]; exact Nat.le_refl _)]
theorem drop_size (d : ByteArray) (n : Nat) : (d.extract n d.size).size ≤ d.size := by rw [ByteArray.size_extract]; omega
theorem list_at (d : ByteArray) (k : Nat) (h : k < d.size) : d.data.toList[k]? = some d[k] := List.getElem?_eq_getElem (by rw [← size_eq]; exact h)

set_option maxRecDepth 100000 in
set_option maxHeartbeats 1600000 in
theorem rNum_any (b : Nat) (r : Rd) (w : World) (h : RrAt w b r) :
    Calls Tryz.prog 96 #[.pointer (some ⟨b, 0, none⟩)] w fun e w' => e = .returned (.int .i64 r.num.1) ∧ RrAt w' b r.num.2 ∧ w.grownBy w' (some b) := by
  obtain ⟨err, rest⟩ := r
  have h' := h
  obtain ⟨d, hcs, hd, hr⟩ := h'
  have hcs' := hcs
  obtain ⟨c0, c1, hf, hl⟩ := hcs'
  dsimp only at hcs c1 hr
  by_cases h0 : err = 0
  · subst h0
    obtain rfl := hr rfl
    have hn : Rd.num ⟨0, d.data.toList⟩ = (IntKind.i64.wrap (Rd.raw ⟨0, d.data.toList⟩).1, (Rd.raw ⟨0, d.data.toList⟩).2) := rfl
    by_cases hz : d.size = 0
    · have hl0 : d.data.toList = [] := List.length_eq_zero_iff.1 (by rw [← size_eq]; exact hz)
      rw [hl0] at hn
      rw [raw_none] at hn
      have HR := Lib.hid hn
      have ez : ((d.size : Int) == 0) = true := by rw [beq_iff_eq]; omega
      rw [hl0]
      clear hn hl0 hr h
      go_enter Tryz.func96, Tryz.ntmps96
      go_wp2_with fail
      go_ret
      rw [HR.out]
      exact ⟨rfl, ⟨d, hcs.setErr 10, hd, fun h => by cases h⟩, grown_cell _ b 1 _⟩
    · have hpos : 0 < d.size := by omega
      have hposI : (0 : Int) < d.size := by omega
      have ez : ((d.size : Int) == 0) = false := by rw [beq_eq_false_iff_ne]; omega
      obtain ⟨t, ht⟩ : ∃ t, d.data.toList = d[0] :: t := by
        have := list_at d 0 hpos
        cases hd0 : d.data.toList with
        | nil => rw [hd0] at this; cases this
        | cons a t => rw [hd0] at this; cases this; exact ⟨t, rfl⟩
      have hsz : t.length + 1 = d.size := by rw [size_eq, ht]; rfl
      have hat : ∀ k (hk : k + 1 < d.size), t[k]? = some (d[k + 1]'hk) := fun k hk => by
        have := list_at d (k + 1) hk
        rw [ht] at this
        exact this
      rw [ht] at hn ⊢
      have hc256 := (d[0]).toNat_lt
      clear hr h
      generalize hcc : d[0].toNat = n at *
      by_cases h8 : 8 < n
      · rw [raw_wide (by omega)] at hn
        have HR := Lib.hid hn
        have h8' : (8 : Int) < n := by omega
        clear hn hat
        go_enter Tryz.func96, Tryz.ntmps96
        go_wp2_with fail
        go_ret
        rw [HR.out]
        exact ⟨rfl, ⟨d, hcs.setErr 11, hd, fun h => by cases h⟩, grown_cell _ b 1 _⟩
      · have h8' : ¬ ((8 : Int) < n) := by omega
        by_cases hs : t.length < n
        · rw [raw_short (by omega) (by omega)] at hn
          have HR := Lib.hid hn
          have hs' : (d.size : Int) < 1 + n := by omega
          clear hn hat
          go_enter Tryz.func96, Tryz.ntmps96
          go_wp2_with fail
          go_ret
          rw [HR.out]
          exact ⟨rfl, ⟨d, hcs.setErr 10, hd, fun h => by cases h⟩, grown_cell _ b 1 _⟩
        · have hs' : ¬ ((d.size : Int) < 1 + n) := by omega
          have key : n ≠ 0 ∧ t[0]? = some 0 ∨ ¬ (n ≠ 0 ∧ t[0]? = some 0) := Decidable.em _
          rcases key with h3 | h3
          · rw [raw_zero (by omega) (by omega) (by rw [hcc]; exact h3)] at hn
            have HR := Lib.hid hn
            have h1s : 1 < d.size := by omega
            have h1I : (1 : Int) < d.size := by omega
            have hn0 : (0 : Int) < n := by omega
            have e1 : (((d[1]'h1s).toNat : Int) == 0) = true := by
              have := hat 0 h1s
              rw [h3.2] at this
              have := Option.some.inj this
              rw [← this]; rfl
            clear hn hat h3
            go_enter Tryz.func96, Tryz.ntmps96
            go_wp2_with fail
            go_ret
            rw [HR.out]
            exact ⟨rfl, ⟨d, hcs.setErr 11, hd, fun h => by cases h⟩, grown_cell _ b 1 _⟩
          · rw [raw_ok (by omega) (by omega) (by rw [hcc]; exact h3), hcc] at hn
            have HR := Lib.hid hn
            have hval : ∀ k, valL ((t.take n).take k) < 18446744073709551616 := by
              intro k
              have h1 := valL_lt ((t.take n).take k)
              exact Nat.lt_of_lt_of_le h1 (Nat.pow_le_pow_right (n := 256) (by omega) (show ((t.take n).take k).length ≤ 8 by rw [List.length_take, List.length_take]; omega))
            have Hval := Lib.hid hval
            have Hat := Lib.hid hat
            have Hrest := Lib.hid (show t.drop n = (d.extract (1 + n) d.size).data.toList by rw [drop_extract, ht, Nat.add_comm 1 n, List.drop_succ_cons])
            have Hz := Lib.hid (drop_size d (1 + n))
            have hn8 : n ≤ 8 := by omega
            have hfirst : 0 < n → ∃ h1s : 1 < d.size, (((d[1]'h1s).toNat : Int) == 0) = false := by
              intro hn0
              refine ⟨by omega, ?_⟩
              rw [beq_eq_false_iff_ne]
              intro he
              apply h3
              refine ⟨by omega, ?_⟩
              rw [hat 0 (by omega)]
              congr 1
              rw [← UInt8.toNat_inj]
              show (d[1]'(by omega)).toNat = 0
              omega
            clear hn hat hval h3
            rcases Nat.eq_zero_or_pos n with hn0 | hn0
            · subst hn0
              clear hfirst
              go_enter Tryz.func96, Tryz.ntmps96
              go_wp2_with fail
              go_loop [4, 5] (fun u i => u = .int .u64 0 ∧ i = .int .i64 1) (fun _ _ => 0)
              case atStart => exact ⟨rfl, rfl⟩
              case round =>
                obtain ⟨rfl, rfl⟩ := hrel
                go_wp2_with fail
                go_ret
                rw [HR.out]
                exact ⟨rfl, ⟨_, hcs.setText _, Nat.le_trans Hz.out hd, fun _ => Hrest.out⟩, grown_cell _ b 0 _⟩
            · obtain ⟨h1s, e1⟩ := hfirst hn0
              have h1I : (1 : Int) < d.size := by omega
              have hn0' : (0 : Int) < n := by omega
              clear hfirst
              go_enter Tryz.func96, Tryz.ntmps96
              go_wp2_with fail
              go_loop [4, 5] (fun u i => ∃ k : Nat, k ≤ n ∧ u = .int .u64 (valL ((t.take n).take k)) ∧ i = .int .i64 (k + 1 : Nat)) (fun _ i => n + 1 - (RowKit.intOf i).toNat)
              case atStart => exact ⟨0, Nat.zero_le _, rfl, rfl⟩
              case round =>
                obtain ⟨k, hk, rfl, rfl⟩ := hrel
                by_cases hlt : k < n
                · have hk2 : k + 1 < d.size := by omega
                  have hst := valL_step (l := t.take n) (k := k) (x := d[k + 1]'hk2) (by rw [List.getElem?_take, if_pos hlt]; exact Hat.out k hk2)
                  have hv := Hval.out (k + 1)
                  rw [hst] at hv
                  have hx256 := (d[k + 1]'hk2).toNat_lt
                  have Hst := Lib.hid hst
                  clear hst Hval
                  go_wp2_with fail
                  go_round
                  case rel => exact ⟨k + 1, by omega, by rw [Hst.out]; go_num, by go_num⟩
                  case measure => simp [RowKit.intOf]; omega
                · obtain rfl : k = n := by omega
                  rw [show (t.take k).take k = t.take k by rw [List.take_take, Nat.min_self]]
                  go_wp2_with fail
                  go_ret
                  rw [HR.out]
                  exact ⟨by rw [wrap_64]; rfl, ⟨_, hcs.setText _, Nat.le_trans Hz.out hd, fun _ => Hrest.out⟩, grown_cell _ b 0 _⟩
  · have hn : Rd.num ⟨err, rest⟩ = (0, ⟨err, rest⟩) := by unfold Rd.num; rw [raw_err h0]; rfl
    have e1 : (err != 0) = true := by rw [bne_iff_ne]; exact h0
    rw [hn]
    clear hn hr
    go_enter Tryz.func96, Tryz.ntmps96
    go_wp2_with fail
    go_ret
    exact ⟨rfl, h, World.grownBy.refl _ _⟩

theorem u64_wrap64 (u : Nat) (h : u < 18446744073709551616) : IntKind.u64.wrap (wrap64 (u : Int)) = u := by
  simp only [IntKind.wrap, IntKind.signed, IntKind.bits, wrap64]
  simp
  omega
theorem wrap64_small {u : Nat} (h : u ≤ 1000000000) : wrap64 (u : Int) = u := by unfold wrap64; omega

set_option maxRecDepth 100000 in
set_option maxHeartbeats 800000 in
theorem rText_any (b : Nat) (r : Rd) (w : World) (h : RrAt w b r) :
    Calls Tryz.prog 97 #[.pointer (some ⟨b, 0, none⟩)] w fun e w' => e = .returned (.string ⟨r.text.1.toArray⟩) ∧ RrAt w' b r.text.2 ∧ w.grownBy w' (some b) := by
  have HN := Lib.hid (rNum_any b r w h)
  have hb := raw_bound r
  have hn : r.num = (wrap64 r.raw.1, r.raw.2) := by unfold Rd.num; rw [wrap_64]
  have ht : r.text = (if r.raw.2.err ≠ 0 then ([], r.raw.2) else if r.raw.2.rest.length < r.raw.1 then ([], ⟨10, []⟩) else (r.raw.2.rest.take r.raw.1, ⟨0, r.raw.2.rest.drop r.raw.1⟩)) := rfl
  rw [hn] at HN
  rw [ht]
  generalize r.raw = q at *
  obtain ⟨u, r'⟩ := q
  dsimp only at hb HN ⊢
  clear hn ht h
  by_cases h1 : r'.err = 0
  · rw [if_neg (by simpa using h1)]
    by_cases hs : r'.rest.length < u
    · rw [if_pos hs]
      have hcv := u64_wrap64 u hb
      go_enter Tryz.func97, Tryz.ntmps97
      go_wp2_with fail
      refine HN.out.mono ?_
      rintro e w1 ⟨rfl, hr1, hg1⟩
      obtain ⟨d, hcs, hd, hr⟩ := hr1
      have hr := hr h1
      have hcs' := hcs
      obtain ⟨c0, c1, hf, hl⟩ := hcs'
      rw [h1] at c1
      have hsz : d.size < u := by rw [size_eq, ← hr]; exact hs
      clear hr
      generalize hwu : wrap64 (u : Int) = n at *
      go_wp2_with fail
      go_ret
      exact ⟨rfl, ⟨d, hcs.setErr 10, hd, fun h => by cases h⟩, hg1.trans (grown_cell _ b 1 _)⟩
    · rw [if_neg hs]
      go_enter Tryz.func97, Tryz.ntmps97
      go_wp2_with fail
      refine HN.out.mono ?_
      rintro e w1 ⟨rfl, hr1, hg1⟩
      obtain ⟨d, hcs, hd, hr⟩ := hr1
      have hr := hr h1
      have hcs' := hcs
      obtain ⟨c0, c1, hf, hl⟩ := hcs'
      rw [h1] at c1
      have hsz : ¬ d.size < u := by rw [size_eq, ← hr]; exact hs
      rw [wrap64_small (show u ≤ 1000000000 by omega)]
      have Hr := Lib.hid hr
      clear hr hs
      go_wp2_with fail
      go_ret
      refine ⟨?_, ⟨_, (h1 ▸ hcs).setText (d.extract u d.size), Nat.le_trans (drop_size d u) hd, fun _ => ?_⟩, hg1.trans (grown_cell _ b 0 _)⟩
      · have := ret_text (d := d) (p := 0) (n := u) (l := r'.rest.take u) (by rw [Hr.out]; rfl)
        rw [Nat.zero_add] at this
        exact this
      · rw [drop_extract, Hr.out]
  · rw [if_pos h1]
    have e1 : (r'.err != 0) = true := by rw [bne_iff_ne]; exact h1
    have e2 : (r'.err == 0) = false := by rw [beq_eq_false_iff_ne]; exact h1
    go_enter Tryz.func97, Tryz.ntmps97
    go_wp2_with fail
    refine HN.out.mono ?_
    rintro e w1 ⟨rfl, hr1, hg1⟩
    have hE1 := rrCell hr1
    go_wp2_with fail
    go_ret
    exact ⟨rfl, hr1, hg1⟩

set_option maxRecDepth 100000 in
theorem rEnd_any (b : Nat) (r : Rd) (w : World) (h : RrAt w b r) :
    Calls Tryz.prog 99 #[.pointer (some ⟨b, 0, none⟩)] w fun e w' => e = .returned (.int .i64 r.fin) ∧ w' = w := by
  obtain ⟨d, ⟨c0, c1, hf, hl⟩, hd, hr⟩ := h
  by_cases h0 : r.err = 0
  · have hr := hr h0
    rw [h0] at c1
    by_cases hz : d = ⟨#[]⟩
    · have HR := Lib.hid (show r.fin = 0 by
        have hne : r.rest = [] := by rw [hr, hz]
        unfold Rd.fin; simp [h0, hne])
      subst hz
      clear hr h0
      go_enter Tryz.func99, Tryz.ntmps99
      go_wp2_with fail
      go_ret
      rw [HR.out]
      exact ⟨rfl, rfl⟩
    · have HR := Lib.hid (show r.fin = 12 by
        have hne : r.rest ≠ [] := fun h => hz (by apply ba_ext; rw [← hr, h])
        unfold Rd.fin; simp [h0, hne])
      have e1 := empty_ne hz
      clear hr h0 hz
      go_enter Tryz.func99, Tryz.ntmps99
      go_wp2_with fail
      go_ret
      rw [HR.out]
      exact ⟨rfl, rfl⟩
  · have HR := Lib.hid (show r.fin = r.err by unfold Rd.fin; simp [h0])
    have e2 : (r.err == 0) = false := by rw [beq_eq_false_iff_ne]; exact h0
    go_enter Tryz.func99, Tryz.ntmps99
    go_wp2_with fail
    go_ret
    rw [HR.out]
    exact ⟨rfl, rfl⟩
end Go.Proofs.YtgglheelhbfgiaaGreatDoor

namespace Go.Proofs.YtgglheelhbfgiaaGreatDoor
open Go Go.RowKit Go.Lib

def byteLay : Lay UInt8 := { sz := 1, cells := fun b => [.int .u8 b.toNat], len := fun _ => rfl, one := fun x v hv => by simp only [List.mem_cons, List.mem_nil_iff, or_false] at hv; rw [hv]; rfl }
theorem byte_at {w : World} {a : Option Addr} {xs : List UInt8} (h : RowsAt byteLay w a xs) {k : Nat} {x : UInt8} (hk : xs[k]? = some x) : ∃ b off, a = some ⟨b, off, none⟩ ∧ b < w.heap.size ∧ w.cell? ⟨b, off + k, none⟩ = some (.int .u8 x.toNat) := by
  obtain ⟨b, off, e, hlt, hc⟩ := h k x hk
  have := hc 0 _ rfl
  refine ⟨b, off, e, hlt, ?_⟩
  simpa [byteLay] using this
theorem byteInfo : (Tryz.prog.info? 5).map (fun i => (i.zero, i.size, i.bytes)) = some (some (.int .u8 0), 1, 1) := by kernel_rfl
theorem conv_bytes {w : World} {a : Option Addr} {xs : List UInt8} (h : RowsAt byteLay w a xs) (cap : Nat) : Sem.run Tryz.prog (convert 156 9 (.slice a xs.length cap)) w = .ok (.string ⟨xs.toArray⟩) w := by
  cases xs with
  | nil =>
    cases a with
    | none => exact run_convert_bytes_nil w 156 5 Tryz.underlying156 Tryz.underlying5 _ _ 9 Tryz.underlying9
    | some a =>
      rw [run_convert_bytes_string w 156 9 5 _ _ cap Tryz.underlying156 Tryz.underlying5 Tryz.underlying9]
      change Sem.run _ (Conv.bytesToString (Value.slice (some a) 0 cap)) w = _
      rw [run_bytesToString w a 0 cap [] (by simpa using run_loadCells_list (P := Tryz.prog) w a [] (fun j v hj => by simp at hj))]
      rfl
  | cons x xs =>
    obtain ⟨b, off, rfl, _, _⟩ := byte_at h (k := 0) rfl
    rw [run_convert_bytes_arg (P := Tryz.prog) w 156 5 Tryz.underlying156 Tryz.underlying5 b off (x :: xs).length cap ((x :: xs).map fun b => (b.toNat : Int)) (by simp)
      (fun i hi => by
        obtain ⟨_, _, e, _, hc⟩ := byte_at h (List.getElem?_eq_getElem hi)
        cases e
        rw [hc, List.getD_eq_getElem?_getD, List.getElem?_map, List.getElem?_eq_getElem hi]
        rfl) 9 Tryz.underlying9]
    congr 2
    apply ba_ext
    rw [strOfNums_data, List.map_map]
    conv => rhs; rw [← List.map_id (x :: xs)]
    apply List.map_congr_left
    intro y _
    simp
end Go.Proofs.YtgglheelhbfgiaaGreatDoor

