import Derived.Test.YtaimbhphepopmaaDoorCodecW2
namespace Go.Proofs.YtaimbhphepopmaaDoor
open Go Go.RowKit Go.Lib

/-- arbourref01.Reader's cells. -/
def RrCells (W : World) (b : Nat) (d : ByteArray) (e : Int) : Prop := W.cell? ⟨b, 0, none⟩ = some (.string d) ∧ W.cell? ⟨b, 1, none⟩ = some (.int .i64 e) ∧ (∀ i, W.frozen? ⟨b, i, none⟩ = false) ∧ b < W.heap.size
theorem RrCells.keeps {W W' : World} {b : Nat} {d : ByteArray} {e : Int} (h : RrCells W b d e) {B : Nat} (hb : Below B W W') (hlt : b < B) : RrCells W' b d e := by
  obtain ⟨h0, h1, hf, hl⟩ := h
  exact ⟨(hb.cell (p := ⟨b, 0, none⟩) hlt).trans h0, (hb.cell (p := ⟨b, 1, none⟩) hlt).trans h1, fun i => (hb.frozen (p := ⟨b, i, none⟩) hlt).trans (hf i), Nat.lt_of_lt_of_le hl hb.size⟩
theorem RrCells.setErr {W : World} {b : Nat} {d : ByteArray} {e : Int} (h : RrCells W b d e) (e' : Int) : RrCells (W.setCell ⟨b, 1, none⟩ (.int .i64 e')) b d e' := by
  obtain ⟨h0, h1, hf, hl⟩ := h
  refine ⟨?_, World.cell?_setCell_same _ _ _ h1, fun i => by simpa using hf i, by simpa using hl⟩
  rw [World.cell?_setCell_other _ _ _ _ (by simp)]; exact h0
theorem RrCells.setText {W : World} {b : Nat} {d : ByteArray} {e : Int} (h : RrCells W b d e) (d' : ByteArray) : RrCells (W.setCell ⟨b, 0, none⟩ (.string d')) b d' e := by
  obtain ⟨h0, h1, hf, hl⟩ := h
  refine ⟨World.cell?_setCell_same _ _ _ h0, ?_, fun i => by simpa using hf i, by simpa using hl⟩
  rw [World.cell?_setCell_other _ _ _ _ (by simp)]; exact h1
def RrAt (W : World) (b : Nat) (r : Rd) : Prop := ∃ d : ByteArray, RrCells W b d r.err ∧ d.size ≤ 100000000 ∧ (r.err = 0 → r.rest = d.data.toList)
theorem RrAt.keeps {W W' : World} {b : Nat} {r : Rd} (h : RrAt W b r) {B : Nat} (hb : Below B W W') (hlt : b < B) : RrAt W' b r := by
  obtain ⟨d, hc, r⟩ := h
  exact ⟨d, hc.keeps hb hlt, r⟩
theorem RrAt.lt {W : World} {b : Nat} {r : Rd} (h : RrAt W b r) : b < W.heap.size := by
  obtain ⟨d, hc, _⟩ := h
  exact hc.2.2.2
theorem rrCell {W : World} {b : Nat} {r : Rd} (h : RrAt W b r) : W.cell? ⟨b, 1, none⟩ = some (.int .i64 r.err) := by
  obtain ⟨d, hc, _⟩ := h
  exact hc.2.1
theorem drop_extract (d : ByteArray) (n : Nat) : (d.extract n d.size).data.toList = d.data.toList.drop n := by
  rw [ByteArray.data_extract, Array.toList_extract, List.extract_eq_take_drop, List.take_of_length_le (by rw [List.length_drop, ← size_eq]; exact Nat.le_refl _)]
theorem drop_size (d : ByteArray) (n : Nat) : (d.extract n d.size).size ≤ d.size := by rw [ByteArray.size_extract]; omega
theorem list_at (d : ByteArray) (k : Nat) (h : k < d.size) : d.data.toList[k]? = some d[k] := List.getElem?_eq_getElem (by rw [← size_eq]; exact h)

set_option maxRecDepth 100000 in
set_option maxHeartbeats 1600000 in
theorem rNum_any (b : Nat) (r : Rd) (w : World) (h : RrAt w b r) :
    Calls Tryd.prog 36 #[.pointer (some ⟨b, 0, none⟩)] w fun e w' => e = .returned (.int .i64 r.num.1) ∧ RrAt w' b r.num.2 ∧ w.grownBy w' (some b) := by
  obtain ⟨err, rest⟩ := r
  have h' := h
  obtain ⟨d, hcs, hd, hr⟩ := h'
  have hcs' := hcs
  obtain ⟨c0, c1, hf, hl⟩ := hcs'
  dsimp only at hcs c1 hr
  by_cases h0 : err = 0
  · subst h0
    obtain rfl := hr rfl
    have hn : Rd.num ⟨0, d.data.toList⟩ = (IntKind.i64.wrap (Rd.raw ⟨0, d.data.toList⟩).1, (Rd.raw ⟨0, d.data.toList⟩).2) := rfl
    by_cases hz : d.size = 0
    · have hl0 : d.data.toList = [] := List.length_eq_zero_iff.1 (by rw [← size_eq]; exact hz)
      rw [hl0] at hn
      rw [raw_none] at hn
      have HR := Lib.hid hn
      have ez : ((d.size : Int) == 0) = true := by rw [beq_iff_eq]; omega
      rw [hl0]
      clear hn hl0 hr h
      go_enter Tryd.func36, Tryd.ntmps36
      go_wp2_with fail
      go_ret
      rw [HR.out]
      exact ⟨rfl, ⟨d, hcs.setErr 10, hd, fun h => by cases h⟩, grown_cell _ b 1 _⟩
    · have hpos : 0 < d.size := by omega
      have hposI : (0 : Int) < d.size := by omega
      have ez : ((d.size : Int) == 0) = false := by rw [beq_eq_false_iff_ne]; omega
      obtain ⟨t, ht⟩ : ∃ t, d.data.toList = d[0] :: t := by
        have := list_at d 0 hpos
        cases hd0 : d.data.toList with
        | nil => rw [hd0] at this; cases this
        | cons a t => rw [hd0] at this; cases this; exact ⟨t, rfl⟩
      have hsz : t.length + 1 = d.size := by rw [size_eq, ht]; rfl
      have hat : ∀ k (hk : k + 1 < d.size), t[k]? = some (d[k + 1]'hk) := fun k hk => by
        have := list_at d (k + 1) hk
        rw [ht] at this
        exact this
      rw [ht] at hn ⊢
      have hc256 := (d[0]).toNat_lt
      clear hr h
      generalize hcc : d[0].toNat = n at *
      by_cases h8 : 8 < n
      · rw [raw_wide (by omega)] at hn
        have HR := Lib.hid hn
        have h8' : (8 : Int) < n := by omega
        clear hn hat
        go_enter Tryd.func36, Tryd.ntmps36
        go_wp2_with fail
        go_ret
        rw [HR.out]
        exact ⟨rfl, ⟨d, hcs.setErr 11, hd, fun h => by cases h⟩, grown_cell _ b 1 _⟩
      · have h8' : ¬ ((8 : Int) < n) := by omega
        by_cases hs : t.length < n
        · rw [raw_short (by omega) (by omega)] at hn
          have HR := Lib.hid hn
          have hs' : (d.size : Int) < 1 + n := by omega
          clear hn hat
          go_enter Tryd.func36, Tryd.ntmps36
          go_wp2_with fail
          go_ret
          rw [HR.out]
          exact ⟨rfl, ⟨d, hcs.setErr 10, hd, fun h => by cases h⟩, grown_cell _ b 1 _⟩
        · have hs' : ¬ ((d.size : Int) < 1 + n) := by omega
          have key : n ≠ 0 ∧ t[0]? = some 0 ∨ ¬ (n ≠ 0 ∧ t[0]? = some 0) := Decidable.em _
          rcases key with h3 | h3
          · rw [raw_zero (by omega) (by omega) (by rw [hcc]; exact h3)] at hn
            have HR := Lib.hid hn
            have h1s : 1 < d.size := by omega
            have h1I : (1 : Int) < d.size := by omega
            have hn0 : (0 : Int) < n := by omega
            have e1 : (((d[1]'h1s).toNat : Int) == 0) = true := by
              have := hat 0 h1s
              rw [h3.2] at this
              have := Option.some.inj this
              rw [← this]; rfl
            clear hn hat h3
            go_enter Tryd.func36, Tryd.ntmps36
            go_wp2_with fail
            go_ret
            rw [HR.out]
            exact ⟨rfl, ⟨d, hcs.setErr 11, hd, fun h => by cases h⟩, grown_cell _ b 1 _⟩
          · rw [raw_ok (by omega) (by omega) (by rw [hcc]; exact h3), hcc] at hn
            have HR := Lib.hid hn
            have hval : ∀ k, valL ((t.take n).take k) < 18446744073709551616 := by
              intro k
              have h1 := valL_lt ((t.take n).take k)
              exact Nat.lt_of_lt_of_le h1 (Nat.pow_le_pow_right (n := 256) (by omega) (show ((t.take n).take k).length ≤ 8 by rw [List.length_take, List.length_take]; omega))
            have Hval := Lib.hid hval
            have Hat := Lib.hid hat
            have Hrest := Lib.hid (show t.drop n = (d.extract (1 + n) d.size).data.toList by rw [drop_extract, ht, Nat.add_comm 1 n, List.drop_succ_cons])
            have Hz := Lib.hid (drop_size d (1 + n))
            have hn8 : n ≤ 8 := by omega
            have hfirst : 0 < n → ∃ h1s : 1 < d.size, (((d[1]'h1s).toNat : Int) == 0) = false := by
              intro hn0
              refine ⟨by omega, ?_⟩
              rw [beq_eq_false_iff_ne]
              intro he
              apply h3
              refine ⟨by omega, ?_⟩
              rw [hat 0 (by omega)]
              congr 1
              rw [← UInt8.toNat_inj]
              show (d[1]'(by omega)).toNat = 0
              omega
            clear hn hat hval h3
            rcases Nat.eq_zero_or_pos n with hn0 | hn0
            · subst hn0
              clear hfirst
              go_enter Tryd.func36, Tryd.ntmps36
              go_wp2_with fail
              go_loop [4, 5] (fun u i => u = .int .u64 0 ∧ i = .int .i64 1) (fun _ _ => 0)
              case atStart => exact ⟨rfl, rfl⟩
              case round =>
                obtain ⟨rfl, rfl⟩ := hrel
                go_wp2_with fail
                go_ret
                rw [HR.out]
                exact ⟨rfl, ⟨_, hcs.setText _, Nat.le_trans Hz.out hd, fun _ => Hrest.out⟩, grown_cell _ b 0 _⟩
            · obtain ⟨h1s, e1⟩ := hfirst hn0
              have h1I : (1 : Int) < d.size := by omega
              have hn0' : (0 : Int) < n := by omega
              clear hfirst
              go_enter Tryd.func36, Tryd.ntmps36
              go_wp2_with fail
              go_loop [4, 5] (fun u i => ∃ k : Nat, k ≤ n ∧ u = .int .u64 (valL ((t.take n).take k)) ∧ i = .int .i64 (k + 1 : Nat)) (fun _ i => n + 1 - (RowKit.intOf i).toNat)
              case atStart => exact ⟨0, Nat.zero_le _, rfl, rfl⟩
              case round =>
                obtain ⟨k, hk, rfl, rfl⟩ := hrel
                by_cases hlt : k < n
                · have hk2 : k + 1 < d.size := by omega
                  have hst := valL_step (l := t.take n) (k := k) (x := d[k + 1]'hk2) (by rw [List.getElem?_take, if_pos hlt]; exact Hat.out k hk2)
                  have hv := Hval.out (k + 1)
                  rw [hst] at hv
                  have hx256 := (d[k + 1]'hk2).toNat_lt
                  have Hst := Lib.hid hst
                  clear hst Hval
                  go_wp2_with fail
                  go_round
                  case rel => exact ⟨k + 1, by omega, by rw [Hst.out]; go_num, by go_num⟩
                  case measure => simp [RowKit.intOf]; omega
                · obtain rfl : k = n := by omega
                  rw [show (t.take k).take k = t.take k by rw [List.take_take, Nat.min_self]]
                  go_wp2_with fail
                  go_ret
                  rw [HR.out]
                  exact ⟨by rw [wrap_64]; rfl, ⟨_, hcs.setText _, Nat.le_trans Hz.out hd, fun _ => Hrest.out⟩, grown_cell _ b 0 _⟩
  · have hn : Rd.num ⟨err, rest⟩ = (0, ⟨err, rest⟩) := by unfold Rd.num; rw [raw_err h0]; rfl
    have e1 : (err != 0) = true := by rw [bne_iff_ne]; exact h0
    rw [hn]
    clear hn hr
    go_enter Tryd.func36, Tryd.ntmps36
    go_wp2_with fail
    go_ret
    exact ⟨rfl, h, World.grownBy.refl _ _⟩

theorem u64_wrap64 (u : Nat) (h : u < 18446744073709551616) : IntKind.u64.wrap (wrap64 (u : Int)) = u := by
  simp only [IntKind.wrap, IntKind.signed, IntKind.bits, wrap64]
  simp
  omega
theorem wrap64_small {u : Nat} (h : u ≤ 1000000000) : wrap64 (u : Int) = u := by unfold wrap64; omega

set_option maxRecDepth 100000 in
set_option maxHeartbeats 800000 in
theorem rText_any (b : Nat) (r : Rd) (w : World) (h : RrAt w b r) :
    Calls Tryd.prog 61 #[.pointer (some ⟨b, 0, none⟩)] w fun e w' => e = .returned (.string ⟨r.text.1.toArray⟩) ∧ RrAt w' b r.text.2 ∧ w.grownBy w' (some b) := by
  have HN := Lib.hid (rNum_any b r w h)
  have hb := raw_bound r
  have hn : r.num = (wrap64 r.raw.1, r.raw.2) := by unfold Rd.num; rw [wrap_64]
  have ht : r.text = (if r.raw.2.err ≠ 0 then ([], r.raw.2) else if r.raw.2.rest.length < r.raw.1 then ([], ⟨10, []⟩) else (r.raw.2.rest.take r.raw.1, ⟨0, r.raw.2.rest.drop r.raw.1⟩)) := rfl
  rw [hn] at HN
  rw [ht]
  generalize r.raw = q at *
  obtain ⟨u, r'⟩ := q
  dsimp only at hb HN ⊢
  clear hn ht h
  by_cases h1 : r'.err = 0
  · rw [if_neg (by simpa using h1)]
    by_cases hs : r'.rest.length < u
    · rw [if_pos hs]
      have hcv := u64_wrap64 u hb
      go_enter Tryd.func61, Tryd.ntmps61
      go_wp2_with fail
      refine HN.out.mono ?_
      rintro e w1 ⟨rfl, hr1, hg1⟩
      obtain ⟨d, hcs, hd, hr⟩ := hr1
      have hr := hr h1
      have hcs' := hcs
      obtain ⟨c0, c1, hf, hl⟩ := hcs'
      rw [h1] at c1
      have hsz : d.size < u := by rw [size_eq, ← hr]; exact hs
      clear hr
      generalize hwu : wrap64 (u : Int) = n at *
      go_wp2_with fail
      go_ret
      exact ⟨rfl, ⟨d, hcs.setErr 10, hd, fun h => by cases h⟩, hg1.trans (grown_cell _ b 1 _)⟩
    · rw [if_neg hs]
      go_enter Tryd.func61, Tryd.ntmps61
      go_wp2_with fail
      refine HN.out.mono ?_
      rintro e w1 ⟨rfl, hr1, hg1⟩
      obtain ⟨d, hcs, hd, hr⟩ := hr1
      have hr := hr h1
      have hcs' := hcs
      obtain ⟨c0, c1, hf, hl⟩ := hcs'
      rw [h1] at c1
      have hsz : ¬ d.size < u := by rw [size_eq, ← hr]; exact hs
      rw [wrap64_small (show u ≤ 1000000000 by omega)]
      have Hr := Lib.hid hr
      clear hr hs
      go_wp2_with fail
      go_ret
      refine ⟨?_, ⟨_, (h1 ▸ hcs).setText (d.extract u d.size), Nat.le_trans (drop_size d u) hd, fun _ => ?_⟩, hg1.trans (grown_cell _ b 0 _)⟩
      · have := ret_text (d := d) (p := 0) (n := u) (l := r'.rest.take u) (by rw [Hr.out]; rfl)
        rw [Nat.zero_add] at this
        exact this
      · rw [drop_extract, Hr.out]
  · rw [if_pos h1]
    have e1 : (r'.err != 0) = true := by rw [bne_iff_ne]; exact h1
    have e2 : (r'.err == 0) = false := by rw [beq_eq_false_iff_ne]; exact h1
    go_enter Tryd.func61, Tryd.ntmps61
    go_wp2_with fail
    refine HN.out.mono ?_
    rintro e w1 ⟨rfl, hr1, hg1⟩
    have hE1 := rrCell hr1
    go_wp2_with fail
    go_ret
    exact ⟨rfl, hr1, hg1⟩

set_option maxRecDepth 100000 in
theorem rEnd_any (b : Nat) (r : Rd) (w : World) (h : RrAt w b r) :
    Calls Tryd.prog 40 #[.pointer (some ⟨b, 0, none⟩)] w fun e w' => e = .returned (.int .i64 r.fin) ∧ w' = w := by
  obtain ⟨d, ⟨c0, c1, hf, hl⟩, hd, hr⟩ := h
  by_cases h0 : r.err = 0
  · have hr := hr h0
    rw [h0] at c1
    by_cases hz : d = ⟨#[]⟩
    · have HR := Lib.hid (show r.fin = 0 by
        have hne : r.rest = [] := by rw [hr, hz]
        unfold Rd.fin; simp [h0, hne])
      subst hz
      clear hr h0
      go_enter Tryd.func40, Tryd.ntmps40
      go_wp2_with fail
      go_ret
      rw [HR.out]
      exact ⟨rfl, rfl⟩
    · have HR := Lib.hid (show r.fin = 12 by
        have hne : r.rest ≠ [] := fun h => hz (by apply ba_ext; rw [← hr, h])
        unfold Rd.fin; simp [h0, hne])
      have e1 := empty_ne hz
      clear hr h0 hz
      go_enter Tryd.func40, Tryd.ntmps40
      go_wp2_with fail
      go_ret
      rw [HR.out]
      exact ⟨rfl, rfl⟩
  · have HR := Lib.hid (show r.fin = r.err by unfold Rd.fin; simp [h0])
    have e2 : (r.err == 0) = false := by rw [beq_eq_false_iff_ne]; exact h0
    go_enter Tryd.func40, Tryd.ntmps40
    go_wp2_with fail
    go_ret
    rw [HR.out]
    exact ⟨rfl, rfl⟩
end Go.Proofs.YtaimbhphepopmaaDoor
