/-
  arbourref16: Len, Append. arbourref16: Open, in plain Lean: the numbers of an array are the ends; what an opening answers.
-/
import Derived.Test.YtgglheelhbfgiaaGreatDoorMg17
import Derived.Test.YtgglheelhbfgiaaGreatDoorMg3
namespace Go.Proofs.YtgglheelhbfgiaaGreatDoor
open Go Go.RowKit Go.Lib
def RIn (S : Nat → Prop) (B w : World) (rb : Nat) (d : Dk) : Prop := ∃ T, ROk w rb T d ∧ DkOK d ∧ (∀ k, T k → S k ∨ B.heap.size ≤ k) ∧ Turned S B.heap.size B w
theorem RIn.start {S : Nat → Prop} {w : World} {rb : Nat} {d : Dk} (h : ROk w rb S d) (hok : DkOK d) : RIn S w w rb d := ⟨S, h, hok, fun _ hk => .inl hk, Turned.refl _ _ _⟩
theorem RIn.below {S : Nat → Prop} {B w w' : World} {rb : Nat} {d : Dk} (h : RIn S B w rb d) (hb : Below w.heap.size w w') : RIn S B w' rb d := by
  obtain ⟨T, h1, h2, h3, h4⟩ := h
  exact ⟨T, h1.below hb, h2, h3, h4.trans (Turned.of_below hb h4.size)⟩
theorem RIn.step {S T : Nat → Prop} {B w w' : World} {rb : Nat} {d : Dk} (hok : DkOK d) (h2 : ∀ k, T k → S k ∨ B.heap.size ≤ k) (h3 : Turned S B.heap.size B w) (hg : RGo w rb T d w') : RIn S B w' rb d := by
  obtain ⟨h1, ht⟩ := hg
  refine ⟨_, h1, hok, fun k hk => ?_, ⟨ht.os.trans h3.os, ht.tape.trans h3.tape, ht.output.trans h3.output, Nat.le_trans h3.size ht.size, fun k hk hs => (ht.block k (Nat.lt_of_lt_of_le hk h3.size) fun hT => ?_).trans (h3.block k hk hs)⟩⟩
  · rcases hk with hk | hk
    · exact h2 k hk
    · exact .inr (Nat.le_trans h3.size hk.1)
  · rcases h2 k hT with h | h
    · exact hs h
    · omega
theorem rlen_any (lb db : Nat) (l : Lg) (w : World) (hL : LAt w lb db l) : Calls Tryz.prog 31 #[.pointer (some ⟨lb, 0, none⟩)] w fun e w' => e = .returned (.int .i64 l.many) ∧ w' = w := by
  have c1 : w.cell? ⟨lb, 1, none⟩ = some (.int .i64 l.many) := hL.2.2 1 _ rfl
  clear hL
  go_enter Tryz.func31, Tryz.ntmps31
  go_wp2_with fail
  go_ret
  exact ⟨rfl, rfl⟩
/-- What an appending answers. -/
def RAppIs (w : World) (rb mb : Nat) (S : Nat → Prop) (r : Lg × Dk × Int) (e : Ending) (w' : World) : Prop :=
  e = .returned (.int .i64 r.2.2) ∧ LAt w' mb rb r.1 ∧ DkOK r.2.1 ∧ ∃ T, ROk w' rb T r.2.1 ∧ (∀ k, T k → S k ∨ w.heap.size ≤ k) ∧ ¬ T mb ∧ Turned (fun k => S k ∨ k = mb) w.heap.size w w'
theorem RAppIs.same {w : World} {rb mb : Nat} {S : Nat → Prop} {d : Dk} {l : Lg} {n : Int} {R : Lg × Dk × Int} (hr : R = (l, d, n)) (h : ROk w rb S d) (hok : DkOK d) (hL : LAt w mb rb l) (hlb : ¬ S mb) : RAppIs w rb mb S R (.returned (.int .i64 n)) w := by
  subst hr
  exact ⟨rfl, hL, hok, S, h, fun _ hk => .inl hk, hlb, Turned.refl _ _ _⟩
theorem anyR_none {rs : List ByteArray} (h : ∀ (k : Nat) (s : ByteArray), rs[k]? = some s → rightR s = true) : (rs.any fun s => !rightR s) = false := by
  rw [List.any_eq_false]
  intro s hs
  obtain ⟨k, hk⟩ := List.getElem?_of_mem hs
  rw [h k s hk]
  simp
theorem anyR_some {rs : List ByteArray} {k : Nat} {s : ByteArray} (hs : rs[k]? = some s) (h : rightR s = false) : (rs.any fun s => !rightR s) = true := by
  rw [List.any_eq_true]
  exact ⟨s, List.mem_of_getElem? hs, by rw [h]; rfl⟩
theorem RAppIs.made {w w1 w' : World} {rb mb : Nat} {S : Nat → Prop} {dk : Dk} {l l' : Lg} {n : Int} {R : Lg × Dk × Int} (hr : R = (l', dk, n)) (hIn : RIn S w w1 rb dk) (hL : LAt w mb rb l) (hlb : ¬ S mb) (ht : Turned (fun k => k = mb) w1.heap.size w1 w') (hL' : LAt w' mb rb l') : RAppIs w rb mb S R (.returned (.int .i64 n)) w' := by
  subst hr
  obtain ⟨T, h1, h2, h3, h4⟩ := hIn
  have hT := notT h3 hlb hL.1
  exact ⟨rfl, hL', h2, T, h1.foreign ht fun k hk e => hT (hk ▸ e), h3, hT, (h4.mono (Nat.le_refl _) fun _ _ h => .inl h).trans (ht.mono h4.size fun _ _ h => .inr h)⟩
set_option maxRecDepth 100000 in
set_option maxHeartbeats 6400000 in
theorem rappend_any {w : World} {rb mb : Nat} {S : Nat → Prop} {d : Dk} {l : Lg} (h : ROk w rb S d) (hok : DkOK d) (hL : LAt w mb rb l) (hlb : ¬ S mb) (a : Option Addr) (cap : Nat) (rs : List ByteArray) (hR : RowsAt strLay w a rs) (hRa : ∀ ad, a = some ad → 0 < rs.length → ad.block < w.heap.size ∧ ¬ S ad.block ∧ ad.block ≠ mb)
    (hm : l.many ≤ 1000000) (hrl : rs.length ≤ 1000000) (hl : d.now.length ≤ 99000) (hal : d.acts.length ≤ 90000000) :
    Calls Tryz.prog 18 #[.pointer (some ⟨mb, 0, none⟩), .slice a rs.length cap] w fun e w' => RAppIs w rb mb S (appendD l rs d) e w' := by
  have c1 : w.cell? ⟨mb, 1, none⟩ = some (.int .i64 l.many) := hL.2.2 1 _ rfl
  have c2 : w.cell? ⟨mb, 2, none⟩ = some (.int .i64 l.fin) := hL.2.2 2 _ rfl
  have c3 : w.cell? ⟨mb, 3, none⟩ = some (.bool l.dead) := hL.2.2 3 _ rfl
  have HD := Lib.hid h
  have HOk := Lib.hid hok
  have HL := Lib.hid hL
  have Hlb := Lib.hid hlb
  have HR := Lib.hid hR
  have HRa := Lib.hid hRa
  have Hl := Lib.hid hl
  have Hal := Lib.hid hal
  have H1 := Lib.hid (append_dead (l := l) (rs := rs) (d := d))
  have H2 := Lib.hid (append_wrong (l := l) (rs := rs) (d := d))
  have H3 := Lib.hid (append_big (l := l) (rs := rs) (d := d))
  have H4 := Lib.hid (append_none (l := l) (rs := rs) (d := d))
  have H5 := Lib.hid (append_fell (l := l) (rs := rs) (d := d))
  have H6 := Lib.hid (append_fine (l := l) (rs := rs) (d := d))
  obtain ⟨R, hR0⟩ : ∃ R, appendD l rs d = R := ⟨_, rfl⟩
  rw [hR0] at H1 H2 H3 H4 H5 H6 ⊢
  have hLD : layD l rs d = if (layG l.many 0 l.fin rs d).2.2 ≠ 0 then layG l.many 0 l.fin rs d else ((syncD (layG l.many 0 l.fin rs d).1).1, (layG l.many 0 l.fin rs d).2.1, (syncD (layG l.many 0 l.fin rs d).1).2) := rfl
  have HLD := Lib.hid hLD
  obtain ⟨LD, hLD⟩ : ∃ LD, layD l rs d = LD := ⟨_, rfl⟩
  rw [hLD] at H5 H6 HLD
  obtain ⟨dead, hdd⟩ : ∃ b, l.dead = b := ⟨_, rfl⟩
  rw [hdd] at c3
  have Hdd := Lib.hid hdd
  clear hR0 hLD h hL hlb hR hRa hl hal hok hdd
  cases dead with
  | true =>
    go_enter Tryz.func18, Tryz.ntmps18
    go_wp2_with fail
    go_ret
    exact RAppIs.same (H1.out Hdd.out) HD.out HOk.out HL.out Hlb.out
  | false =>
    go_enter Tryz.func18, Tryz.ntmps18
    go_wp2_with fail
    go_loopw [5] (fun i wr => ∃ k : Nat, k ≤ rs.length ∧ i = .int .i64 k ∧ Hid (∀ j s, j < k → rs[j]? = some s → rightR s = true) ∧ wr = w) (fun i _ => rs.length - (RowKit.intOf i).toNat)
    case atStart => exact ⟨0, Nat.zero_le _, rfl, Lib.hid (fun j _ hj _ => absurd hj (Nat.not_lt_zero j)), rfl⟩
    case round =>
      obtain ⟨k, hk, rfl, Hk, hwr⟩ := hrel
      rw [hwr]
      clear hwr
      by_cases hlt : k < rs.length
      · obtain ⟨s, hs⟩ := at_some hlt
        obtain ⟨bx, off, hae, hbl, hc0⟩ := str_at HR.out hs
        have hlti : (k : Int) < (rs.length : Int) := by omega
        have Hs := Lib.hid hs
        subst hae
        clear hs
        by_cases h1 : s.size < 1
        · have h1i : (s.size : Int) < 1 := by omega
          have Hr := Lib.hid (H2.out Hdd.out (anyR_some Hs.out (by unfold rightR; rw [decide_eq_false (by omega)]; rfl)))
          clear h1
          go_wp2_with fail
          go_ret
          exact RAppIs.same Hr.out HD.out HOk.out HL.out Hlb.out
        · have h1i : ¬ ((s.size : Int) < 1) := by omega
          by_cases h2 : 2000 < s.size
          · have h2i : (2000 : Int) < (s.size : Int) := by omega
            have Hr := Lib.hid (H2.out Hdd.out (anyR_some Hs.out (by unfold rightR; rw [decide_eq_false (p := s.size ≤ 2000) (by omega), Bool.and_false])))
            clear h1 h2
            go_wp2_with fail
            go_ret
            exact RAppIs.same Hr.out HD.out HOk.out HL.out Hlb.out
          · have h2i : ¬ ((2000 : Int) < (s.size : Int)) := by omega
            have Hn := Lib.hid (show ∀ j t, j < k + 1 → rs[j]? = some t → rightR t = true from fun j t hj ht => by
              rcases Nat.lt_or_ge j k with h | h
              · exact Hk.out j t h ht
              · obtain rfl : j = k := by omega
                rw [Hs.out] at ht
                cases ht
                unfold rightR
                rw [decide_eq_true (show 1 ≤ s.size by omega), decide_eq_true (show s.size ≤ 2000 by omega)]
                rfl)
            clear h1 h2
            go_wp2_with fail
            go_roundw
            case rel => exact ⟨k + 1, by omega, by go_num, Hn, by first | rfl | trivial⟩
            case measure => simp [RowKit.intOf]; omega
      · obtain rfl : k = rs.length := by omega
        have hall := anyR_none (rs := rs) fun j s hj => Hk.out j s (List.getElem?_eq_some_iff.1 hj).1 hj
        have Hall := Lib.hid hall
        clear hall Hk
        by_cases h8 : 800 < l.many + rs.length
        · have h8i : (800 : Int) < (l.many : Int) + (rs.length : Int) := by omega
          have Hr := Lib.hid (H3.out Hdd.out Hall.out h8)
          clear h8
          go_wp2_with fail
          go_ret
          exact RAppIs.same Hr.out HD.out HOk.out HL.out Hlb.out
        · have h8i : ¬ ((800 : Int) < (l.many : Int) + (rs.length : Int)) := by omega
          have hn : l.many + rs.length ≤ 800 := by omega
          have H8 := Lib.hid h8
          clear h8
          by_cases h0 : rs.length = 0
          · have Hr := Lib.hid (H4.out Hdd.out Hall.out H8.out h0)
            have hi0 : ((rs.length : Int) == 0) = true := beq_iff_eq.2 (by omega)
            clear h0
            go_wp2_with fail
            go_ret
            exact RAppIs.same Hr.out HD.out HOk.out HL.out Hlb.out
          · have hi0 : ((rs.length : Int) == 0) = false := beq_eq_false_iff_ne.2 (by omega)
            have H0 := Lib.hid h0
            clear h0
            have HK := Lib.hid (show ∀ W, Turned S w.heap.size w W → LAt W mb rb l ∧ RowsAt strLay W a rs from fun W hW => ⟨HL.out.same (hW.block mb HL.out.1 Hlb.out) hW.size, HR.out.turned hW fun ad e => ⟨(HRa.out ad e (by have := H0.out; omega)).1, (HRa.out ad e (by have := H0.out; omega)).2.1⟩⟩)
            have Hrs := Lib.hid (show ∀ s ∈ rs, s.size ≤ 2000 from fun s hs => by
              have := List.all_eq_true.1 (all_of Hall.out) s hs
              unfold rightR at this
              simp only [Bool.and_eq_true, decide_eq_true_eq] at this
              exact this.2)
            have Hin0 := Lib.hid (RIn.start HD.out HOk.out)
            obtain ⟨many, hmany⟩ : ∃ m, l.many = m := ⟨_, rfl⟩
            obtain ⟨fin, hfin⟩ : ∃ m, l.fin = m := ⟨_, rfl⟩
            rw [hmany] at c1 hn hm h8i HLD
            rw [hfin] at c2 HLD
            have Hmany := Lib.hid hmany
            have Hfin := Lib.hid hfin
            clear hmany hfin hlt
            go_wp2_with fail
            go_loopw [6, 7, 8, 9, 10] (fun q ee i _ _ wr => ∃ (k : Nat) (at_ ev : Int) (dk : Dk), k ≤ rs.length ∧ i = .int .i64 k ∧ q = .int .i64 at_ ∧ ee = .int .i64 ev ∧ RIn S w wr rb dk ∧ Hid ((ev = 0 ∧ layG many 0 fin rs d = layG many k at_ (rs.drop k) dk ∧ dk.now.length ≤ d.now.length + k ∧ dk.acts.length ≤ d.acts.length + k ∧ dk.limit = d.limit) ∨ (ev ≠ 0 ∧ layG many 0 fin rs d = (dk, 0, ev)))) (fun _ _ i _ _ _ => rs.length - (RowKit.intOf i).toNat)
            case atStart => exact ⟨0, fin, 0, d, Nat.zero_le _, rfl, rfl, rfl, Hin0.out, Lib.hid (.inl ⟨rfl, rfl, Nat.le_refl _, Nat.le_refl _, rfl⟩)⟩
            case round =>
              obtain ⟨k, at_, ev, dk, hk, rfl, rfl, rfl, hIn, Hc⟩ := hrel
              have hIn2 := hIn
              obtain ⟨T, hDk, hOkk, hT1, hT2⟩ := hIn2
              obtain ⟨hL, hR⟩ := HK.out wr hT2
              rcases Hc.out with ⟨rfl, hg, hn1, hn2, hn3⟩ | ⟨hev, hg⟩
              · by_cases hlt : k < rs.length
                · obtain ⟨s, hs⟩ := at_some hlt
                  have hss := Hrs.out s (List.mem_of_getElem? hs)
                  have hdrop : rs.drop k = s :: rs.drop (k + 1) := drop_at hs
                  rw [hdrop] at hg
                  obtain ⟨bx, off, hae, hbl, hc0⟩ := str_at hR hs
                  have hlti : (k : Int) < (rs.length : Int) := by omega
                  have c0 : wr.cell? ⟨mb, 0, none⟩ = some (.pointer (some ⟨rb, 0, none⟩)) := hL.2.2 0 _ rfl
                  have c1 : wr.cell? ⟨mb, 1, none⟩ = some (.int .i64 many) := by rw [← Hmany.out]; exact hL.2.2 1 _ rfl
                  subst hae
                  have Hstop := Lib.hid (fun hq => hg.trans (lay_stop (many := many) (i := k) (at_ := at_) (s := s) (r := rs.drop (k + 1)) (d := dk) hq))
                  have Hgo := Lib.hid (fun hq => hg.trans (lay_go (many := many) (i := k) (at_ := at_) (s := s) (r := rs.drop (k + 1)) (d := dk) hq))
                  obtain ⟨n, hnk⟩ : ∃ n, many + k = n := ⟨_, rfl⟩
                  have hni : (many : Int) + (k : Int) = (n : Int) := by omega
                  have hn8 : n < 800 := by omega
                  rw [hnk] at Hstop Hgo
                  have hq8 : ((n / 8 : Nat) : Int) = (n : Int) / 8 := by omega
                  have hr8 : ((n % 8 : Nat) : Int) = (n : Int) % 8 := by omega
                  have HNm := Lib.hid fun W => rname_any (n / 8) (by omega) W
                  rw [hq8] at HNm
                  have Hwr := Lib.hid (show IntKind.i64.wrap ((n : Int) / 8) = (n : Int) / 8 from IntWalk.i64_in _ (by omega))
                  have HFr := Lib.hid fun W => rframe_any n s W (by omega)
                  have hfz := frameB_size n s
                  obtain ⟨pos, hpos⟩ : ∃ pos : Int, (if n % 8 = 0 then 0 else at_) = pos := ⟨_, rfl⟩
                  rw [hpos] at Hstop Hgo
                  have hfz2 : (frameB n s).size ≤ 8000 := by omega
                  have Hw := Lib.hid fun (W : World) (hW : Below wr.heap.size wr W) => rwrite_any (hDk.below hW) hOkk (nameS (n / 8)) pos (frameB n s) (by have := Hl.out; omega) (by have := Hal.out; omega) hfz2
                  have Hwp := Lib.hid fun hq => write_parts (d := dk) (p := nameS (n / 8)) (n := pos) (data := frameB n s) hq
                  have Hwo := Lib.hid (hOkk.write (nameS (n / 8)) pos (frameB n s) hfz2)
                  have Hpos := Lib.hid hpos
                  have HDk := Lib.hid hDk
                  have HT1 := Lib.hid hT1
                  have HT2 := Lib.hid hT2
                  have Hn12 := Lib.hid (show dk.now.length ≤ d.now.length + k ∧ dk.acts.length ≤ d.acts.length + k ∧ dk.limit = d.limit from ⟨hn1, hn2, hn3⟩)
                  have hlbT : ¬ T mb := notT hT1 Hlb.out HL.out.1
                  have hlbl := block_lt_of_cell c0
                  clear hs hdrop hR hL hg hDk hT1 hT2 hIn hpos hnk hn1 hn2 hn3 Hc
                  generalize nameS (n / 8) = nm at *
                  generalize frameB n s = fr at *
                  go_upto_if 68 with fail
                  go_cut [6] from 67 to 68 (fun v wx => v = .int .i64 pos ∧ wx = wr)
                  case first =>
                    by_cases h8 : n % 8 = 0
                    · have Hp := Lib.hid (show pos = 0 by rw [← Hpos.out, if_pos h8])
                      have hmi : (n : Int) % 8 = 0 := by omega
                      clear h8
                      go_wp2_with fail
                      go_meet
                      case rel => exact ⟨by rw [Hp.out], rfl⟩
                    · have Hp := Lib.hid (show pos = at_ by rw [← Hpos.out, if_neg h8])
                      have hmi : ¬ ((n : Int) % 8 = 0) := by omega
                      have hmb : ((n : Int) % 8 == 0) = false := beq_eq_false_iff_ne.2 hmi
                      clear h8
                      go_wp2_with fail
                      go_meet
                      case rel => exact ⟨by rw [Hp.out], rfl⟩
                  case rest =>
                    obtain ⟨hcv, hwc⟩ := hcut
                    subst hcv
                    rw [hwc]
                    clear hwc
                    go_wp2_with fail
                    refine (HFr.out _).mono ?_
                    rintro e w1 ⟨rfl, hb1⟩
                    have k0 : w1.drew.cell? ⟨mb, 0, none⟩ = some (.pointer (some ⟨rb, 0, none⟩)) := (hb1.cell (p := ⟨mb, 0, none⟩) hlbl).trans c0
                    have j0 : w1.cell? ⟨mb, 0, none⟩ = some (.pointer (some ⟨rb, 0, none⟩)) := k0
                    have Hbd := Lib.hid (belowDrew hb1 1)
                    have Hlbl := Lib.hid (Nat.lt_of_lt_of_le hlbl hb1.size)
                    clear hb1
                    go_upto_region 21 with fail
                    generalize hwd : writeD dk nm pos fr = wd at *
                    clear hwd
                    go_cut [7] from 84 to 84 (fun v wx => v = .int .i64 wd.2 ∧ RIn S w wx rb wd.1)
                    case first =>
                      go_region_law (first
                        | (rw [if_pos (by simp [Region.wanted])]; go_simp; go_at_call 60; rw [Hwr.out]; refine (HNm.out _).mono ?_; rintro e w5 ⟨rfl, hb5⟩; have k5 : w5.cell? ⟨mb, 0, none⟩ = some (.pointer (some ⟨rb, 0, none⟩)) := (hb5.cell (p := ⟨mb, 0, none⟩) Hlbl.out).trans k0)
                        | (rw [if_pos (by simp [Region.wanted])]; go_simp; go_at_call 22; refine (Hw.out _ (Hbd.out.trans (hb5.mono Hbd.out.size))).mono ?_; rintro e w6 ⟨rfl, hg6⟩))
                      all_goals
                        go_wp2_with fail
                        go_meet
                        case rel =>
                          refine ⟨rfl, RIn.step Hwo.out HT1.out (HT2.out.trans (Turned.of_below (Hbd.out.trans (hb5.mono Hbd.out.size)) HT2.out.size)) ?_⟩
                          exact hg6
                    case rest =>
                      obtain ⟨hcv, hIn4⟩ := hcut
                      subst hcv
                      by_cases he : wd.2 = 0
                      · have Hn := Lib.hid (Hgo.out he)
                        obtain ⟨a1, a2, a3, a4, a5, a6⟩ := Hwp.out he
                        have hlim := HOk.out.limit
                        have hdl := Hn12.out.2.2
                        have hlm : pos ≤ 4194304 := by omega
                        have Hc2 := Lib.hid (show wd.1.now.length ≤ d.now.length + (k + 1) ∧ wd.1.acts.length ≤ d.acts.length + (k + 1) ∧ wd.1.limit = d.limit from ⟨by have := Hn12.out; omega, by have := Hn12.out; omega, a6.trans hdl⟩)
                        rw [he]
                        clear he a2 a3 a4 a5 a6 hlim hdl
                        generalize wd.1 = d4 at *
                        go_wp2_with fail
                        go_roundw
                        case rel => exact ⟨k + 1, _, 0, d4, by omega, by go_num, by go_num, rfl, hIn4, Lib.hid (.inl ⟨rfl, Hn.out, Hc2.out⟩)⟩
                        case measure => simp [RowKit.intOf]; omega
                      · have Hn := Lib.hid (Hstop.out he)
                        have He := Lib.hid he
                        clear he
                        generalize wd.2 = er at *
                        generalize wd.1 = d4 at *
                        go_wp2_with fail
                        go_roundw
                        case rel => exact ⟨k + 1, _, er, d4, by omega, by go_num, rfl, rfl, hIn4, Lib.hid (.inr ⟨He.out, Hn.out⟩)⟩
                        case measure => simp [RowKit.intOf]; omega
                · obtain rfl : k = rs.length := by omega
                  rw [List.drop_length] at hg
                  have hg2 : layG many 0 fin rs d = (dk, at_, 0) := hg
                  have Hld := Lib.hid (show LD = ((syncD dk).1, at_, (syncD dk).2) by rw [HLD.out, hg2, if_neg (fun h => h rfl)])
                  have HSy := Lib.hid (rsync_any hDk)
                  have hsok := hOkk.sync
                  have hL1 := hL
                  have q0 : wr.cell? ⟨mb, 0, none⟩ = some (.pointer (some ⟨rb, 0, none⟩)) := hL.2.2 0 _ rfl
                  have HT1 := Lib.hid hT1
                  have HT2 := Lib.hid hT2
                  have hmT : ¬ T mb := notT hT1 Hlb.out HL.out.1
                  have HLr := Lib.hid hL
                  generalize hsd : syncD dk = sd at *
                  clear hg hg2 hsd hL hR hDk hT1 hT2 hIn Hc
                  go_wp2_with fail
                  refine HSy.out.mono ?_
                  rintro e w5 ⟨rfl, hg5⟩
                  have hL5 : LAt w5 mb rb l := HLr.out.same (hg5.2.block mb HLr.out.1 hmT) hg5.2.size
                  have HIn5 := Lib.hid (RIn.step hsok HT1.out HT2.out hg5)
                  have HL5 := Lib.hid hL5
                  have q1 : w5.cell? ⟨mb, 1, none⟩ = some (.int .i64 many) := by rw [← Hmany.out]; exact hL5.2.2 1 _ rfl
                  have q2 : w5.cell? ⟨mb, 2, none⟩ = some (.int .i64 fin) := by rw [← Hfin.out]; exact hL5.2.2 2 _ rfl
                  have q3 : w5.cell? ⟨mb, 3, none⟩ = some (.bool false) := by rw [← Hdd.out]; exact hL5.2.2 3 _ rfl
                  have z1 := hL5.2.1 1
                  have z2 := hL5.2.1 2
                  have z3 := hL5.2.1 3
                  clear hg5 hL5 hL1 q0
                  by_cases he : sd.2 = 0
                  · have Hr := Lib.hid (H6.out Hdd.out Hall.out H8.out H0.out (by rw [Hld.out]; exact he))
                    rw [Hld.out] at Hr
                    rw [he]
                    clear he
                    have hT6 := ((Turned.refl (fun j => j = mb) w5.heap.size w5).set (b := mb) 1 (.int .i64 ((many : Int) + (rs.length : Int))) (fun _ => rfl)).set (b := mb) 2 (.int .i64 at_) (fun _ => rfl)
                    have hL6 : LAt ((w5.setCell ⟨mb, 1, none⟩ (.int .i64 ((many : Int) + (rs.length : Int)))).setCell ⟨mb, 2, none⟩ (.int .i64 at_)) mb rb { l with many := l.many + rs.length, fin := at_ } := by
                      have hmr : (many : Int) + (rs.length : Int) = ((l.many + rs.length : Nat) : Int) := by rw [Hmany.out, Int.natCast_add]
                      rw [hmr]
                      exact (HL5.out.set 1 (.int .i64 ((l.many + rs.length : Nat) : Int)) (by simp)).set 2 (.int .i64 at_) (by simp)
                    have HT6 := Lib.hid hT6
                    have HL6 := Lib.hid hL6
                    clear hT6 hL6
                    go_wp2_with fail
                    go_ret
                    exact RAppIs.made Hr.out HIn5.out HL.out Hlb.out HT6.out HL6.out
                  · have Hr := Lib.hid (H5.out Hdd.out Hall.out H8.out H0.out (by rw [Hld.out]; exact he))
                    rw [Hld.out] at Hr
                    have e1 := neq_int he
                    clear he
                    have hT6 := (Turned.refl (fun j => j = mb) w5.heap.size w5).set (b := mb) 3 (.bool true) (fun _ => rfl)
                    have hL6 : LAt (w5.setCell ⟨mb, 3, none⟩ (.bool true)) mb rb { l with dead := true } := by
                      have := HL5.out.set 3 (.bool true) (by simp)
                      unfold LAt
                      simpa using this
                    have HT6 := Lib.hid hT6
                    have HL6 := Lib.hid hL6
                    clear hT6 hL6
                    go_wp2_with fail
                    go_ret
                    exact RAppIs.made Hr.out HIn5.out HL.out Hlb.out HT6.out HL6.out
              · have Hld := Lib.hid (show LD = (dk, 0, ev) by rw [HLD.out, hg, if_pos hev])
                have Hr := Lib.hid (H5.out Hdd.out Hall.out H8.out H0.out (by rw [Hld.out]; exact hev))
                rw [Hld.out] at Hr
                have e1 := neq_int hev
                have e2 : (ev == 0) = false := beq_eq_false_iff_ne.2 hev
                have q3 : wr.cell? ⟨mb, 3, none⟩ = some (.bool false) := by rw [← Hdd.out]; exact hL.2.2 3 _ rfl
                have z3 := hL.2.1 3
                have hT6 := (Turned.refl (fun j => j = mb) wr.heap.size wr).set (b := mb) 3 (.bool true) (fun _ => rfl)
                have hL6 : LAt (wr.setCell ⟨mb, 3, none⟩ (.bool true)) mb rb { l with dead := true } := by
                  have := hL.set 3 (.bool true) (by simp)
                  unfold LAt
                  simpa using this
                have HT6 := Lib.hid hT6
                have HL6 := Lib.hid hL6
                have HIn := Lib.hid hIn
                clear hT6 hL6 hev hg hL hR hDk hT1 hT2 hIn Hc
                by_cases hlt : k < rs.length
                · have hlti : (k : Int) < (rs.length : Int) := by omega
                  go_wp2_with fail
                  go_ret
                  exact RAppIs.made Hr.out HIn.out HL.out Hlb.out HT6.out HL6.out
                · have hlti : ¬ ((k : Int) < (rs.length : Int)) := by omega
                  go_wp2_with fail
                  go_ret
                  exact RAppIs.made Hr.out HIn.out HL.out Hlb.out HT6.out HL6.out
end Go.Proofs.YtgglheelhbfgiaaGreatDoor

namespace Go.Proofs.YtgglheelhbfgiaaGreatDoor
open Go Go.RowKit Go.Lib
/-- Where files end of which so many records were scanned. -/
structure FreshE (now : Fls) (n : Nat) (E : Ends) : Prop where
  ends : EndsIn now E
  above : ∀ j, n ≤ 8 * j → endOf E (nameS j) = 0
  other : ∀ p, (∀ j, j < 100 → p ≠ nameS j) → endOf E p = 0
theorem freshE_nil (now : Fls) : FreshE now 0 [] := ⟨endsIn_nil now, fun _ _ => rfl, fun _ _ => rfl⟩
theorem FreshE.put {now : Fls} {n : Nat} {E : Ends} (h : FreshE now n E) (hn : n < 800) {m : Nat} (hm : endOf E (nameS (n / 8)) + m ≤ (hasD now (nameS (n / 8))).size) : FreshE now (n + 1) (putK E (nameS (n / 8)) (endOf E (nameS (n / 8)) + m)) := by
  refine ⟨endsIn_put h.ends hm, fun j hj => ?_, fun p hp => ?_⟩
  · rw [endOf_put h.ends.nodup, if_neg (fun e => by have := nameS_inj e; omega)]
    exact h.above j (by omega)
  · rw [endOf_put h.ends.nodup, if_neg (hp _ (by omega))]
    exact h.other p hp
/-- The array of ends. -/
def ArrE (w : World) (eb : Nat) (E : Ends) : Prop := VarAt w eb ((List.range 100).map fun j => .int .i64 (endOf E (nameS j)))
theorem arrE_at {w : World} {eb : Nat} {E : Ends} (h : ArrE w eb E) {j : Nat} (hj : j < 100) : w.cell? ⟨eb, j, none⟩ = some (.int .i64 (endOf E (nameS j))) ∧ w.frozen? ⟨eb, j, none⟩ = false :=
  ⟨h.2.2 j _ (by rw [List.getElem?_map, List.getElem?_range hj]; rfl), h.2.1 j⟩
theorem ArrE.put {w : World} {eb : Nat} {E : Ends} (hn : (E.map (·.1)).Nodup) (h : ArrE w eb E) {k : Nat} (hk : k < 100) (x : Int) : ArrE (w.setCell ⟨eb, k, none⟩ (.int .i64 x)) eb (putK E (nameS k) x) := by
  have h1 := VarAt.set h k (.int .i64 x) (by simpa using hk)
  have e : ((List.range 100).map fun j => Value.int .i64 (endOf E (nameS j))).set k (.int .i64 x) = (List.range 100).map fun j => .int .i64 (endOf (putK E (nameS k) x) (nameS j)) := by
    apply List.ext_getElem
    · simp
    · intro i h2 h3
      rw [List.getElem_set, List.getElem_map, List.getElem_map, List.getElem_range, endOf_put hn]
      by_cases hi : k = i
      · subst hi
        rw [if_pos rfl, if_pos rfl]
      · rw [if_neg hi, if_neg fun e => hi (nameS_inj e).symm]
  unfold ArrE
  rw [← e]
  exact h1
theorem arrZero : Tryz.zeroCells108 = Array.replicate 100 (.int .i64 0) := by kernel_rfl
theorem arrE_new (w : World) : ArrE (w.alloc (.cells (Array.replicate 100 (.int .i64 0)) 108)) w.heap.size [] := by
  have h := VarAt.new w (Array.replicate 100 (.int .i64 0)) 108
  have e : (Array.replicate 100 (Value.int .i64 0)).toList = (List.range 100).map fun j => .int .i64 (endOf [] (nameS j)) := by
    rw [Array.toList_replicate]
    apply List.ext_getElem
    · simp
    · intro i h2 h3
      rw [List.getElem_map, List.getElem_replicate]
      rfl
  unfold ArrE
  rw [← e]
  exact h
/-- What an opening answers. -/
def ROpenIs (w : World) (rb : Nat) (S : Nat → Prop) (o : OpenR) (e : Ending) (w' : World) : Prop :=
  ∃ T, ROk w' rb T o.d ∧ DkOK o.d ∧ (∀ k, T k → S k ∨ w.heap.size ≤ k) ∧ Turned S w.heap.size w w' ∧
    ((o.log = none ∧ o.out = [] ∧ e = .returned (.tuple #[.pointer none, .slice none 0 0, .int .i64 o.err])) ∨
     ∃ l mb v, o.log = some l ∧ e = .returned (.tuple #[.pointer (some ⟨mb, 0, none⟩), v, .int .i64 o.err]) ∧ LAt w' mb rb l ∧ w.heap.size ≤ mb ∧ ¬ T mb ∧ OwnRows strLay w' w.heap.size 9 v o.out ∧ ∀ k, v.ownBlock = some k → ¬ T k ∧ k ≠ mb)
theorem ROpenIs.none {w w' : World} {rb : Nat} {S : Nat → Prop} {o : OpenR} {d : Dk} {n : Int} (ho : o = ⟨.none, [], n, d⟩) (h : RIn S w w' rb d) : ROpenIs w rb S o (.returned (.tuple #[.pointer .none, .slice .none 0 0, .int .i64 n])) w' := by
  subst ho
  obtain ⟨T, h1, h2, h3, h4⟩ := h
  exact ⟨T, h1, h2, h3, h4, .inl ⟨rfl, rfl, rfl⟩⟩
theorem RIn.from {S : Nat → Prop} {w B w' : World} {rb : Nat} {d : Dk} (hb : Below w.heap.size w B) (h : RIn S B w' rb d) : RIn S w w' rb d := by
  obtain ⟨T, h1, h2, h3, h4⟩ := h
  exact ⟨T, h1, h2, fun k hk => (h3 k hk).imp id fun h => Nat.le_trans hb.size h, (Turned.of_below hb (Nat.le_refl _)).trans (h4.mono hb.size fun _ _ h => h)⟩
/-- A step of the scanning: a frame is there. -/
theorem scan_frame {now : Fls} {out : List ByteArray} {E : Ends} {k i : Nat} {rest : ByteArray} (hF : FreshE now out.length E) (hk : k < 100) (hi : i < 8) (ho : out.length = 8 * k + i) (hr : rest.data.toList = (hasD now (nameS k)).data.toList.drop (endOf E (nameS k)).toNat) {s : List UInt8} {n : Nat} (hf : firstL rest.data.toList (8 * k + i) = some (s, n)) :
    scanG now (800 - out.length) out E = scanG now (800 - (out ++ [mkB s]).length) (out ++ [mkB s]) (putK E (nameS k) (endOf E (nameS k) + n)) ∧ FreshE now (out ++ [mkB s]).length (putK E (nameS k) (endOf E (nameS k) + n)) ∧
    (mkB (rest.data.toList.drop n)).data.toList = (hasD now (nameS k)).data.toList.drop (endOf (putK E (nameS k) (endOf E (nameS k) + n)) (nameS k)).toNat ∧ ((hasD now (nameS k)).size : Int) - ((mkB (rest.data.toList.drop n)).size : Int) = endOf E (nameS k) + n ∧ endOf E (nameS k) + n ≤ (hasD now (nameS k)).size := by
  have hk8 : out.length / 8 = k := by omega
  have hlow := hF.ends.low (nameS k)
  have hhigh := hF.ends.high (nameS k)
  have hle := first_len hf
  have hdl : (hasD now (nameS k)).data.toList.length = (hasD now (nameS k)).size := rfl
  have hrl : rest.data.toList.length = (hasD now (nameS k)).size - (endOf E (nameS k)).toNat := by rw [hr, List.length_drop, hdl]
  have hm : endOf E (nameS k) + n ≤ (hasD now (nameS k)).size := by omega
  have hf2 : firstL ((hasD now (nameS (out.length / 8))).data.toList.drop (endOf E (nameS (out.length / 8))).toNat) out.length = some (s, n) := by rw [hk8, ← hr, ho]; exact hf
  have h1 := scan_go (now := now) (out := out) (E := E) (by omega) hf2
  have h2 := hF.put (m := n) (by omega) (by rw [hk8]; exact hm)
  rw [hk8] at h1 h2
  have e : endOf (putK E (nameS k) (endOf E (nameS k) + n)) (nameS k) = endOf E (nameS k) + n := by rw [endOf_put hF.ends.nodup, if_pos rfl]
  refine ⟨h1, by rw [List.length_append]; exact h2, ?_, ?_, hm⟩
  · rw [e]
    show rest.data.toList.drop n = _
    rw [hr, List.drop_drop]
    congr 1
    omega
  · rw [mkB_size, List.length_drop, hrl]
    omega
theorem scan_none {now : Fls} {out : List ByteArray} {E : Ends} {k i : Nat} {rest : ByteArray} (hk : k < 100) (hi : i < 8) (ho : out.length = 8 * k + i) (hr : rest.data.toList = (hasD now (nameS k)).data.toList.drop (endOf E (nameS k)).toNat) (hf : firstL rest.data.toList (8 * k + i) = none) :
    scanG now (800 - out.length) out E = (out, E) := by
  have hk8 : out.length / 8 = k := by omega
  exact scan_stop (by omega) (by rw [hk8, ← hr, ho]; exact hf)
/-- How much of a file is to be kept: what a loop over names finds. -/
def keptE (E : Ends) (p : ByteArray) (k : Nat) : Int := if (List.range k).any (fun j => decide (p = nameS j)) then endOf E p else 0
theorem keptE_next {E : Ends} {p : ByteArray} {k : Nat} : keptE E p (k + 1) = if p = nameS k then endOf E (nameS k) else keptE E p k := by
  unfold keptE
  rw [List.range_succ, List.any_append]
  by_cases h : p = nameS k
  · rw [if_pos h]
    simp [h]
  · rw [if_neg h]
    simp [h]
theorem keptE_end {now : Fls} {n : Nat} {E : Ends} (h : FreshE now n E) (p : ByteArray) : keptE E p 100 = endOf E p := by
  unfold keptE
  by_cases hp : (List.range 100).any (fun j => decide (p = nameS j)) = true
  · rw [if_pos hp]
  · rw [if_neg hp]
    refine (h.other p fun j hj e => hp ?_).symm
    rw [List.any_eq_true]
    exact ⟨j, List.mem_range.2 hj, decide_eq_true e⟩
end Go.Proofs.YtgglheelhbfgiaaGreatDoor

