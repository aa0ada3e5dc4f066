/-
  seglog: lay. seglog: Append, Len. seglog: nothing is done by nil; two lists held against each other. arbourlaw16: the chapter's example.
-/
import Derived.Test.YtgglheelhbfgiaaGreatDoorSegGA
import Derived.Test.YtgglheelhbfgiaaGreatDoorLogG
import Derived.Test.YtgglheelhbfgiaaGreatDoorBasics
namespace Go.Proofs.YtgglheelhbfgiaaGreatDoor
open Go Go.RowKit Go.Lib
theorem write_parts {d : Dk} {p : ByteArray} {n : Int} {data : ByteArray} (h : (writeD d p n data).2 = 0) : 0 ≤ n ∧ n ≤ d.limit ∧ (writeD d p n data).1.dead = false ∧ (writeD d p n data).1.now.length ≤ d.now.length + 1 ∧ (writeD d p n data).1.acts.length ≤ d.acts.length + 1 ∧ (writeD d p n data).1.limit = d.limit := by
  unfold writeD at h ⊢
  by_cases hw : wrongD d p n ≠ 0
  · rw [if_pos hw] at h
    exact absurd h hw
  · rw [if_neg hw] at h ⊢
    obtain ⟨_, _, _, h4, h5⟩ := wrongD_ok (Decidable.not_not.1 hw)
    by_cases hf : (d.limit : Int) - max ((hasD d.now p).size : Int) (n + data.size) < (sizeF d.now : Int) - (hasD d.now p).size
    · rw [if_pos hf] at h
      cases h
    · rw [if_neg hf] at h ⊢
      obtain ⟨e1, e2, e3⟩ := does_parts h
      rw [e2, e3]
      refine ⟨h4, h5, e1, doD_len _ _ _, by simp, ?_⟩
      cases hz : (diesD { d with acts := d.acts ++ [⟨false, p, n.toNat, data⟩] }).dead with
      | true => rw [does_dead hz] at h; cases h
      | false =>
        rw [does_alive hz]
        exact (dies_same { d with acts := d.acts ++ [⟨false, p, n.toNat, data⟩] }).2.2.2
theorem lay_stop {many i : Nat} {at_ : Int} {s : ByteArray} {r : List ByteArray} {d : Dk} (h : (writeD d (nameS ((many + i) / 8)) (if (many + i) % 8 = 0 then 0 else at_) (frameB (many + i) s)).2 ≠ 0) : layG many i at_ (s :: r) d = ((writeD d (nameS ((many + i) / 8)) (if (many + i) % 8 = 0 then 0 else at_) (frameB (many + i) s)).1, 0, (writeD d (nameS ((many + i) / 8)) (if (many + i) % 8 = 0 then 0 else at_) (frameB (many + i) s)).2) := by
  rw [layG, if_pos h]
theorem lay_go {many i : Nat} {at_ : Int} {s : ByteArray} {r : List ByteArray} {d : Dk} (h : (writeD d (nameS ((many + i) / 8)) (if (many + i) % 8 = 0 then 0 else at_) (frameB (many + i) s)).2 = 0) : layG many i at_ (s :: r) d = layG many (i + 1) ((if (many + i) % 8 = 0 then 0 else at_) + (frameB (many + i) s).size) r (writeD d (nameS ((many + i) / 8)) (if (many + i) % 8 = 0 then 0 else at_) (frameB (many + i) s)).1 := by
  rw [layG, if_neg (fun e => e h)]
theorem rows_block {α : Type} {L : Lay α} {w : World} {ad : Addr} {xs : List α} (h : RowsAt L w (some ad) xs) (h0 : 0 < xs.length) : ad.block < w.heap.size := by
  obtain ⟨b, off, e, hlt, _⟩ := h 0 xs[0] (List.getElem?_eq_getElem h0)
  cases e
  exact hlt
theorem frameB_size (n : Nat) (s : ByteArray) : (frameB n s).size ≤ 36 + s.size := by
  unfold frameB
  rw [mkB_size]
  exact frame_le2
set_option maxRecDepth 100000 in
set_option maxHeartbeats 6400000 in
theorem slay_any {w : World} {db lb : Nat} {S : Nat → Prop} {d : Dk} {l : Lg} (h : DOk w db S d) (hL : LAt w lb db l) (hlb : ¬ S lb) (a : Option Addr) (cap : Nat) (rs : List ByteArray) (hR : RowsAt strLay w a rs) (hRa : ∀ ad, a = some ad → 0 < rs.length → ad.block < w.heap.size ∧ ¬ S ad.block)
    (hn : l.many + rs.length ≤ 800) (hrs : ∀ s ∈ rs, s.size ≤ 2000) (hl : d.now.length ≤ 99000) (hal : d.acts.length ≤ 900000000) :
    Calls Tryz.prog 57 #[.pointer (some ⟨lb, 0, none⟩), .slice a rs.length cap] w fun e w' => e = .returned (.tuple #[.int .i64 (layD l rs d).2.1, .int .i64 (layD l rs d).2.2]) ∧ DIn S w w' db (layD l rs d).1 := by
  have HL := Lib.hid hL
  have HR := Lib.hid hR
  have HRa := Lib.hid hRa
  have Hrs := Lib.hid hrs
  have Hlb := Lib.hid hlb
  have Hin0 := Lib.hid (DIn.start h)
  have Hld := Lib.hid (show layD l rs d = if (layG l.many 0 l.fin rs d).2.2 ≠ 0 then layG l.many 0 l.fin rs d else ((syncD (layG l.many 0 l.fin rs d).1).1, (layG l.many 0 l.fin rs d).2.1, (syncD (layG l.many 0 l.fin rs d).1).2) from rfl)
  have HK := Lib.hid (show ∀ W, Turned S w.heap.size w W → LAt W lb db l ∧ RowsAt strLay W a rs from fun W hW => ⟨hL.same (hW.block lb hL.1 hlb) hW.size, by
    by_cases h0 : 0 < rs.length
    · exact hR.turned hW fun ad e => hRa ad e h0
    · rw [show rs = [] from List.length_eq_zero_iff.1 (by omega)]
      exact RowsAt.nil _ _ _⟩)
  have c2 : w.cell? ⟨lb, 2, none⟩ = some (.int .i64 l.fin) := hL.2.2 2 _ rfl
  obtain ⟨many, fin, dead⟩ := l
  dsimp only at c2 hn Hld
  have Hlim := Lib.hid h.ok.limit
  have Hl := Lib.hid hl
  have Hal := Lib.hid hal
  clear h hL hlb hR hRa hrs hl hal
  generalize layD ⟨many, fin, dead⟩ rs d = LD at *
  go_enter Tryz.func57, Tryz.ntmps57
  go_wp2_with fail
  go_loopw [6, 7, 8, 9, 10, 11, 18] (fun q _ _ _ _ _ i wr => ∃ (k : Nat) (at_ : Int) (dk : Dk), k ≤ rs.length ∧ i = .int .i64 k ∧ q = .int .i64 at_ ∧ DIn S w wr db dk ∧ Hid (layG many 0 fin rs d = layG many k at_ (rs.drop k) dk) ∧ Hid (dk.now.length ≤ d.now.length + k ∧ dk.acts.length ≤ d.acts.length + k ∧ dk.limit = d.limit)) (fun _ _ _ _ _ _ i _ => rs.length - (RowKit.intOf i).toNat)
  case atStart => exact ⟨0, fin, d, Nat.zero_le _, rfl, rfl, Hin0.out, Lib.hid rfl, Lib.hid ⟨Nat.le_refl _, Nat.le_refl _, rfl⟩⟩
  case round =>
    obtain ⟨k, at_, dk, hk, rfl, rfl, hIn, Hc, Hdk⟩ := hrel
    by_cases hlt : k < rs.length
    · obtain ⟨s, hs⟩ := at_some hlt
      have hss := Hrs.out s (List.mem_of_getElem? hs)
      have Hdrop := Lib.hid (show rs.drop k = s :: rs.drop (k + 1) from drop_at hs)
      rw [Hdrop.out] at Hc
      obtain ⟨T, hDk, hT1, hT2⟩ := hIn
      obtain ⟨hL, hR⟩ := HK.out wr hT2
      obtain ⟨bx, off, hae, hbl, hc⟩ := hR k _ hs
      have hc0 : wr.cell? ⟨bx, off + k, none⟩ = some (.string s) := by
        have := hc 0 _ rfl
        rwa [show off + k * strLay.sz + 0 = off + k by show off + k * 1 + 0 = _; omega] at this
      have hlti : (k : Int) < (rs.length : Int) := by omega
      have c0 : wr.cell? ⟨lb, 0, none⟩ = some (.pointer (some ⟨db, 0, none⟩)) := hL.2.2 0 _ rfl
      have c1 : wr.cell? ⟨lb, 1, none⟩ = some (.int .i64 many) := hL.2.2 1 _ rfl
      subst hae
      clear hc hs hR hL c2
      have Hstop := Lib.hid (fun hq => Hc.out.trans (lay_stop (many := many) (i := k) (at_ := at_) (s := s) (r := rs.drop (k + 1)) (d := dk) hq))
      have Hgo := Lib.hid (fun hq => Hc.out.trans (lay_go (many := many) (i := k) (at_ := at_) (s := s) (r := rs.drop (k + 1)) (d := dk) hq))
      obtain ⟨n, hnk⟩ : ∃ n, many + k = n := ⟨_, rfl⟩
      have hni : (many : Int) + (k : Int) = (n : Int) := by omega
      have hn8 : n < 800 := by omega
      rw [hnk] at Hstop Hgo
      have hq8 : ((n / 8 : Nat) : Int) = (n : Int) / 8 := by omega
      have hr8 : ((n % 8 : Nat) : Int) = (n : Int) % 8 := by omega
      have HNm := Lib.hid fun W => sname_any (n / 8) (by omega) W
      rw [hq8] at HNm
      have Hwr := Lib.hid (show IntKind.i64.wrap ((n : Int) / 8) = (n : Int) / 8 from IntWalk.i64_in _ (by omega))
      have HFr := Lib.hid fun W => frame_any n s W (by omega)
      have hfz := frameB_size n s
      obtain ⟨pos, hpos⟩ : ∃ pos : Int, (if n % 8 = 0 then 0 else at_) = pos := ⟨_, rfl⟩
      rw [hpos] at Hstop Hgo
      have Hw := Lib.hid fun (W : World) (hW : Below wr.heap.size wr W) => dwrite_any (hDk.below hW) (nameS (n / 8)) pos (frameB n s) (by have := Hdk.out; have := Hl.out; omega) (by have := Hdk.out; have := Hal.out; omega) (by omega)
      have Hwp := Lib.hid fun hq => write_parts (d := dk) (p := nameS (n / 8)) (n := pos) (data := frameB n s) hq
      have HDk := Lib.hid hDk
      have Hpos := Lib.hid hpos
      clear hDk hpos hnk
      have hz8 : (n % 8 = 0 ∧ pos = 0) ∨ (n % 8 ≠ 0 ∧ pos = at_) := by
        have := Hpos.out
        by_cases h8 : n % 8 = 0
        · rw [if_pos h8] at this
          exact .inl ⟨h8, this.symm⟩
        · rw [if_neg h8] at this
          exact .inr ⟨h8, this.symm⟩
      generalize nameS (n / 8) = nm at *
      generalize frameB n s = fr at *
      rcases hz8 with ⟨h8, rfl⟩ | ⟨h8, rfl⟩
      · have hmi : (n : Int) % 8 = 0 := by omega
        go_wp2_with fail
        refine (HFr.out _).mono ?_
        rintro e w1 ⟨rfl, hb1⟩
        have hfr2 : fr.size ≤ 8000 := by omega
        have k0 : w1.drew.cell? ⟨lb, 0, none⟩ = some (.pointer (some ⟨db, 0, none⟩)) := (hb1.cell (p := ⟨lb, 0, none⟩) (block_lt_of_cell c0)).trans c0
        have j0 : w1.cell? ⟨lb, 0, none⟩ = some (.pointer (some ⟨db, 0, none⟩)) := k0
        have hbd : Below wr.heap.size wr w1.drew := belowDrew hb1 1
        have hlbl : lb < w1.drew.heap.size := block_lt_of_cell k0
        have hlbT : ¬ T lb := fun h => by
          rcases hT1 lb h with h | h
          · exact Hlb.out h
          · have := HL.out.1
            omega
        have HT1 := Lib.hid hT1
        have HT2 := Lib.hid (hT2.trans (Turned.of_below hbd hT2.size))
        clear hb1 hT1 hT2
        go_wp2_with fail
        go_region_held3 (fun w' => w'.cell? ⟨lb, 0, none⟩ = some (.pointer (some ⟨db, 0, none⟩)))
          (first | exact k0 | exact hK9 | go_keep)
          (first | (go_at_call 53; rw [Hwr.out]; refine (HNm.out _).mono ?_; rintro e w5 ⟨rfl, rfl⟩) | (go_at_call 21; refine (Hw.out _ hbd).mono ?_; rintro e w4 ⟨rfl, hg4⟩; have hK9 : w4.cell? ⟨lb, 0, none⟩ = some (.pointer (some ⟨db, 0, none⟩)) := (cell_same (hg4.2.block lb hlbl hlbT) 0).trans k0))
        have hIn4 := DIn.step HT1.out HT2.out hg4
        clear hg4 k0 hbd
        by_cases he : (writeD dk nm 0 fr).2 = 0
        · have Hn := Lib.hid (Hgo.out he)
          obtain ⟨a1, a2, a3, a4, a5, a6⟩ := Hwp.out he
          have Ha := Lib.hid (show dk.now.length + 1 ≤ d.now.length + (k + 1) ∧ dk.acts.length + 1 ≤ d.acts.length + (k + 1) from ⟨by have := Hdk.out; omega, by have := Hdk.out; omega⟩)
          have hlm : 0 ≤ 4194304 := by have := Hdk.out; have := Hlim.out; omega
          have Ha6 := Lib.hid (a6.trans Hdk.out.2.2)
          have Ha4 := Lib.hid a4
          have Ha5 := Lib.hid a5
          rw [he]
          clear he a2 a3 a4 a5 a6
          generalize (writeD dk nm 0 fr).1 = d4 at *
          go_wp2_with fail
          go_roundw
          case rel => exact ⟨k + 1, _, d4, by omega, by go_num, by go_num, hIn4, Hn, Lib.hid ⟨Nat.le_trans Ha4.out Ha.out.1, Nat.le_trans Ha5.out Ha.out.2, Ha6.out⟩⟩
          case measure => simp [RowKit.intOf]; omega
        · have Hn := Lib.hid (Hstop.out he)
          have hq := neq_int he
          have Ho := Lib.hid (Hld.out.trans (if_pos (by rw [show layG many 0 fin rs d = _ from Hn.out]; exact he)))
          rw [show layG many 0 fin rs d = _ from Hn.out] at Ho
          clear he
          generalize (writeD dk nm 0 fr).2 = er at *
          go_wp2_with fail
          go_ret2
          rw [Ho.out]
          exact ⟨rfl, hIn4⟩
      · have hmi : ¬ ((n : Int) % 8 = 0) := by omega
        have hmb : ((n : Int) % 8 == 0) = false := beq_eq_false_iff_ne.2 hmi
        go_wp2_with fail
        refine (HFr.out _).mono ?_
        rintro e w1 ⟨rfl, hb1⟩
        have hfr2 : fr.size ≤ 8000 := by omega
        have k0 : w1.drew.cell? ⟨lb, 0, none⟩ = some (.pointer (some ⟨db, 0, none⟩)) := (hb1.cell (p := ⟨lb, 0, none⟩) (block_lt_of_cell c0)).trans c0
        have j0 : w1.cell? ⟨lb, 0, none⟩ = some (.pointer (some ⟨db, 0, none⟩)) := k0
        have hbd : Below wr.heap.size wr w1.drew := belowDrew hb1 1
        have hlbl : lb < w1.drew.heap.size := block_lt_of_cell k0
        have hlbT : ¬ T lb := fun h => by
          rcases hT1 lb h with h | h
          · exact Hlb.out h
          · have := HL.out.1
            omega
        have HT1 := Lib.hid hT1
        have HT2 := Lib.hid (hT2.trans (Turned.of_below hbd hT2.size))
        clear hb1 hT1 hT2
        go_wp2_with fail
        go_region_held3 (fun w' => w'.cell? ⟨lb, 0, none⟩ = some (.pointer (some ⟨db, 0, none⟩)))
          (first | exact k0 | exact hK9 | go_keep)
          (first | (go_at_call 53; rw [Hwr.out]; refine (HNm.out _).mono ?_; rintro e w5 ⟨rfl, rfl⟩) | (go_at_call 21; refine (Hw.out _ hbd).mono ?_; rintro e w4 ⟨rfl, hg4⟩; have hK9 : w4.cell? ⟨lb, 0, none⟩ = some (.pointer (some ⟨db, 0, none⟩)) := (cell_same (hg4.2.block lb hlbl hlbT) 0).trans k0))
        have hIn4 := DIn.step HT1.out HT2.out hg4
        clear hg4 k0 hbd
        by_cases he : (writeD dk nm pos fr).2 = 0
        · have Hn := Lib.hid (Hgo.out he)
          obtain ⟨a1, a2, a3, a4, a5, a6⟩ := Hwp.out he
          have Ha := Lib.hid (show dk.now.length + 1 ≤ d.now.length + (k + 1) ∧ dk.acts.length + 1 ≤ d.acts.length + (k + 1) from ⟨by have := Hdk.out; omega, by have := Hdk.out; omega⟩)
          have hlm : pos ≤ 4194304 := by have := Hdk.out; have := Hlim.out; omega
          have Ha6 := Lib.hid (a6.trans Hdk.out.2.2)
          have Ha4 := Lib.hid a4
          have Ha5 := Lib.hid a5
          rw [he]
          clear he a2 a3 a4 a5 a6
          generalize (writeD dk nm pos fr).1 = d4 at *
          go_wp2_with fail
          go_roundw
          case rel => exact ⟨k + 1, _, d4, by omega, by go_num, by go_num, hIn4, Hn, Lib.hid ⟨Nat.le_trans Ha4.out Ha.out.1, Nat.le_trans Ha5.out Ha.out.2, Ha6.out⟩⟩
          case measure => simp [RowKit.intOf]; omega
        · have Hn := Lib.hid (Hstop.out he)
          have hq := neq_int he
          have Ho := Lib.hid (Hld.out.trans (if_pos (by rw [show layG many 0 fin rs d = _ from Hn.out]; exact he)))
          rw [show layG many 0 fin rs d = _ from Hn.out] at Ho
          clear he
          generalize (writeD dk nm pos fr).2 = er at *
          go_wp2_with fail
          go_ret2
          rw [Ho.out]
          exact ⟨rfl, hIn4⟩
    · obtain rfl : k = rs.length := by omega
      have hG : layG many 0 fin rs d = (dk, at_, 0) := by
        have := Hc.out
        rw [List.drop_length] at this
        exact this
      have Ho := Lib.hid (Hld.out.trans (if_neg (by rw [hG]; exact fun e => e rfl)))
      rw [hG] at Ho
      obtain ⟨T, hDk, hT1, hT2⟩ := hIn
      obtain ⟨hL, hR⟩ := HK.out wr hT2
      have c0 : wr.cell? ⟨lb, 0, none⟩ = some (.pointer (some ⟨db, 0, none⟩)) := hL.2.2 0 _ rfl
      have HSy := Lib.hid (dsync_any hDk)
      clear hG hDk hL hR
      go_wp2_with fail
      refine HSy.out.mono ?_
      rintro e w4 ⟨rfl, hg4⟩
      have hIn4 := DIn.step hT1 hT2 hg4
      clear hg4
      go_wp2_with fail
      go_ret2
      rw [Ho.out]
      exact ⟨rfl, hIn4⟩
end Go.Proofs.YtgglheelhbfgiaaGreatDoor

namespace Go.Proofs.YtgglheelhbfgiaaGreatDoor
open Go Go.RowKit Go.Lib
set_option maxRecDepth 100000 in
theorem wrongR_any (s : ByteArray) (w : World) : Calls Tryz.prog 55 #[.string s] w fun e w' => e = .returned (.bool (!rightR s)) ∧ w' = w := by
  have HR := Lib.hid (right_any s w)
  generalize rightR s = r at *
  go_enter Tryz.func55, Tryz.ntmps55
  go_wp2_with fail
  refine HR.out.mono ?_
  rintro e w' ⟨rfl, rfl⟩
  go_wp2_with fail
  go_ret
  exact ⟨rfl, rfl⟩
theorem rows_cells {w : World} {b off : Nat} {xs : List ByteArray} (h : RowsAt strLay w (some ⟨b, off, none⟩) xs) : ∀ j, j < xs.length → w.cell? ⟨b, off + j, none⟩ = some (Value.string xs[j]!) := by
  intro j hj
  obtain ⟨b', off', e, _, hc⟩ := h j xs[j] (List.getElem?_eq_getElem hj)
  cases e
  have := hc 0 _ rfl
  rw [show off + j * strLay.sz + 0 = off + j by show off + j * 1 + 0 = _; omega] at this
  rw [this, getElem!_pos xs j hj]
theorem contains_any (a : Option Addr) (cap : Nat) (rs : List ByteArray) (w : World) (hR : RowsAt strLay w a rs) (hl : rs.length ≤ 1000000000) :
    Calls Tryz.prog 54 #[.slice a rs.length cap, .func (.func 55) #[] #[]] w fun e w' => e = .returned (.bool (rs.any fun s => !rightR s)) ∧ ∃ q, w' = w.drewN q := by
  cases rs with
  | nil => exact (Tryz.slices_ContainsFunc_empty (α := ByteArray) a cap _ w).mono fun _ _ h => ⟨h.1, 0, by rw [h.2, World.drewN_zero]⟩
  | cons s r =>
    obtain ⟨b, off, e, _, _⟩ := hR 0 s rfl
    subst e
    have := Tryz.slices_ContainsFunc (α := ByteArray) Value.string (fun s => !rightR s) 55 #[] (enters_of Tryz.func55 (by kernel_rfl) rfl) b off (s :: r).length cap (s :: r) w (fun W x _ => (wrongR_any x W).mono fun _ _ h => ⟨h.1, 0, by rw [h.2, World.drewN_zero]⟩) (Nat.le_refl _) (by omega) (rows_cells hR)
    rw [List.take_length] at this
    exact this
set_option maxRecDepth 100000 in
theorem slen_any (lb db : Nat) (l : Lg) (w : World) (hL : LAt w lb db l) : Calls Tryz.prog 11 #[.pointer (some ⟨lb, 0, none⟩)] w fun e w' => e = .returned (.int .i64 l.many) ∧ w' = w := by
  have c1 : w.cell? ⟨lb, 1, none⟩ = some (.int .i64 l.many) := hL.2.2 1 _ rfl
  clear hL
  go_enter Tryz.func11, Tryz.ntmps11
  go_wp2_with fail
  go_ret
  exact ⟨rfl, rfl⟩
theorem append_dead {l : Lg} {rs : List ByteArray} {d : Dk} (h : l.dead = true) : appendD l rs d = (l, d, 42) := if_pos h
theorem append_wrong {l : Lg} {rs : List ByteArray} {d : Dk} (h : l.dead = false) (h2 : (rs.any fun s => !rightR s) = true) : appendD l rs d = (l, d, 1) := by
  unfold appendD
  rw [if_neg (by rw [h]; exact Bool.noConfusion), if_pos (by rw [List.any_eq_not_all_not] at h2; simpa using h2)]
theorem all_of {rs : List ByteArray} (h2 : (rs.any fun s => !rightR s) = false) : rs.all rightR = true := by
  rw [List.any_eq_not_all_not] at h2
  simpa using h2
theorem append_big {l : Lg} {rs : List ByteArray} {d : Dk} (h : l.dead = false) (h2 : (rs.any fun s => !rightR s) = false) (h3 : 800 < l.many + rs.length) : appendD l rs d = (l, d, 40) := by
  unfold appendD
  rw [if_neg (by rw [h]; exact Bool.noConfusion), if_neg (by rw [all_of h2]; exact Bool.noConfusion), if_pos h3]
theorem append_none {l : Lg} {rs : List ByteArray} {d : Dk} (h : l.dead = false) (h2 : (rs.any fun s => !rightR s) = false) (h3 : ¬ 800 < l.many + rs.length) (h4 : rs.length = 0) : appendD l rs d = (l, d, 0) := by
  unfold appendD
  rw [if_neg (by rw [h]; exact Bool.noConfusion), if_neg (by rw [all_of h2]; exact Bool.noConfusion), if_neg h3, if_pos h4]
theorem append_fell {l : Lg} {rs : List ByteArray} {d : Dk} (h : l.dead = false) (h2 : (rs.any fun s => !rightR s) = false) (h3 : ¬ 800 < l.many + rs.length) (h4 : ¬ rs.length = 0) (h5 : (layD l rs d).2.2 ≠ 0) : appendD l rs d = ({ l with dead := true }, (layD l rs d).1, (layD l rs d).2.2) := by
  unfold appendD
  rw [if_neg (by rw [h]; exact Bool.noConfusion), if_neg (by rw [all_of h2]; exact Bool.noConfusion), if_neg h3, if_neg h4, if_pos h5]
theorem append_fine {l : Lg} {rs : List ByteArray} {d : Dk} (h : l.dead = false) (h2 : (rs.any fun s => !rightR s) = false) (h3 : ¬ 800 < l.many + rs.length) (h4 : ¬ rs.length = 0) (h5 : (layD l rs d).2.2 = 0) : appendD l rs d = ({ l with many := l.many + rs.length, fin := (layD l rs d).2.1 }, (layD l rs d).1, 0) := by
  unfold appendD
  rw [if_neg (by rw [h]; exact Bool.noConfusion), if_neg (by rw [all_of h2]; exact Bool.noConfusion), if_neg h3, if_neg h4, if_neg (fun e => e h5)]
/-- What an appending answers. -/
def AppIs (w : World) (db lb : Nat) (S : Nat → Prop) (r : Lg × Dk × Int) (e : Ending) (w' : World) : Prop :=
  e = .returned (.int .i64 r.2.2) ∧ LAt w' lb db r.1 ∧ ∃ T, DOk w' db T r.2.1 ∧ (∀ k, T k → S k ∨ w.heap.size ≤ k) ∧ ¬ T lb ∧ Turned (fun k => S k ∨ k = lb) w.heap.size w w'
theorem AppIs.below {w w' : World} {db lb : Nat} {S : Nat → Prop} {d : Dk} {l : Lg} {n : Int} {R : Lg × Dk × Int} (hr : R = (l, d, n)) (h : DOk w db S d) (hL : LAt w lb db l) (hlb : ¬ S lb) (hb : Below w.heap.size w w') : AppIs w db lb S R (.returned (.int .i64 n)) w' := by
  subst hr
  exact ⟨rfl, hL.keeps hb hL.1, S, h.below hb, fun _ hk => .inl hk, hlb, Turned.of_below hb (Nat.le_refl _)⟩
theorem notT {w : World} {lb : Nat} {S T : Nat → Prop} (h1 : ∀ k, T k → S k ∨ w.heap.size ≤ k) (hlb : ¬ S lb) (hlt : lb < w.heap.size) : ¬ T lb := fun h => by
  rcases h1 lb h with h | h
  · exact hlb h
  · omega
set_option maxRecDepth 100000 in
set_option maxHeartbeats 3200000 in
theorem sappend_any {w : World} {db lb : Nat} {S : Nat → Prop} {d : Dk} {l : Lg} (h : DOk w db S d) (hL : LAt w lb db l) (hlb : ¬ S lb) (a : Option Addr) (cap : Nat) (rs : List ByteArray) (hR : RowsAt strLay w a rs) (hRa : ∀ ad, a = some ad → 0 < rs.length → ad.block < w.heap.size ∧ ¬ S ad.block)
    (hm : l.many ≤ 1000000) (hrl : rs.length ≤ 1000000) (hl : d.now.length ≤ 99000) (hal : d.acts.length ≤ 900000000) :
    Calls Tryz.prog 10 #[.pointer (some ⟨lb, 0, none⟩), .slice a rs.length cap] w fun e w' => AppIs w db lb S (appendD l rs d) e w' := by
  have c1 : w.cell? ⟨lb, 1, none⟩ = some (.int .i64 l.many) := hL.2.2 1 _ rfl
  have c3 : w.cell? ⟨lb, 3, none⟩ = some (.bool l.dead) := hL.2.2 3 _ rfl
  have HC := Lib.hid (contains_any a cap rs w hR (by omega))
  have HLy := Lib.hid fun q h8 hrs => slay_any (w := w.drewN q) (h.below (belowDrew (Below.refl _ _) q)) (hL.keeps (belowDrew (Below.refl _ _) q) hL.1) hlb a cap rs (hR.keeps (belowDrew (Below.refl _ _) q)) hRa h8 hrs hl hal
  have HD := Lib.hid h
  have HL := Lib.hid hL
  have Hlb := Lib.hid hlb
  have H1 := Lib.hid (append_dead (l := l) (rs := rs) (d := d))
  have H2 := Lib.hid (append_wrong (l := l) (rs := rs) (d := d))
  have H3 := Lib.hid (append_big (l := l) (rs := rs) (d := d))
  have H4 := Lib.hid (append_none (l := l) (rs := rs) (d := d))
  have H5 := Lib.hid (append_fell (l := l) (rs := rs) (d := d))
  have H6 := Lib.hid (append_fine (l := l) (rs := rs) (d := d))
  have Hall := Lib.hid (all_of (rs := rs))
  obtain ⟨R, hR0⟩ : ∃ R, appendD l rs d = R := ⟨_, rfl⟩
  rw [hR0] at H1 H2 H3 H4 H5 H6 ⊢
  obtain ⟨LD, hLD⟩ : ∃ LD, layD l rs d = LD := ⟨_, rfl⟩
  rw [hLD] at H5 H6 HLy
  clear hR0 hLD h hL hlb hR hRa hl hal
  obtain ⟨dead, hdd⟩ : ∃ b, l.dead = b := ⟨_, rfl⟩
  rw [hdd] at c3
  obtain ⟨anyw, haw⟩ : ∃ b, (rs.any fun s => !rightR s) = b := ⟨_, rfl⟩
  rw [haw] at HC
  have Hdd := Lib.hid hdd
  have Haw := Lib.hid haw
  clear hdd haw
  cases dead with
  | true =>
    go_enter Tryz.func10, Tryz.ntmps10
    go_wp2_with fail
    go_ret
    exact AppIs.below (H1.out Hdd.out) HD.out HL.out Hlb.out (Below.refl _ _)
  | false =>
    cases anyw with
    | true =>
      go_enter Tryz.func10, Tryz.ntmps10
      go_wp2_with fail
      refine HC.out.mono ?_
      rintro e w1 ⟨rfl, q, rfl⟩
      go_wp2_with fail
      go_ret
      exact AppIs.below (H2.out Hdd.out Haw.out) HD.out HL.out Hlb.out (belowDrew (Below.refl _ _) q)
    | false =>
      by_cases h8 : 800 < l.many + rs.length
      · have h8i : (800 : Int) < (l.many : Int) + (rs.length : Int) := by omega
        have Hr := Lib.hid (H3.out Hdd.out Haw.out h8)
        clear h8
        go_enter Tryz.func10, Tryz.ntmps10
        go_wp2_with fail
        refine HC.out.mono ?_
        rintro e w1 ⟨rfl, q, rfl⟩
        go_wp2_with fail
        go_ret
        exact AppIs.below Hr.out HD.out HL.out Hlb.out (belowDrew (Below.refl _ _) q)
      · have h8i : (l.many : Int) + (rs.length : Int) ≤ 800 := by omega
        have H8 := Lib.hid h8
        by_cases h0 : rs.length = 0
        · have Hr := Lib.hid (H4.out Hdd.out Haw.out h8 h0)
          have hi0 : ((rs.length : Int) == 0) = true := beq_iff_eq.2 (by omega)
          clear h8 h0
          go_enter Tryz.func10, Tryz.ntmps10
          go_wp2_with fail
          refine HC.out.mono ?_
          rintro e w1 ⟨rfl, q, rfl⟩
          go_wp2_with fail
          go_ret
          exact AppIs.below Hr.out HD.out HL.out Hlb.out (belowDrew (Below.refl _ _) q)
        · have H0 := Lib.hid h0
          have hi0 : ((rs.length : Int) == 0) = false := beq_eq_false_iff_ne.2 (by omega)
          have hi1 : 0 < rs.length := by omega
          clear h8 h0
          have HLy2 := Lib.hid fun q => HLy.out q (by omega) (fun s hs => by
            have := List.all_eq_true.1 (Hall.out Haw.out) s hs
            unfold rightR at this
            simp only [Bool.and_eq_true, decide_eq_true_eq] at this
            exact this.2)
          clear HLy
          go_enter Tryz.func10, Tryz.ntmps10
          go_wp2_with fail
          refine HC.out.mono ?_
          rintro e w1 ⟨rfl, q, rfl⟩
          go_wp2_with fail
          refine (HLy2.out q).mono ?_
          rintro e w4 ⟨rfl, T, hD4, hT1, hT2⟩
          have hnT := notT (lb := lb) hT1 Hlb.out HL.out.1
          have hL4 : LAt w4 lb db l := (HL.out.keeps (belowDrew (Below.refl _ _) q) HL.out.1).same (hT2.block lb HL.out.1 Hlb.out) hT2.size
          have hT2w : Turned (fun k => S k ∨ k = lb) w.heap.size w w4 := (Turned.of_below (belowDrew (Below.refl w.heap.size w) q) (Nat.le_refl _)).trans (hT2.mono (Nat.le_refl _) fun _ _ h => .inl h)
          have f1 := hL4.2.1 1
          have f2 := hL4.2.1 2
          have f3 := hL4.2.1 3
          have k1 : w4.cell? ⟨lb, 1, none⟩ = some (.int .i64 l.many) := hL4.2.2 1 _ rfl
          have k2 : w4.cell? ⟨lb, 2, none⟩ = some (.int .i64 l.fin) := hL4.2.2 2 _ rfl
          have k3 : w4.cell? ⟨lb, 3, none⟩ = some (.bool l.dead) := hL4.2.2 3 _ rfl
          have HD4 := Lib.hid hD4
          have HL4 := Lib.hid hL4
          have HT1 := Lib.hid hT1
          have HT2w := Lib.hid hT2w
          clear hD4 hL4 hT1 hT2 hT2w
          by_cases he : LD.2.2 = 0
          · have Hr := Lib.hid (H6.out Hdd.out Haw.out H8.out H0.out he)
            rw [he]
            clear he
            go_wp2_with fail
            go_ret
            rw [Hr.out]
            refine ⟨rfl, ?_, T, HD4.out.foreign (T := fun k => k = lb) (((Turned.refl (fun k => k = lb) w4.heap.size w4).set (b := lb) 1 _ fun _ => rfl).set (b := lb) 2 _ fun _ => rfl) (fun k hk => by rw [show k = lb from hk]; exact hnT), HT1.out, hnT, (HT2w.out.set 1 _ fun _ => .inr rfl).set 2 _ fun _ => .inr rfl⟩
            have := (HL4.out.set 1 (.int .i64 ((l.many : Int) + (rs.length : Int))) (by simp)).set 2 (.int .i64 LD.2.1) (by simp)
            simpa [LAt] using this
          · have Hr := Lib.hid (H5.out Hdd.out Haw.out H8.out H0.out he)
            have hq := neq_int he
            clear he
            go_wp2_with fail
            go_ret
            rw [Hr.out]
            refine ⟨rfl, ?_, T, HD4.out.foreign (T := fun k => k = lb) ((Turned.refl (fun k => k = lb) w4.heap.size w4).set (b := lb) 3 _ fun _ => rfl) (fun k hk => by rw [show k = lb from hk]; exact hnT), HT1.out, hnT, HT2w.out.set 3 _ fun _ => .inr rfl⟩
            have := HL4.out.set 3 (.bool true) (by simp)
            simpa [LAt] using this
end Go.Proofs.YtgglheelhbfgiaaGreatDoor

namespace Go.Proofs.YtgglheelhbfgiaaGreatDoor
open Go Go.RowKit Go.Lib
theorem ssame_at {xs ys : List ByteArray} {k : Nat} {x y : ByteArray} (hx : xs[k]? = some x) (hy : ys[k]? = some y) (h : x ≠ y) : decide (xs = ys) = false :=
  decide_eq_false fun e => h (by rw [e, hy] at hx; cases hx; rfl)
theorem ssame_ok {xs ys : List ByteArray} (hl : xs.length = ys.length) (h : ∀ j, j < xs.length → xs[j]? = ys[j]?) : decide (xs = ys) = true :=
  decide_eq_true (List.ext_getElem? fun j => by
    by_cases hj : j < xs.length
    · exact h j hj
    · rw [List.getElem?_eq_none (by omega), List.getElem?_eq_none (by omega)])
theorem ssame_len {xs ys : List ByteArray} (hl : ¬ xs.length = ys.length) : decide (xs = ys) = false := decide_eq_false fun e => hl (by rw [e])
set_option maxRecDepth 100000 in
set_option maxHeartbeats 1600000 in
theorem stexts_any (a b : Option Addr) (cap cap' : Nat) (xs ys : List ByteArray) (w : World) (hl : xs.length ≤ 140737488351232) (ha : RowsAt strLay w a xs) (hb : RowsAt strLay w b ys) :
    Calls Tryz.prog 25 #[.slice a xs.length cap, .slice b ys.length cap'] w fun e w' => e = .returned (.bool (decide (xs = ys))) ∧ ∃ n, w' = w.drewN n := by
  have HA := Lib.hid ha
  have HB := Lib.hid hb
  clear ha hb
  by_cases hlen : xs.length = ys.length
  · have hq : ((xs.length : Int) != (ys.length : Int)) = false := by rw [hlen]; simp
    have Hlen := Lib.hid hlen
    clear hlen
    go_enter Tryz.func25, Tryz.ntmps25
    go_wp2
    clear hq
    go_loopw [5] (fun i wr => ∃ k : Nat, k ≤ xs.length ∧ i = .int .i64 k ∧ Hid (∀ j, j < k → xs[j]? = ys[j]?) ∧ ∃ n, wr = w.drewN n) (fun i _ => xs.length - (RowKit.intOf i).toNat)
    case atStart => exact ⟨0, Nat.zero_le _, rfl, fun j hj => absurd hj (Nat.not_lt_zero _), Drawn.refl _⟩
    case round =>
      obtain ⟨k, hk, rfl, Hk, n, rfl⟩ := hrel
      by_cases hlt : k < xs.length
      · have hlt2 : k < ys.length := by have := Hlen.out; omega
        obtain ⟨x, hx⟩ := at_some hlt
        obtain ⟨y, hy⟩ := at_some hlt2
        obtain ⟨b1, o1, rfl, hb1, c0⟩ := str_at HA.out hx
        obtain ⟨b2, o2, rfl, hb2, d0⟩ := str_at HB.out hy
        have Hx := Lib.hid hx
        have Hy := Lib.hid hy
        clear hx hy
        by_cases h1 : x = y
        · have e2 := str_eq h1
          have Hn := Lib.hid h1
          clear h1
          go_wp2
          go_quiet (fail)
          go_wp2
          go_roundw
          case rel =>
            refine ⟨k + 1, by omega, by go_num, fun j hj => ?_, n + nq, by simp⟩
            by_cases e : j = k
            · subst e; rw [Hx.out, Hy.out, Hn.out]
            · exact Hk.out j (by omega)
          case measure => simp [RowKit.intOf]; omega
        · have e2 := str_ne h1
          have Hr := Lib.hid (ssame_at Hx.out Hy.out h1)
          clear h1
          go_wp2
          go_quiet (fail)
          go_wp2
          go_ret
          exact ⟨ret_bool Hr.out.symm, n + nq, by simp⟩
      · have Hr := Lib.hid (ssame_ok Hlen.out (fun j hj => Hk.out j (by omega)))
        go_wp2
        go_ret
        exact ⟨ret_bool Hr.out.symm, _, rfl⟩
  · have Hr := Lib.hid (ssame_len hlen)
    have hq : ((xs.length : Int) != (ys.length : Int)) = true := by rw [bne_iff_ne]; omega
    clear hlen
    go_enter Tryz.func25, Tryz.ntmps25
    go_wp2
    go_ret
    exact ⟨ret_bool Hr.out.symm, Drawn.refl _⟩


set_option maxRecDepth 100000 in
theorem sopen_nil (w : World) : Calls Tryz.prog 9 #[.pointer none] w fun e w' => e = .returned (.tuple #[.pointer none, .slice none 0 0, .int .i64 2]) ∧ w' = w := by
  go_enter Tryz.func9, Tryz.ntmps9
  go_wp2_with fail
  go_ret3
  exact ⟨rfl, rfl⟩
set_option maxRecDepth 100000 in
theorem sappend_nil (v : Value) (w : World) : Calls Tryz.prog 10 #[.pointer none, v] w fun e w' => e = .returned (.int .i64 2) ∧ w' = w := by
  go_enter Tryz.func10, Tryz.ntmps10
  go_wp2_with fail
  go_ret
  exact ⟨rfl, rfl⟩
set_option maxRecDepth 100000 in
theorem slen_nil (w : World) : Calls Tryz.prog 11 #[.pointer none] w fun e w' => e = .returned (.int .i64 0) ∧ w' = w := by
  go_enter Tryz.func11, Tryz.ntmps11
  go_wp2_with fail
  go_ret
  exact ⟨rfl, rfl⟩
end Go.Proofs.YtgglheelhbfgiaaGreatDoor

namespace Go.Proofs.YtgglheelhbfgiaaGreatDoor
open Go Go.RowKit Go.Lib
theorem below_turned {w0 w w' : World} {S : Nat → Prop} (hb : Below w0.heap.size w0 w) (ht : Turned S w.heap.size w w') (hS : ∀ k, S k → w0.heap.size ≤ k) : Below w0.heap.size w0 w' :=
  hb.trans (ht.below hb.size fun k hk hs => by have := hS k hs; omega)
theorem name0 : nameS 0 = ⟨#[115, 101, 103, 45, 48]⟩ := by decide +kernel
theorem name1 : nameS 1 = ⟨#[115, 101, 103, 45, 49]⟩ := by decide +kernel
set_option maxRecDepth 100000 in
set_option maxHeartbeats 6400000 in
theorem awake16_any (w : World) (ht : TabD w) : Calls Tryz.prog 12 #[] w fun e w' => e = .returned (.bool true) ∧ Below w.heap.size w w' := by
  obtain ⟨p1, p2, p3, p4, p5, p6, p7, p8, p9, p10, p11, p12, p13, p14, p15⟩ := awake_plain
  have HN := Lib.hid (new_any w 100000 (by decide) (by decide))
  have HP := Lib.hid awake_plain
  have HT := Lib.hid ht
  clear ht p1 p2 p3 p4 p5 p6 p7 p8 p9 p10 p11 p12 p13 p14 p15
  obtain ⟨db, hdb⟩ : ∃ db, w.heap.size + 2 = db := ⟨_, rfl⟩
  rw [hdb] at HN
  clear hdb
  go_enter Tryz.func12, Tryz.ntmps12
  go_wp2_with fail
  refine HN.out.mono ?_
  rintro e w1 ⟨rfl, hD, hb1⟩
  have HO := Lib.hid (sopen_any hD (by show ([] : Fls).length ≤ _; decide) (by show ([] : List ActD).length ≤ _; decide) ⟨w, rfl, HT.out, hb1⟩ (fun k hk => hk.1))
  have HB1 := Lib.hid hb1
  clear hD hb1
  go_wp2_with fail
  refine HO.out.mono ?_
  rintro e w2 hO
  change OpenIs w1 db _ aO1 e w2 at hO
  obtain ⟨T1, hD1, hT1, hTu1, hcase⟩ := hO
  rcases hcase with ⟨h, _⟩ | ⟨l1, lb, v1, hl1, rfl, hL1, hlb1, hlbT1, hown1, _⟩
  · rw [HP.out.1] at h
    cases h
  rw [HP.out.1] at hl1
  cases hl1
  rw [HP.out.2.1] at hown1
  rw [HP.out.2.2.1]
  obtain ⟨a1, c1, rfl, _, _⟩ := hown1.read
  have hS1 : ∀ k, T1 k → w.heap.size ≤ k := fun k hk => by
    rcases hT1 k hk with h | h
    · exact h.1
    · exact Nat.le_trans HB1.out.size h
  have hb2 : Below w.heap.size w w2 := below_turned HB1.out hTu1 fun k hk => hk.1
  have hP4 := HP.out.2.2.2.1
  have hal3 := (Below.refl w2.heap.size w2).alloc (Nat.le_refl _) (.cells #[.string ⟨#[97]⟩, .string ⟨#[98, 99]⟩] 9)
  have hA : Calls Tryz.prog 10 #[.pointer (some ⟨lb, 0, none⟩), .slice (some ⟨w2.heap.size, 0, none⟩) 2 2] (w2.alloc (.cells #[.string ⟨#[97]⟩, .string ⟨#[98, 99]⟩] 9)) fun e w' => AppIs (w2.alloc (.cells #[.string ⟨#[97]⟩, .string ⟨#[98, 99]⟩] 9)) db lb T1 aA1 e w' :=
    sappend_any (rs := rA) (hD1.below hal3) (hL1.keeps hal3 hL1.1) hlbT1 (some ⟨w2.heap.size, 0, none⟩) 2 (rows_new strLay w2 w2.heap.size _ _ rA rfl rfl) (fun ad e _ => by cases e; exact ⟨by simp, fun h => Nat.lt_irrefl _ (hD1.slt _ h)⟩) (by decide) (by decide) (Nat.le_trans (names_len hP4.names) (by decide)) (by rw [hP4.acts]; decide)
  have HA := Lib.hid hA
  have HL1 := Lib.hid hL1
  have HB3 := Lib.hid (hb2.trans (hal3.mono hb2.size))
  have HS1 := Lib.hid hS1
  have hsz3 : (w2.alloc (.cells #[.string ⟨#[97]⟩, .string ⟨#[98, 99]⟩] 9)).heap.size = w2.heap.size + 1 := by simp
  have Hlbw := Lib.hid (show w.heap.size ≤ lb from Nat.le_trans HB1.out.size hlb1)
  clear hA hL1 hD1 hT1 hTu1 hown1 hS1 hb2 hal3 hP4 hlb1 hlbT1
  go_wp2_with fail
  refine HA.out.mono ?_
  rintro e w4 ⟨rfl, hL4, T2, hD2, hT2, hlbT2, hTu2⟩
  rw [HP.out.2.2.2.2.1]
  have hlb3 : lb < w2.heap.size := HL1.out.1
  have hS2 : ∀ k, T2 k → w.heap.size ≤ k := fun k hk => by
    rcases hT2 k hk with h | h
    · exact HS1.out k h
    · exact Nat.le_trans HB3.out.size h
  have hb4 : Below w.heap.size w w4 := below_turned HB3.out hTu2 fun k hk => by
    rcases hk with h | h
    · exact HS1.out k h
    · rw [h]
      exact Hlbw.out
  have hP6 := HP.out.2.2.2.2.2.1
  have HO2 := Lib.hid (sopen_any hD2 (Nat.le_trans (names_len hP6.names) (by decide)) (by rw [hP6.acts]; decide) ⟨w, rfl, HT.out, hb4⟩ hS2)
  have HL4 := Lib.hid hL4
  have HB4 := Lib.hid hb4
  have HS2 := Lib.hid hS2
  have HlT2 := Lib.hid hlbT2
  clear hL4 hD2 hT2 hTu2 hS2 hb4 hP6 hlbT2
  go_wp2_with fail
  refine HO2.out.mono ?_
  rintro e w5 hO
  change OpenIs w4 db _ aO2 e w5 at hO
  obtain ⟨T3, hD3, hT3, hTu3, hcase⟩ := hO
  rcases hcase with ⟨h, _⟩ | ⟨l2, lb2, v2, hl2, rfl, hL2, hlb2, hlbT3', hown2, hvT2⟩
  · exact absurd h HP.out.2.2.2.2.2.2.2.2.2.1
  clear hL2 hlbT3'
  rw [HP.out.2.2.2.2.2.2.2.1] at hown2
  rw [HP.out.2.2.2.2.2.2.2.2.1]
  obtain ⟨a2, c2, rfl, hrow2, _⟩ := hown2.read
  have hS3 : ∀ k, T3 k → w.heap.size ≤ k := fun k hk => by
    rcases hT3 k hk with h | h
    · exact HS2.out k h
    · exact Nat.le_trans HB4.out.size h
  have hL5 : LAt w5 lb db aA1.1 := HL4.out.same (hTu3.block lb HL4.out.1 HlT2.out) hTu3.size
  have hlbT3 : ¬ T3 lb := notT hT3 HlT2.out HL4.out.1
  have hb5 : Below w.heap.size w w5 := below_turned HB4.out hTu3 HS2.out
  have hP11 := HP.out.2.2.2.2.2.2.2.2.2.2.1
  have hP7 := HP.out.2.2.2.2.2.2.1
  have hal6 := (Below.refl w5.heap.size w5).alloc (Nat.le_refl _) (.cells #[.string ⟨#[51]⟩, .string ⟨#[52]⟩, .string ⟨#[53]⟩, .string ⟨#[54]⟩, .string ⟨#[55]⟩, .string ⟨#[56]⟩, .string ⟨#[57]⟩] 9)
  have hB : Calls Tryz.prog 10 #[.pointer (some ⟨lb, 0, none⟩), .slice (some ⟨w5.heap.size, 0, none⟩) 7 7] (w5.alloc (.cells #[.string ⟨#[51]⟩, .string ⟨#[52]⟩, .string ⟨#[53]⟩, .string ⟨#[54]⟩, .string ⟨#[55]⟩, .string ⟨#[56]⟩, .string ⟨#[57]⟩] 9)) fun e w' => AppIs (w5.alloc (.cells #[.string ⟨#[51]⟩, .string ⟨#[52]⟩, .string ⟨#[53]⟩, .string ⟨#[54]⟩, .string ⟨#[55]⟩, .string ⟨#[56]⟩, .string ⟨#[57]⟩] 9)) db lb T3 aA2 e w' :=
    sappend_any (rs := rB) (hD3.below hal6) (hL5.keeps hal6 hL5.1) hlbT3 (some ⟨w5.heap.size, 0, none⟩) 7 (rows_new strLay w5 w5.heap.size _ _ rB rfl rfl) (fun ad e _ => by cases e; exact ⟨by simp, fun h => Nat.lt_irrefl _ (hD3.slt _ h)⟩) (by rw [hP7.many]; decide) (by decide) (Nat.le_trans (names_len hP11.names) (by decide)) (by rw [hP11.acts]; decide)
  have HBb := Lib.hid hB
  have HB6 := Lib.hid (hb5.trans (hal6.mono hb5.size))
  have HS3 := Lib.hid hS3
  have hsz6 : (w5.alloc (.cells #[.string ⟨#[51]⟩, .string ⟨#[52]⟩, .string ⟨#[53]⟩, .string ⟨#[54]⟩, .string ⟨#[55]⟩, .string ⟨#[56]⟩, .string ⟨#[57]⟩] 9)).heap.size = w5.heap.size + 1 := by simp
  have hr6 := hrow2.keeps hal6
  have Hvb := Lib.hid (show ∀ ad, a2 = some ad → ad.block < (w5.alloc (.cells #[.string ⟨#[51]⟩, .string ⟨#[52]⟩, .string ⟨#[53]⟩, .string ⟨#[54]⟩, .string ⟨#[55]⟩, .string ⟨#[56]⟩, .string ⟨#[57]⟩] 9)).heap.size ∧ ¬ (T3 ad.block ∨ ad.block = lb) from fun ad e => by
    subst e
    have h1 := (hown2.lt (k := ad.block) rfl)
    have h2 := hvT2 ad.block rfl
    refine ⟨by rw [hsz6]; omega, fun h => ?_⟩
    rcases h with h | h
    · exact h2.1 h
    · have := HL4.out.1
      omega)
  have Hr6 := Lib.hid hr6
  have hal4 := HL4.out.1
  clear hB hL5 hD3 hT3 hTu3 hown2 hS3 hb5 hal6 hP11 hP7 hlbT3 hrow2 hr6 hvT2 hlb2
  go_wp2_with fail
  refine HBb.out.mono ?_
  rintro e w7 ⟨rfl, hL7, T4, hD4, hT4, hlbT4, hTu4⟩
  rw [HP.out.2.2.2.2.2.2.2.2.2.2.2.1]
  have hb7 : Below w.heap.size w w7 := below_turned HB6.out hTu4 fun k hk => by
    rcases hk with h | h
    · exact HS3.out k h
    · rw [h]
      exact Hlbw.out
  have hr7 : RowsAt strLay w7 a2 rA := Hr6.out.turned hTu4 Hvb.out
  have hP14 := HP.out.2.2.2.2.2.2.2.2.2.2.2.2.2.1
  have hnames : namesD aA2.2.1 = [⟨#[115, 101, 103, 45, 48]⟩, ⟨#[115, 101, 103, 45, 49]⟩] := by
    rw [← name0, ← name1]
    exact names_are hD4.ok.now.rise (by rw [name0, name1]; decide) HP.out.2.2.2.2.2.2.2.2.2.2.2.2.2.2
  have HNm := Lib.hid fun W (hW : Below w7.heap.size w7 W) => dnames_any (hD4.below hW) (Nat.le_trans (names_len hP14.names) (by decide))
  rw [hnames] at HNm
  have HLn := Lib.hid fun W (hW : Below w7.heap.size w7 W) => slen_any lb db _ W (hL7.keeps hW hL7.1)
  have hm9 : (aA2.1.many : Int) = 9 := by rw [HP.out.2.2.2.2.2.2.2.2.2.2.2.2.1]; rfl
  rw [hm9] at HLn
  have hal8 := (Below.refl w7.heap.size w7).alloc (Nat.le_refl _) (.cells #[.string ⟨#[97]⟩, .string ⟨#[98, 99]⟩] 9)
  have HT1 : Hid (Calls Tryz.prog 25 #[.slice a2 2 c2, .slice (some ⟨w7.heap.size, 0, none⟩) 2 2] (w7.alloc (.cells #[.string ⟨#[97]⟩, .string ⟨#[98, 99]⟩] 9)) fun e w' => e = .returned (.bool true) ∧ ∃ n, w' = (w7.alloc (.cells #[.string ⟨#[97]⟩, .string ⟨#[98, 99]⟩] 9)).drewN n) :=
    Lib.hid (stexts_any a2 _ c2 2 rA rA _ (by decide) (hr7.keeps hal8) (rows_new strLay w7 w7.heap.size _ _ rA rfl rfl))
  have HB7 := Lib.hid hb7
  have hal8s : (w7.alloc (.cells #[.string ⟨#[97]⟩, .string ⟨#[98, 99]⟩] 9)).heap.size = w7.heap.size + 1 := by simp
  have HAl8 := Lib.hid hal8
  clear hL7 hD4 hT4 hTu4 hb7 hP14 hnames hm9 hal8 hr7 hlbT4
  go_wp2_with fail
  refine HT1.out.mono ?_
  rintro e w8 ⟨rfl, n8, rfl⟩
  have hb8 := belowDrew HAl8.out n8
  generalize (w7.alloc (.cells #[.string ⟨#[97]⟩, .string ⟨#[98, 99]⟩] 9)).drewN n8 = w8 at *
  clear hal8s HT1
  go_wp2_with fail
  refine (HNm.out w8 hb8).mono ?_
  rintro e w9 ⟨u, rfl, hu, hb9⟩
  obtain ⟨ua, uc, rfl, hur, _⟩ := hu.read
  have hb79 := hb8.trans (hb9.mono hb8.size)
  have hal9 := (Below.refl w9.heap.size w9).alloc (Nat.le_refl _) (.cells #[.string ⟨#[115, 101, 103, 45, 48]⟩, .string ⟨#[115, 101, 103, 45, 49]⟩] 9)
  have HT2 : Hid (Calls Tryz.prog 25 #[.slice ua 2 uc, .slice (some ⟨w9.heap.size, 0, none⟩) 2 2] (w9.alloc (.cells #[.string ⟨#[115, 101, 103, 45, 48]⟩, .string ⟨#[115, 101, 103, 45, 49]⟩] 9)) fun e w' => e = .returned (.bool true) ∧ ∃ n, w' = (w9.alloc (.cells #[.string ⟨#[115, 101, 103, 45, 48]⟩, .string ⟨#[115, 101, 103, 45, 49]⟩] 9)).drewN n) :=
    Lib.hid (stexts_any ua _ uc 2 [⟨#[115, 101, 103, 45, 48]⟩, ⟨#[115, 101, 103, 45, 49]⟩] [⟨#[115, 101, 103, 45, 48]⟩, ⟨#[115, 101, 103, 45, 49]⟩] _ (by decide) (hur.keeps hal9) (rows_new strLay w9 w9.heap.size _ _ _ rfl rfl))
  have hal9s : (w9.alloc (.cells #[.string ⟨#[115, 101, 103, 45, 48]⟩, .string ⟨#[115, 101, 103, 45, 49]⟩] 9)).heap.size = w9.heap.size + 1 := by simp
  have HAl9 := Lib.hid (hb79.trans (hal9.mono hb79.size))
  clear hu hur hb8 hb9 hb79 hal9
  go_wp2_with fail
  refine HT2.out.mono ?_
  rintro e w10 ⟨rfl, n10, rfl⟩
  have hb10 := belowDrew HAl9.out n10
  generalize (w9.alloc (.cells #[.string ⟨#[115, 101, 103, 45, 48]⟩, .string ⟨#[115, 101, 103, 45, 49]⟩] 9)).drewN n10 = w10 at *
  clear hal9s HT2
  go_wp2_with fail
  refine (HLn.out w10 hb10).mono ?_
  rintro e w11 ⟨rfl, hw11⟩
  rw [hw11]
  clear hw11
  go_wp2_with fail
  go_ret
  exact ⟨rfl, HB7.out.trans (hb10.mono HB7.out.size)⟩
end Go.Proofs.YtgglheelhbfgiaaGreatDoor

