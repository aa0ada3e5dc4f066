/-
  arbourref16: Open. seglog: nothing is done by nil; two lists held against each other.
-/
import Derived.Test.YtgglheelhbfgiaaGreatDoorMg18
import Derived.Deep.CutBlock
import Derived.Test.YtgglheelhbfgiaaGreatDoorMg17
import Derived.Test.YtgglheelhbfgiaaGreatDoorMg5
import Derived.Test.YtgglheelhbfgiaaGreatDoorMg2
namespace Go.Proofs.YtgglheelhbfgiaaGreatDoor
open Go Go.RowKit Go.Lib
set_option maxRecDepth 100000 in
set_option maxHeartbeats 12800000 in
theorem ropen_any {w : World} {rb : Nat} {S : Nat → Prop} {d : Dk} (h : ROk w rb S d) (hok : DkOK d) (hl : d.now.length ≤ 99000) (hal : d.acts.length ≤ 90000000) :
    Calls Tryz.prog 16 #[.pointer (some ⟨rb, 0, none⟩)] w fun e w' => ROpenIs w rb S (openD d) e w' := by
  have HDd := Lib.hid (rdead_any h)
  obtain ⟨O, hO⟩ : ∃ O, openD d = O := ⟨_, rfl⟩
  rw [hO]
  cases hd : d.dead with
  | true =>
    rw [hd] at HDd
    have Ho := Lib.hid (hO.symm.trans (open_dead hd))
    have HI := Lib.hid (RIn.start h hok)
    clear h hO hd
    go_enter Tryz.func16, Tryz.ntmps16
    go_wp2_with fail
    refine HDd.out.mono ?_
    rintro e w1 ⟨rfl, hw1⟩
    rw [hw1]
    clear hw1
    go_wp2_with fail
    go_ret3
    exact ROpenIs.none Ho.out HI.out
  | false =>
    rw [hd] at HDd
    obtain ⟨i0, hi, hz0, hz1, hz2⟩ := info_three strInfoS
    have Hi := Lib.hid hi
    have Hz0 := Lib.hid hz0
    have Hz1 := Lib.hid hz1
    have Hz2 := Lib.hid hz2
    have hcut := open_cut hd
    have hsync := open_sync hd
    have hfine := open_fine hd
    rw [hO] at hcut hsync hfine
    obtain ⟨Rg, hRg⟩ : ∃ Rg, scanG d.now 800 [] [] = Rg := ⟨_, rfl⟩
    rw [hRg] at hcut hsync hfine
    have HR0 := Lib.hid (show scanG d.now (800 - ([] : List ByteArray).length) [] [] = Rg from hRg)
    have Hcut := Lib.hid hcut
    have Hsync := Lib.hid hsync
    have Hfine := Lib.hid hfine
    have HD := Lib.hid h
    have HOk := Lib.hid hok
    have Hd := Lib.hid hd
    have Hl := Lib.hid hl
    have Hal := Lib.hid hal
    have haz := arrZero
    have hV1 := VarAt.new w #[.pointer (some ⟨rb, 0, none⟩), .int .i64 0, .int .i64 0, .bool false] 107
    have hb1 := (Below.refl w.heap.size w).alloc (Nat.le_refl _) (.cells #[.pointer (some ⟨rb, 0, none⟩), .int .i64 0, .int .i64 0, .bool false] 107)
    obtain ⟨W1, hW1⟩ : ∃ W1, w.alloc (.cells #[.pointer (some ⟨rb, 0, none⟩), .int .i64 0, .int .i64 0, .bool false] 107) = W1 := ⟨_, rfl⟩
    have HW1 := Lib.hid hW1
    have hs1 : W1.heap.size = w.heap.size + 1 := by rw [← hW1]; simp
    rw [hW1] at hV1 hb1
    have hE2 := arrE_new W1
    have hb2 := hb1.alloc hb1.size (.cells (Array.replicate 100 (.int .i64 0)) 108)
    have hV2 := hV1.keeps ((Below.refl W1.heap.size W1).alloc (Nat.le_refl _) (.cells (Array.replicate 100 (.int .i64 0)) 108)) hV1.1
    rw [hs1] at hE2
    obtain ⟨W2, hW2⟩ : ∃ W2, W1.alloc (.cells (Array.replicate 100 (.int .i64 0)) 108) = W2 := ⟨_, rfl⟩
    have HW2 := Lib.hid hW2
    rw [hW2] at hV2 hb2 hE2
    have Hs2w := Lib.hid (show W2.heap.size = w.heap.size + 2 by rw [← hW2]; simp; omega)
    have HV2 := Lib.hid hV2
    have HB2 := Lib.hid hb2
    have HE2 := Lib.hid hE2
    clear h hok hd hl hal hi hz0 hz1 hz2 hcut hsync hfine hRg hO hW1 hW2 hV1 hb1 hV2 hb2 hE2 hs1
    go_enter Tryz.func16, Tryz.ntmps16
    go_wp2_with fail
    refine HDd.out.mono ?_
    rintro e w1 ⟨rfl, hw1⟩
    rw [hw1]
    clear hw1
    go_upto_block 0 with fail
    rw [HW1.out, HW2.out]
    go_cut [6] from 9 to 9 (fun o wx => Hid (OwnRows strLay wx W2.heap.size 9 o Rg.1) ∧ Hid (VarAt wx w.heap.size [.pointer (some ⟨rb, 0, none⟩), .int .i64 0, .int .i64 0, .bool false]) ∧ Hid (ArrE wx (w.heap.size + 1) Rg.2) ∧ Hid (Below w.heap.size w wx) ∧ Hid (FreshE d.now Rg.1.length Rg.2) ∧ Hid (W2.heap.size ≤ wx.heap.size) ∧ Rg.1.length ≤ 800)
    case first =>
      go_wp2_with fail
      go_loopw [6, 8, 9, 10, 11, 12, 13, 14, 15, 16] (fun o b i _ _ _ _ _ _ _ wr => ∃ (k : Nat) (out : List ByteArray) (E : Ends) (c : Bool), k ≤ 100 ∧ i = .int .i64 k ∧ b = .bool c ∧ out.length ≤ 800 ∧ Hid (OwnRows strLay wr W2.heap.size 9 o out) ∧ Hid (VarAt wr w.heap.size [.pointer (some ⟨rb, 0, none⟩), .int .i64 0, .int .i64 0, .bool false]) ∧ Hid (ArrE wr (w.heap.size + 1) E) ∧ Hid (Below w.heap.size w wr) ∧ Hid (FreshE d.now out.length E) ∧ Hid (W2.heap.size ≤ wr.heap.size) ∧ Hid ((c = true ∧ out.length = 8 * k ∧ scanG d.now (800 - out.length) out E = Rg) ∨ (c = false ∧ Rg = (out, E)))) (fun _ _ i _ _ _ _ _ _ _ _ => 100 - (RowKit.intOf i).toNat)
      case atStart => exact ⟨0, [], [], true, by omega, rfl, rfl, by simp, Lib.hid (OwnRows.nil _ _ _ _), HV2, HE2, HB2, Lib.hid (freshE_nil _), Lib.hid (Nat.le_refl _), Lib.hid (.inl ⟨rfl, rfl, HR0.out⟩)⟩
      case round =>
        obtain ⟨k, out, E, c, hk, rfl, rfl, hout, HO, HV, HE, HB, HF, HS2, HC⟩ := hrel
        by_cases hgo : c = true ∧ k < 100
        · obtain ⟨rfl, hk1⟩ := hgo
          have hki : (k : Int) < 100 := by omega
          obtain ⟨ho8, hsc⟩ : out.length = 8 * k ∧ scanG d.now (800 - out.length) out E = Rg := by
            rcases HC.out with h | h
            · exact h.2
            · cases h.1
          have HNm := Lib.hid fun W => rname_any k hk1 W
          have HRd := Lib.hid fun W (hW : Below w.heap.size w W) => rread_any (HD.out.below hW) HOk.out (nameS k) (Nat.le_trans Hl.out (by decide))
          have hw0 : wrongD d (nameS k) 0 = 0 := wrong_none Hd.out (by omega) (Int.le_refl _) (Int.natCast_nonneg _)
          have hrd : readD d (nameS k) = match findK d.now (nameS k) with | none => (noB, 25) | some s => (s, 0) := if_neg (by rw [hw0]; exact fun e => e rfl)
          have Hsc := Lib.hid hsc
          have Ho8 := Lib.hid ho8
          cases hfk : findK d.now (nameS k) with
          | none =>
            rw [hfk] at hrd
            have hrd2 : readD d (nameS k) = (noB, 25) := hrd
            have hhas : hasD d.now (nameS k) = noB := by unfold hasD; rw [hfk]; rfl
            have Hend := Lib.hid (show Rg = (out, E) by
              rw [← hsc]
              exact scan_none (k := k) (i := 0) (rest := noB) hk1 (by decide) (by omega) (by rw [hhas]; show [] = List.drop _ []; rw [List.drop_nil]) (first_nil _))
            rw [hrd2] at HRd
            clear hw0 hrd hrd2 hfk hhas hsc ho8 HC
            generalize nameS k = nm at *
            go_wp2_with fail
            refine (HNm.out _).mono ?_
            rintro e w3 ⟨rfl, hb3⟩
            have Hb3 := Lib.hid (HB.out.trans (hb3.mono HB.out.size))
            have Hb33 := Lib.hid hb3
            clear hb3
            go_wp2_with fail
            refine (HRd.out _ Hb3.out).mono ?_
            rintro e w4 ⟨rfl, hb4⟩
            have hb44 := Hb33.out.trans (hb4.mono Hb33.out.size)
            have Hb4 := Lib.hid (HB.out.trans (hb44.mono HB.out.size))
            have Hb44 := Lib.hid hb44
            clear hb4 hb44
            go_wp2_with fail
            go_meet
            case rel =>
              rw [Hend.out]
              exact ⟨Lib.hid (HO.out.below Hb44.out), Lib.hid (HV.out.keeps Hb44.out HV.out.1), Lib.hid (VarAt.keeps HE.out Hb44.out HE.out.1), Hb4, HF, Lib.hid (Nat.le_trans HS2.out Hb44.out.size), hout⟩
          | some s =>
            rw [hfk] at hrd
            have hrd2 : readD d (nameS k) = (s, 0) := hrd
            have hhas : hasD d.now (nameS k) = s := by unfold hasD; rw [hfk]; rfl
            have hsz : s.size ≤ 4202304 := HOk.out.now.find hfk
            have Hhas := Lib.hid hhas
            have Hr0 := Lib.hid (show s.data.toList = s.data.toList.drop (endOf E (nameS k)).toNat by rw [HF.out.above k (by omega)]; rfl)
            rw [hrd2] at HRd
            clear hw0 hrd hrd2 hfk HC hhas hsc ho8
            obtain ⟨nm, hnm⟩ : ∃ nm, nameS k = nm := ⟨_, rfl⟩
            rw [hnm] at HNm HRd
            clear hnm
            go_wp2_with fail
            refine (HNm.out _).mono ?_
            rintro e w3 ⟨rfl, hb3⟩
            have Hb3 := Lib.hid (HB.out.trans (hb3.mono HB.out.size))
            have Hb33 := Lib.hid hb3
            clear hb3
            go_wp2_with fail
            refine (HRd.out _ Hb3.out).mono ?_
            rintro e w4 ⟨rfl, hb4⟩
            have hb44 := Hb33.out.trans (hb4.mono Hb33.out.size)
            have Hb4 := Lib.hid (HB.out.trans (hb44.mono HB.out.size))
            have HO4 := Lib.hid (HO.out.below hb44)
            have HV4 := Lib.hid (HV.out.keeps hb44 HV.out.1)
            have HE4 := Lib.hid (VarAt.keeps HE.out hb44 HE.out.1)
            have HS4 := Lib.hid (Nat.le_trans HS2.out hb44.size)
            clear hb4 hb44 Hb33 Hb3 HO HV HE HB HS2
            go_wp2_with fail
            go_loopw [6, 8, 12, 13, 14, 15, 16] (fun o b r i _ _ _ wx => ∃ (j : Nat) (out2 : List ByteArray) (E2 : Ends) (rest : ByteArray), j ≤ 8 ∧ i = .int .i64 j ∧ b = .bool true ∧ r = .string rest ∧ rest.size ≤ s.size ∧ out2.length ≤ 800 ∧ Hid (OwnRows strLay wx W2.heap.size 9 o out2) ∧ Hid (VarAt wx w.heap.size [.pointer (some ⟨rb, 0, none⟩), .int .i64 0, .int .i64 0, .bool false]) ∧ Hid (ArrE wx (w.heap.size + 1) E2) ∧ Hid (Below w.heap.size w wx) ∧ Hid (FreshE d.now out2.length E2) ∧ Hid (W2.heap.size ≤ wx.heap.size) ∧ Hid (out2.length = 8 * k + j ∧ scanG d.now (800 - out2.length) out2 E2 = Rg) ∧ Hid (rest.data.toList = s.data.toList.drop (endOf E2 (nameS k)).toNat)) (fun _ _ _ i _ _ _ _ => 8 - (RowKit.intOf i).toNat)
            case atStart => exact ⟨0, out, E, s, by omega, rfl, rfl, rfl, Nat.le_refl _, hout, HO4, HV4, HE4, Hb4, HF, HS4, Lib.hid ⟨Ho8.out, Hsc.out⟩, Hr0⟩
            case round =>
              obtain ⟨j, out2, E2, rest, hj, rfl, rfl, rfl, hrs, hout2, HO5, HV5, HE5, HB5, HF5, HS5, HC5, HR5⟩ := hrel
              by_cases hj8 : j < 8
              · have hji : (j : Int) < 8 := by omega
                obtain ⟨n, hn⟩ : ∃ n, 8 * k + j = n := ⟨_, rfl⟩
                have hni : 8 * (k : Int) + (j : Int) = (n : Int) := by omega
                have Hn := Lib.hid hn
                have HFr := Lib.hid fun W => rfirst_any rest n W (by omega)
                have hrr : rest.data.toList = (hasD d.now (nameS k)).data.toList.drop (endOf E2 (nameS k)).toNat := by rw [Hhas.out]; exact HR5.out
                cases hf : firstL rest.data.toList n with
                | none =>
                  have Hend := Lib.hid (show Rg = (out2, E2) by
                    rw [← HC5.out.2]
                    exact scan_none hk1 hj8 HC5.out.1 hrr (by rw [Hn.out]; exact hf))
                  rw [hf] at HFr
                  clear hf hrr hn
                  go_wp2_with fail
                  refine (HFr.out _).mono ?_
                  rintro e w6 ⟨rfl, hb6⟩
                  have Hb6 := Lib.hid hb6
                  clear hb6
                  go_wp2_with fail
                  go_roundw
                  case rel => exact ⟨k + 1, out2, E2, false, by omega, by go_num, rfl, hout2, Lib.hid (HO5.out.below Hb6.out), Lib.hid (HV5.out.keeps Hb6.out HV5.out.1), Lib.hid (VarAt.keeps HE5.out Hb6.out HE5.out.1), Lib.hid (HB5.out.trans (Hb6.out.mono HB5.out.size)), HF5, Lib.hid (Nat.le_trans HS5.out Hb6.out.size), Lib.hid (.inr ⟨rfl, Hend.out⟩)⟩
                  case measure => simp [RowKit.intOf]; omega
                | some x =>
                  obtain ⟨s2, m⟩ := x
                  obtain ⟨q1, q2, q3, q4, q5⟩ := scan_frame HF5.out hk1 hj8 HC5.out.1 hrr (by rw [Hn.out]; exact hf)
                  rw [hf] at HFr
                  have hres : resB rest (some (s2, m)) = mkB (rest.data.toList.drop m) := rfl
                  have hfir : firB (some (s2, m)) = mkB s2 := rfl
                  rw [hres, hfir] at HFr
                  have hmz : (mkB (rest.data.toList.drop m)).size ≤ rest.size := by
                    rw [mkB_size, List.length_drop]
                    exact Nat.sub_le _ _
                  rw [Hhas.out] at q3 q4
                  rw [← q4] at q1 q2 q3
                  have Hq1 := Lib.hid q1
                  have Hq2 := Lib.hid q2
                  have Hq3 := Lib.hid q3
                  have ho799 : out2.length < 800 := by have := HC5.out.1; omega
                  clear hf hrr hn q1 q2 q3 q4 q5 hres hfir
                  generalize mkB (rest.data.toList.drop m) = more at *
                  generalize mkB s2 = rec at *
                  go_wp2_with fail
                  refine (HFr.out _).mono ?_
                  rintro e w6 ⟨rfl, hb6⟩
                  have HO6 := Lib.hid (HO5.out.below hb6)
                  have HV6 := Lib.hid (HV5.out.keeps hb6 HV5.out.1)
                  have HE6 := Lib.hid (VarAt.keeps HE5.out hb6 HE5.out.1)
                  have HB6 := Lib.hid (HB5.out.trans (hb6.mono HB5.out.size))
                  have hs6 := Nat.le_trans HS5.out hb6.size
                  clear hb6
                  go_upto_region 20 with (at_builtin; refine wpList_append_rows _ rfl _ _ 23 rfl strLay W2.heap.size 9 i0 (.string ⟨#[]⟩) 16 Tryz.underlying23 Hi.out Hz0.out Hz1.out Hz2.out rfl (by decide) _ out2 rfl (HO6.out.alloc _) ⟨w6.heap.size, 0, none⟩ 1 rec rfl (cells_new_at w6 w6.heap.size #[.string rec] 9 rfl) (by unfold maxLen; omega) (by omega) (by simp; omega) ?_; intro va w7 hrow7 hg7 _; go_frame)
                  have hw2 := Hs2w.out
                  have hb7 := ((Below.refl W2.heap.size w6).alloc hs6 (.cells #[.string rec] 9)).grown hg7 (by simp; omega) (fun j ej => (HO6.out.lt ej).1)
                  have HV7 := Lib.hid (HV6.out.keeps hb7 (by omega))
                  have HE7 := Lib.hid (VarAt.keeps HE6.out hb7 (by omega))
                  have HB7 := Lib.hid (HB6.out.trans (hb7.mono (by omega)))
                  have hs7 := hb7.size
                  obtain ⟨e1, z1⟩ := arrE_at HE7.out hk1
                  have Hrow7 := Lib.hid hrow7
                  obtain ⟨x, hx⟩ : ∃ x : Int, (s.size : Int) - (more.size : Int) = x := ⟨_, rfl⟩
                  rw [hx] at Hq1 Hq2 Hq3
                  have Hx := Lib.hid hx
                  have HE8 := Lib.hid (ArrE.put HF5.out.ends.nodup HE7.out hk1 x)
                  have HO8 := Lib.hid (Hrow7.out.turnedOther ((Turned.refl (fun q => q = w.heap.size + 1) w7.heap.size w7).set (b := w.heap.size + 1) k (.int .i64 x) fun _ => rfl) fun q hq e => by have := (Hrow7.out.lt hq).1; omega)
                  have HV8 := Lib.hid (HV7.out.other (k := w.heap.size + 1) (i := k) (.int .i64 x) (by omega))
                  have HB8 := Lib.hid (HB7.out.setCell (p := ⟨w.heap.size + 1, k, none⟩) (by show w.heap.size ≤ w.heap.size + 1; omega) (.int .i64 x))
                  have Hol := Lib.hid (show (out2 ++ [rec]).length = 8 * k + (j + 1) by rw [List.length_append, HC5.out.1]; rfl)
                  clear hg7 hrow7 hb7 hx
                  go_wp2_with fail
                  go_roundw
                  case rel => rw [Hx.out]; exact ⟨j + 1, out2 ++ [rec], putK E2 (nameS k) x, more, by omega, by go_num, rfl, rfl, by omega, by rw [Hol.out]; omega, HO8, HV8, HE8, HB8, Hq2, Lib.hid (by simp; omega), Lib.hid ⟨Hol.out, Hq1.out.symm.trans HC5.out.2⟩, Hq3⟩
                  case measure => simp [RowKit.intOf]; omega
              · obtain rfl : j = 8 := by omega
                go_wp2_with fail
                go_roundw
                case rel => exact ⟨k + 1, out2, E2, true, by omega, by go_num, rfl, hout2, HO5, HV5, HE5, HB5, HF5, HS5, Lib.hid (.inl ⟨rfl, by have := HC5.out.1; omega, HC5.out.2⟩)⟩
                case measure => simp [RowKit.intOf]; omega
        · have Hend := Lib.hid (show Rg = (out, E) by
            rcases HC.out with h | h
            · have h100 : k = 100 := by
                rcases Nat.lt_or_ge k 100 with h1 | h1
                · exact absurd ⟨h.1, h1⟩ hgo
                · omega
              rw [← h.2.2, scan_end (by omega)]
            · exact h.2)
          cases c with
          | false =>
            clear hgo HC
            by_cases hk1 : k < 100
            · have hki : (k : Int) < 100 := by omega
              go_wp2_with fail
              go_meet
              case rel =>
                rw [Hend.out]
                exact ⟨HO, HV, HE, HB, HF, HS2, hout⟩
            · have hki : ¬ ((k : Int) < 100) := by omega
              go_wp2_with fail
              go_meet
              case rel =>
                rw [Hend.out]
                exact ⟨HO, HV, HE, HB, HF, HS2, hout⟩
          | true =>
            have hki : ¬ ((k : Int) < 100) := fun h => hgo ⟨rfl, by omega⟩
            clear hgo HC
            go_wp2_with fail
            go_meet
            case rel =>
              rw [Hend.out]
              exact ⟨HO, HV, HE, HB, HF, HS2, hout⟩
    case rest =>
      obtain ⟨HO, HV, HE, HB, HF, HS2, hout⟩ := hcut
      obtain ⟨out, E⟩ := Rg
      dsimp only at HO HE HF hout Hcut Hsync Hfine
      obtain ⟨w3, hw3⟩ : ∃ w3 : World, w3 = wc := ⟨_, rfl⟩
      rw [← hw3] at HO HV HE HB HS2 ⊢
      clear hw3
      obtain ⟨va, vc, rfl, _, _⟩ := HO.out.read
      have hm0 := HV.out.2.2 0 _ rfl
      have hm1 := HV.out.2.2 1 _ rfl
      have hm2 := HV.out.2.2 2 _ rfl
      have y1 := HV.out.2.1 1
      have y2 := HV.out.2.1 2
      have hw2 := Hs2w.out
      have hs3 := HS2.out
      have hHB0 := HB.out.size
      obtain ⟨q, hq⟩ : ∃ q, out.length / 8 = q := ⟨_, rfl⟩
      obtain ⟨r, hr⟩ : ∃ r, out.length % 8 = r := ⟨_, rfl⟩
      have hqi : (out.length : Int) / 8 = (q : Int) := by omega
      have hri : (out.length : Int) % 8 = (r : Int) := by omega
      rw [hq] at Hfine
      obtain ⟨fin, hfin⟩ : ∃ fin, endOf E (nameS q) = fin := ⟨_, rfl⟩
      rw [hfin] at Hfine
      have HL1 := Lib.hid (show LAt (w3.setCell ⟨w.heap.size, 1, none⟩ (.int .i64 out.length)) w.heap.size rb ⟨out.length, 0, false⟩ from VarAt.set HV.out 1 (.int .i64 out.length) (by simp))
      have HL2 := Lib.hid (show LAt ((w3.setCell ⟨w.heap.size, 1, none⟩ (.int .i64 out.length)).setCell ⟨w.heap.size, 2, none⟩ (.int .i64 fin)) w.heap.size rb ⟨out.length, fin, false⟩ from (VarAt.set HV.out 1 (.int .i64 out.length) (by simp)).set 2 (.int .i64 fin) (by simp))
      have HT1 := Lib.hid ((Turned.refl (fun k => k = w.heap.size) w3.heap.size w3).set (b := w.heap.size) 1 (.int .i64 out.length) (fun _ => rfl))
      have HT2 := Lib.hid (HT1.out.set (b := w.heap.size) 2 (.int .i64 fin) (fun _ => rfl))
      have Hfin := Lib.hid (show r = 0 → fin = 0 from fun h => by rw [← hfin]; exact HF.out.above q (by omega))
      have hcell : q < 100 → w3.cell? ⟨w.heap.size + 1, q, none⟩ = some (.int .i64 fin) := fun h => by rw [← hfin]; exact (arrE_at HE.out h).1
      have hq100 : r ≠ 0 → q < 100 := fun h => by omega
      have Hcell := Lib.hid fun h => hcell (hq100 h)
      clear hq hr hfin hcell hq100
      go_upto_if 88 with fail
      go_cut [] from 86 to 88 (fun wx => LAt wx w.heap.size rb ⟨out.length, fin, false⟩ ∧ Turned (fun k => k = w.heap.size) w3.heap.size w3 wx)
      case first =>
        by_cases hr0 : r = 0
        · have Hf0 := Lib.hid (Hfin.out hr0)
          have hrl : ¬ ((0 : Int) < (r : Int)) := by omega
          clear hr0
          go_wp2_with fail
          go_meet
          case rel => exact ⟨by rw [Hf0.out]; exact HL1.out, HT1.out⟩
        · have hrl : (0 : Int) < (r : Int) := by omega
          have ce := Hcell.out hr0
          clear hr0
          go_wp2_with fail
          go_meet
          case rel => exact ⟨HL2.out, HT2.out⟩
      case rest =>
        obtain ⟨hL4, hT4⟩ := hcut
        obtain ⟨w4, hw4⟩ : ∃ w4 : World, w4 = wc := ⟨_, rfl⟩
        rw [← hw4] at hL4 hT4 ⊢
        clear hw4
        have hb34 : Below w.heap.size w3 w4 := hT4.below hHB0 (fun k hk e => by omega)
        have hb4 := HB.out.trans hb34
        have hO4 := HO.out.turnedOther hT4 fun k hk e => by have := (HO.out.lt hk).1; omega
        have hE4 : ArrE w4 (w.heap.size + 1) E := VarAt.same HE.out (hT4.block _ HE.out.1 (by omega)) hT4.size
        have HNs := Lib.hid (rnames_any (HD.out.below hb4) (Nat.le_trans Hl.out (by decide)))
        have HO4 := Lib.hid hO4
        have HE4 := Lib.hid hE4
        have HL4 := Lib.hid hL4
        have HB4 := Lib.hid hb4
        have HS4 := Lib.hid (show W2.heap.size ≤ w4.heap.size from Nat.le_trans hs3 hT4.size)
        have Hslt := Lib.hid HD.out.2
        have hnl : (namesD d).length = d.now.length := List.length_map ..
        have Hl100 := Lib.hid (show (namesD d).length ≤ 99000 by rw [hnl]; exact Hl.out)
        have HNm := Lib.hid (show ∀ p ∈ namesD d, p.size ≤ 24 ∧ p.size ≠ 0 from fun p hp => by
          obtain ⟨x, hx, rfl⟩ := List.mem_map.1 hp
          exact HOk.out.now.keys x hx)
        clear hb34 hb4 hO4 hE4 hL4 hT4 hnl hm0 hm1 hm2 y1 y2 HL1 HL2 HT1 HT2 Hfin Hcell HO HV HE HB hHB0
        obtain ⟨ns, hNd⟩ : ∃ ns, namesD d = ns := ⟨_, rfl⟩
        rw [hNd] at HNs Hl100 HNm Hcut Hsync Hfine
        clear hNd
        go_wp2_with fail
        refine HNs.out.mono ?_
        rintro e w5 ⟨u, rfl, hu5, hb5⟩
        obtain ⟨ua, uc, rfl, _, _⟩ := hu5.read
        have Hown := Lib.hid (show ∀ W, Turned S w5.heap.size w5 W → OwnRows strLay W W2.heap.size 9 (.slice va out.length vc) out ∧ LAt W w.heap.size rb ⟨out.length, fin, false⟩ ∧ ArrE W (w.heap.size + 1) E ∧ OwnRows strLay W w4.heap.size 9 (.slice ua ns.length uc) ns from fun W hW => by
          have q1 := HO4.out.below hb5
          have q2 : LAt w5 w.heap.size rb ⟨out.length, fin, false⟩ := VarAt.keeps HL4.out hb5 HL4.out.1
          have q3 : ArrE w5 (w.heap.size + 1) E := VarAt.keeps HE4.out hb5 HE4.out.1
          have q4 := Hs2w.out
          have q5 := HS4.out
          exact ⟨q1.turnedOther hW fun k hk hs => (by have := (q1.lt hk).1; have := Hslt.out k hs; omega), VarAt.same q2 (hW.block _ q2.1 fun hs => by have := Hslt.out _ hs; omega) hW.size, VarAt.same q3 (hW.block _ q3.1 fun hs => by have := Hslt.out _ hs; omega) hW.size, hu5.turnedOther hW fun k hk hs => (by have := (hu5.lt hk).1; have := Hslt.out k hs; omega)⟩)
        have HB5 := Lib.hid (HB4.out.trans (hb5.mono HB4.out.size))
        have Hvb := Lib.hid (show ∀ j, (Value.slice va out.length vc).ownBlock = some j → W2.heap.size ≤ j ∧ j < w5.heap.size from fun j hj => ⟨(HO4.out.lt hj).1, ((HO4.out.below hb5).lt hj).2⟩)
        have Hin0 := Lib.hid (RIn.start (HD.out.below HB5.out) HOk.out)
        have Hs5 := Lib.hid (show W2.heap.size ≤ w5.heap.size from Nat.le_trans HS4.out hb5.size)
        clear hu5 hb5
        go_wp2_with fail
        go_loopw [18, 19, 20, 21, 22, 23] (fun i _ _ _ _ _ wr => ∃ (k : Nat) (dk : Dk), k ≤ ns.length ∧ i = .int .i64 k ∧ RIn S w5 wr rb dk ∧ Hid (cutsD E ns d = cutsD E (ns.drop k) dk) ∧ Hid (dk.dead = false ∧ dk.now.length ≤ d.now.length ∧ dk.acts.length ≤ d.acts.length + k)) (fun i _ _ _ _ _ _ => ns.length - (RowKit.intOf i).toNat)
        case atStart => exact ⟨0, d, Nat.zero_le _, rfl, Hin0.out, Lib.hid rfl, Lib.hid ⟨Hd.out, Nat.le_refl _, Nat.le_refl _⟩⟩
        case round =>
          obtain ⟨k, dk, hk, rfl, hIn, Hc, Hdk⟩ := hrel
          have hl100 := Hl100.out
          by_cases hlt : k < ns.length
          · obtain ⟨p, hp⟩ := at_some hlt
            have hps := HNm.out p (List.mem_of_getElem? hp)
            have hdrop : ns.drop k = p :: ns.drop (k + 1) := drop_at hp
            rw [hdrop] at Hc
            obtain ⟨T, hDk, hOkk, hT1, hT2⟩ := hIn
            obtain ⟨ho, hL, hE, hu⟩ := Hown.out wr hT2
            obtain ⟨ua', uc', hue, hur, _⟩ := hu.read
            cases hue
            obtain ⟨bx, off, hae, hbl, hc0⟩ := str_at hur hp
            have hlti : (k : Int) < (ns.length : Int) := by omega
            have HRd := Lib.hid fun W (hW : Below wr.heap.size wr W) => rread_any (hDk.below hW) hOkk p (by have := Hdk.out; have := Hl.out; omega)
            have HX := Lib.hid (read_hasN Hdk.out.1 hps)
            rw [HX.out] at HRd
            have hlow := HF.out.ends.low p
            have hhas := hOkk.now.has p
            have Hskip := Lib.hid (fun hq => Hc.out.trans (cuts_skip (E := E) (p := p) (r := ns.drop (k + 1)) (d := dk) hq))
            have Hstop := Lib.hid (fun hq hq2 => Hc.out.trans (cuts_stop (E := E) (p := p) (r := ns.drop (k + 1)) (d := dk) hq hq2))
            have Hgo := Lib.hid (fun hq hq2 => Hc.out.trans (cuts_go (E := E) (p := p) (r := ns.drop (k + 1)) (d := dk) hq hq2))
            obtain ⟨m, hm⟩ : ∃ m : Nat, endOf E p = (m : Int) := ⟨(endOf E p).toNat, by omega⟩
            have Hke := Lib.hid ((keptE_end HF.out p).trans hm)
            rw [hm] at Hskip Hstop Hgo
            have HCt := Lib.hid fun W (hW : Below wr.heap.size wr W) => rcut_any (hDk.below hW) hOkk p (m : Int) (by have := Hdk.out; have := Hl.out; omega) (by have := Hdk.out; have := Hal.out; have := Hl100.out; omega)
            have Hal2 := Lib.hid (cut_alive (d := dk) (p := p) (n := (m : Int)))
            have Hcok := Lib.hid (hOkk.cut p (m : Int))
            have HDk := Lib.hid hDk
            have HT1 := Lib.hid hT1
            have HT2 := Lib.hid hT2
            have HEk := Lib.hid hE
            have Hc0 := Lib.hid fun W (hW : Below wr.heap.size wr W) => (hW.cell (p := ⟨bx, off + k, none⟩) hbl).trans hc0
            subst hae
            generalize hasD dk.now p = s at *
            clear hp ho hL hE hu hur hm hlow hDk hT1 hT2 hdrop hc0 Hc
            obtain ⟨w6, hw6⟩ : ∃ w6 : World, w6 = wr := ⟨_, rfl⟩
            rw [← hw6] at HRd HCt HDk HT2 HEk Hc0 ⊢
            clear hw6 hbl
            go_wp2_with fail
            go_loopw [19, 20] (fun kp i wx => ∃ j : Nat, j ≤ 100 ∧ i = .int .i64 j ∧ kp = .int .i64 (keptE E p j) ∧ Below w6.heap.size w6 wx) (fun _ i _ => 100 - (RowKit.intOf i).toNat)
            case atStart => exact ⟨0, by omega, rfl, rfl, Below.refl _ _⟩
            case round =>
              obtain ⟨j, hj, rfl, rfl, hb⟩ := hrel
              have hc0 := Hc0.out _ hb
              by_cases hj1 : j < 100
              · have hji : (j : Int) < 100 := by omega
                have HN := Lib.hid fun W => rname_any j hj1 W
                have hkn := keptE_next (E := E) (p := p) (k := j)
                obtain ⟨e1, z1⟩ := arrE_at (VarAt.keeps HEk.out hb HEk.out.1) hj1
                have Hkn := Lib.hid hkn
                have Hb := Lib.hid hb
                have hbl := block_lt_of_cell hc0
                clear hkn hb e1
                go_upto_region 33 with fail
                go_cut [117] from 117 to 117 (fun c wx => c = .bool (decide (p = nameS j)) ∧ Below w6.heap.size w6 wx)
                case first =>
                  by_cases heq : p = nameS j
                  · have e1 := str_eq heq
                    have Hd1 := Lib.hid (decide_eq_true heq)
                    clear heq
                    go_region_law (first
                      | (rw [if_pos (by simp [Region.wanted])]; go_simp; go_at_call 60; refine (HN.out _).mono ?_; rintro e w7 ⟨rfl, hb7⟩; have k7 : w7.cell? ⟨bx, off + k, none⟩ = some (.string p) := (hb7.cell (p := ⟨bx, off + k, none⟩) hbl).trans hc0))
                    all_goals
                      go_wp2_with fail
                      go_meet
                      case rel => exact ⟨by rw [Hd1.out], Hb.out.trans ((Below.refl _ _).drew.trans (hb7.mono (by exact Hb.out.size)))⟩
                  · have e1 := str_ne heq
                    have Hd1 := Lib.hid (decide_eq_false heq)
                    clear heq
                    go_region_law (first
                      | (rw [if_pos (by simp [Region.wanted])]; go_simp; go_at_call 60; refine (HN.out _).mono ?_; rintro e w7 ⟨rfl, hb7⟩; have k7 : w7.cell? ⟨bx, off + k, none⟩ = some (.string p) := (hb7.cell (p := ⟨bx, off + k, none⟩) hbl).trans hc0))
                    all_goals
                      go_wp2_with fail
                      go_meet
                      case rel => exact ⟨by rw [Hd1.out], Hb.out.trans ((Below.refl _ _).drew.trans (hb7.mono (by exact Hb.out.size)))⟩
                case rest =>
                  obtain ⟨hcv, hb8⟩ := hcut
                  subst hcv
                  obtain ⟨e1, -⟩ := arrE_at (VarAt.keeps HEk.out hb8 HEk.out.1) hj1
                  have Hb8 := Lib.hid hb8
                  clear hb8
                  by_cases heq : p = nameS j
                  · have Hk2 := Lib.hid (Hkn.out.trans (if_pos heq))
                    rw [decide_eq_true heq]
                    clear heq
                    go_wp2_with fail
                    go_roundw
                    case rel => exact ⟨j + 1, by omega, by go_num, by rw [Hk2.out], Hb8.out⟩
                    case measure => simp [RowKit.intOf]; omega
                  · have Hk2 := Lib.hid (Hkn.out.trans (if_neg heq))
                    rw [decide_eq_false heq]
                    clear heq
                    go_wp2_with fail
                    go_roundw
                    case rel => exact ⟨j + 1, by omega, by go_num, by rw [Hk2.out], Hb8.out⟩
                    case measure => simp [RowKit.intOf]; omega
              · obtain rfl : j = 100 := by omega
                rw [Hke.out]
                have HRd2 := Lib.hid (HRd.out _ hb)
                have Hb := Lib.hid hb
                clear hb
                generalize (readD dk p).2 = re at *
                by_cases hgt : (m : Int) < (s.size : Int)
                · have hgtn : ¬ ((s.size : Int) ≤ (m : Int)) := by omega
                  have Hgt := Lib.hid hgt
                  clear hgt
                  go_wp2_with fail
                  refine HRd2.out.mono ?_
                  rintro e w7 ⟨rfl, hb7⟩
                  have Hb7 := Lib.hid (Hb.out.trans (hb7.mono Hb.out.size))
                  have hc7 := Hc0.out _ Hb7.out
                  have HCt7 := Lib.hid (HCt.out _ Hb7.out)
                  clear hb7 hc0
                  go_wp2_with fail
                  refine HCt7.out.mono ?_
                  rintro e w8 ⟨rfl, hg8⟩
                  have HIn8 := Lib.hid (RIn.step Hcok.out HT1.out (HT2.out.trans (Turned.of_below Hb7.out HT2.out.size)) hg8)
                  clear hg8 hc7
                  by_cases he : (cutD dk p (m : Int)).2 = 0
                  · have Hn := Lib.hid (Hgo.out Hgt.out he)
                    have Ha := Lib.hid (Hal2.out he)
                    rw [he]
                    clear he
                    generalize (cutD dk p (m : Int)).1 = d4 at *
                    go_wp2_with fail
                    go_roundw
                    case rel => exact ⟨k + 1, d4, by omega, by go_num, HIn8.out, Hn, Lib.hid ⟨Ha.out.1, by have := Ha.out; have := Hdk.out; omega, by have := Ha.out; have := Hdk.out; omega⟩⟩
                    case measure => simp [RowKit.intOf]; omega
                  · have Hn := Lib.hid (Hstop.out Hgt.out he)
                    have hq := neq_int he
                    have Hne := Lib.hid he
                    clear he
                    have Ho := Lib.hid (Hcut.out (by rw [Hn.out]; exact Hne.out))
                    rw [Hn.out] at Ho
                    generalize (cutD dk p (m : Int)).2 = er at *
                    go_wp2_with fail
                    go_ret3
                    exact ROpenIs.none Ho.out (RIn.from HB5.out HIn8.out)
                · have hng : (s.size : Int) ≤ (m : Int) := by omega
                  have Hn := Lib.hid (Hskip.out (by first | exact hgt | exact hng))
                  clear hgt
                  go_wp2_with fail
                  refine HRd2.out.mono ?_
                  rintro e w7 ⟨rfl, hb7⟩
                  have Hb7 := Lib.hid (Hb.out.trans (hb7.mono Hb.out.size))
                  clear hb7 hc0
                  go_wp2_with fail
                  go_roundw
                  case rel => exact ⟨k + 1, dk, by omega, by go_num, RIn.below ⟨T, HDk.out, hOkk, HT1.out, HT2.out⟩ Hb7.out, Hn, Lib.hid ⟨Hdk.out.1, Hdk.out.2.1, by have := Hdk.out; omega⟩⟩
                  case measure => simp [RowKit.intOf]; omega
          · obtain rfl : k = ns.length := by omega
            have hcd : cutsD E ns d = (dk, 0) := by
              have := Hc.out
              rw [List.drop_length] at this
              exact this
            obtain ⟨T, hDk, hOkk, hT1, hT2⟩ := hIn
            have Hc0 := Lib.hid (show (cutsD E ns d).2 = 0 by rw [hcd])
            have Hc1 := Lib.hid (show (cutsD E ns d).1 = dk by rw [hcd])
            have HSy := Lib.hid (rsync_any hDk)
            have Hsok := Lib.hid hOkk.sync
            have HT1 := Lib.hid hT1
            have HT2 := Lib.hid hT2
            rw [Hc1.out] at Hsync Hfine
            clear hcd hDk hT1 hT2
            go_wp2_with fail
            refine HSy.out.mono ?_
            rintro e w8 ⟨rfl, hg8⟩
            have hIn8 := RIn.step Hsok.out HT1.out HT2.out hg8
            have HIn8 := Lib.hid hIn8
            clear hg8 hIn8
            by_cases he : (syncD dk).2 = 0
            · have HO := Lib.hid (Hfine.out Hc0.out he)
              rw [he]
              clear he
              go_wp2_with fail
              go_ret3
              rw [HO.out]
              obtain ⟨T8, hD8, hOk8, hT81, hT82⟩ := HIn8.out
              obtain ⟨ho, hL, _, _⟩ := Hown.out _ hT82
              have hB5 := HB5.out
              have hs5 := hB5.size
              have hw2 := Hs2w.out
              have hs52 := Hs5.out
              have hnotT : ∀ j, w.heap.size ≤ j → j < w5.heap.size → ¬ T8 j := fun j h1 h2 h3 => by
                rcases hT81 j h3 with h | h
                · have := Hslt.out j h
                  omega
                · omega
              exact ⟨T8, hD8, hOk8, fun j hj => (hT81 j hj).imp id fun h => Nat.le_trans hs5 h, (Turned.of_below hB5 (Nat.le_refl _)).trans (hT82.mono hs5 fun _ _ h => h), .inr ⟨_, w.heap.size, .slice va out.length vc, rfl, rfl, hL, Nat.le_refl _, hnotT _ (Nat.le_refl _) (by omega), ho.lower (by omega), fun j hj => ⟨hnotT j (by have := (Hvb.out j hj).1; omega) (Hvb.out j hj).2, by have := (Hvb.out j hj).1; omega⟩⟩⟩
            · have hq := neq_int he
              have HO := Lib.hid (Hsync.out Hc0.out he)
              clear he
              generalize (syncD dk).2 = er at *
              go_wp2_with fail
              go_ret3
              exact ROpenIs.none HO.out (RIn.from HB5.out HIn8.out)
end Go.Proofs.YtgglheelhbfgiaaGreatDoor

namespace Go.Proofs.YtgglheelhbfgiaaGreatDoor
open Go Go.RowKit Go.Lib
theorem ssame_at {xs ys : List ByteArray} {k : Nat} {x y : ByteArray} (hx : xs[k]? = some x) (hy : ys[k]? = some y) (h : x ≠ y) : decide (xs = ys) = false :=
  decide_eq_false fun e => h (by rw [e, hy] at hx; cases hx; rfl)
theorem ssame_ok {xs ys : List ByteArray} (hl : xs.length = ys.length) (h : ∀ j, j < xs.length → xs[j]? = ys[j]?) : decide (xs = ys) = true :=
  decide_eq_true (List.ext_getElem? fun j => by
    by_cases hj : j < xs.length
    · exact h j hj
    · rw [List.getElem?_eq_none (by omega), List.getElem?_eq_none (by omega)])
theorem ssame_len {xs ys : List ByteArray} (hl : ¬ xs.length = ys.length) : decide (xs = ys) = false := decide_eq_false fun e => hl (by rw [e])
set_option maxRecDepth 100000 in
set_option maxHeartbeats 1600000 in
theorem stexts_any (a b : Option Addr) (cap cap' : Nat) (xs ys : List ByteArray) (w : World) (hl : xs.length ≤ 140737488351232) (ha : RowsAt strLay w a xs) (hb : RowsAt strLay w b ys) :
    Calls Tryz.prog 25 #[.slice a xs.length cap, .slice b ys.length cap'] w fun e w' => e = .returned (.bool (decide (xs = ys))) ∧ ∃ n, w' = w.drewN n := by
  have HA := Lib.hid ha
  have HB := Lib.hid hb
  clear ha hb
  by_cases hlen : xs.length = ys.length
  · have hq : ((xs.length : Int) != (ys.length : Int)) = false := by rw [hlen]; simp
    have Hlen := Lib.hid hlen
    clear hlen
    go_enter Tryz.func25, Tryz.ntmps25
    go_wp2
    clear hq
    go_loopw [5] (fun i wr => ∃ k : Nat, k ≤ xs.length ∧ i = .int .i64 k ∧ Hid (∀ j, j < k → xs[j]? = ys[j]?) ∧ ∃ n, wr = w.drewN n) (fun i _ => xs.length - (RowKit.intOf i).toNat)
    case atStart => exact ⟨0, Nat.zero_le _, rfl, fun j hj => absurd hj (Nat.not_lt_zero _), Drawn.refl _⟩
    case round =>
      obtain ⟨k, hk, rfl, Hk, n, rfl⟩ := hrel
      by_cases hlt : k < xs.length
      · have hlt2 : k < ys.length := by have := Hlen.out; omega
        obtain ⟨x, hx⟩ := at_some hlt
        obtain ⟨y, hy⟩ := at_some hlt2
        obtain ⟨b1, o1, rfl, hb1, c0⟩ := str_at HA.out hx
        obtain ⟨b2, o2, rfl, hb2, d0⟩ := str_at HB.out hy
        have Hx := Lib.hid hx
        have Hy := Lib.hid hy
        clear hx hy
        by_cases h1 : x = y
        · have e2 := str_eq h1
          have Hn := Lib.hid h1
          clear h1
          go_wp2
          go_quiet (fail)
          go_wp2
          go_roundw
          case rel =>
            refine ⟨k + 1, by omega, by go_num, fun j hj => ?_, n + nq, by simp⟩
            by_cases e : j = k
            · subst e; rw [Hx.out, Hy.out, Hn.out]
            · exact Hk.out j (by omega)
          case measure => simp [RowKit.intOf]; omega
        · have e2 := str_ne h1
          have Hr := Lib.hid (ssame_at Hx.out Hy.out h1)
          clear h1
          go_wp2
          go_quiet (fail)
          go_wp2
          go_ret
          exact ⟨ret_bool Hr.out.symm, n + nq, by simp⟩
      · have Hr := Lib.hid (ssame_ok Hlen.out (fun j hj => Hk.out j (by omega)))
        go_wp2
        go_ret
        exact ⟨ret_bool Hr.out.symm, _, rfl⟩
  · have Hr := Lib.hid (ssame_len hlen)
    have hq : ((xs.length : Int) != (ys.length : Int)) = true := by rw [bne_iff_ne]; omega
    clear hlen
    go_enter Tryz.func25, Tryz.ntmps25
    go_wp2
    go_ret
    exact ⟨ret_bool Hr.out.symm, Drawn.refl _⟩


set_option maxRecDepth 100000 in
theorem sopen_nil (w : World) : Calls Tryz.prog 9 #[.pointer none] w fun e w' => e = .returned (.tuple #[.pointer none, .slice none 0 0, .int .i64 2]) ∧ w' = w := by
  go_enter Tryz.func9, Tryz.ntmps9
  go_wp2_with fail
  go_ret3
  exact ⟨rfl, rfl⟩
set_option maxRecDepth 100000 in
theorem sappend_nil (v : Value) (w : World) : Calls Tryz.prog 10 #[.pointer none, v] w fun e w' => e = .returned (.int .i64 2) ∧ w' = w := by
  go_enter Tryz.func10, Tryz.ntmps10
  go_wp2_with fail
  go_ret
  exact ⟨rfl, rfl⟩
set_option maxRecDepth 100000 in
theorem slen_nil (w : World) : Calls Tryz.prog 11 #[.pointer none] w fun e w' => e = .returned (.int .i64 0) ∧ w' = w := by
  go_enter Tryz.func11, Tryz.ntmps11
  go_wp2_with fail
  go_ret
  exact ⟨rfl, rfl⟩
end Go.Proofs.YtgglheelhbfgiaaGreatDoor

