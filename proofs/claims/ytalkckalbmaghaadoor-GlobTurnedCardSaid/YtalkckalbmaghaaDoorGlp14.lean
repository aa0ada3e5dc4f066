/-
  The reference's Parse: what it returns.
-/
import Derived.Test.YtalkckalbmaghaaDoorGlp13
import Derived.Test.YtalkckalbmaghaaDoorGlp8
namespace Go.Proofs.YtalkckalbmaghaaDoor
open Go Go.RowKit Go.Lib

theorem tryG_short {s : ByteArray} {k : Int} (h : ¬ (ba (wordG k)).size < s.size) : tryG s k = none := by
  unfold tryG begG
  rw [decide_eq_false h]
  rfl
theorem tryG_other {s : ByteArray} {k : Int} (h : ¬ s.extract 0 (ba (wordG k)).size = ba (wordG k)) : tryG s k = none := by
  unfold tryG begG
  rw [decide_eq_false h, Bool.and_false]
  rfl
theorem tryG_wrong {s : ByteArray} {k : Int} (h : ruleG ⟨k, restG s k⟩ = false) : tryG s k = none := by
  unfold tryG
  rw [h, Bool.and_false]
  rfl
theorem tryG_right {s : ByteArray} {k : Int} (h1 : (ba (wordG k)).size < s.size) (h2 : s.extract 0 (ba (wordG k)).size = ba (wordG k)) (h : ruleG ⟨k, restG s k⟩ = true) : tryG s k = some ⟨k, restG s k⟩ := by
  unfold tryG begG
  rw [decide_eq_true h1, decide_eq_true h2, h]
  rfl
set_option maxRecDepth 100000 in
set_option maxHeartbeats 6400000 in
theorem rparse_in (s : ByteArray) (w : World) (hs : s.size ≤ 100000) (h1 : 1 ≤ s.size) (hlast : s[s.size - 1]'(by omega) = 10) : Calls Tryd.prog 13 #[.string s] w fun e w' => ∃ v, e = .returned (.tuple #[v, .int .i64 (parseG s.data.toList).2]) ∧
      OwnRows rulLay w' w.heap.size 33 v (parseG s.data.toList).1 ∧ Below w.heap.size w w' := by
  obtain ⟨i0, hi, hz0, hz1, hz2⟩ := info_parts rulInfo
  have Hi := Lib.hid hi
  have Hz0 := Lib.hid hz0
  have Hz1 := Lib.hid hz1
  have Hz2 := Lib.hid hz2
  clear hi hz0 hz1 hz2
  have he : s.toList.isEmpty = false := empty_ne (fun e => by rw [e] at h1; exact absurd h1 (by decide))
  have hb0 : ((s[s.size - 1].toNat : Int) != 10) = false := by rw [hlast]; rfl
  have hL : s.data.toList = (s.extract 0 (s.size - 1)).data.toList ++ [10] := by
    have hl : s.data.toList.getLast? = some 10 := by
      rw [List.getLast?_eq_getElem?, List.getElem?_eq_getElem (by rw [← size_eq]; omega), ← hlast]
      simp only [← size_eq]; rfl
    rw [extract_head]
    have hne : s.data.toList ≠ [] := fun e => by rw [size_eq, e] at h1; exact absurd h1 (by decide)
    have h2 := List.dropLast_concat_getLast hne
    rw [List.getLast?_eq_some_getLast hne] at hl
    rw [Option.some.inj hl, List.dropLast_eq_take, ← size_eq] at h2
    exact h2.symm
  have hP := parse_ref (t := (s.extract 0 (s.size - 1)).data.toList)
  rw [← hL] at hP
  have hxs : (s.extract 0 (s.size - 1)).size ≤ 100000 := by
    rw [size_eq, extract_head, List.length_take]
    rw [size_eq] at hs
    omega
  have hsp := splitG_L 10 (s.extract 0 (s.size - 1))
  have HSP := Lib.hid fun W => rsplit_any (s.extract 0 (s.size - 1)) 10 W hxs
  obtain ⟨ls, hls⟩ : ∃ ls, splitG (s.extract 0 (s.size - 1)) 10 = ls := ⟨_, rfl⟩
  rw [hls] at HSP hsp
  have hdat : splitL 10 (s.extract 0 (s.size - 1)).data.toList = ls.map (·.data.toList) := by
    rw [hsp, List.map_map]
    exact (List.map_id _).symm
  have hlsz : ∀ x ∈ ls, x.size ≤ 100000 := by
    intro x hx
    rw [hsp] at hx
    obtain ⟨y, hy, rfl⟩ := List.mem_map.1 hx
    have := splitL_size y hy
    rw [size_eq, ba_data]
    rw [size_eq] at hxs
    omega
  rw [hdat, List.length_map] at hP
  obtain ⟨R, hR⟩ : ∃ R, parseG s.data.toList = R := ⟨_, rfl⟩
  rw [hR] at hP
  rw [hR]
  have HP := Lib.hid hP
  have Hlsz := Lib.hid hlsz
  clear hP hR hsp hls hdat hlsz hL hxs hlast
  rw [show ((10 : UInt8).toNat : Int) = 10 from rfl] at HSP
  go_enter Tryd.func13, Tryd.ntmps13
  go_wp2_with fail
  refine (HSP.out _).mono ?_
  rintro e w1 ⟨v, rfl, hov, hb1⟩
  obtain ⟨av, cv, rfl, hrow, hcap⟩ := hov.read
  have HR := Lib.hid hrow
  clear HSP hov hrow
  by_cases hbig : 16 < ls.length
  · have Hr := Lib.hid (HP.out.trans (if_pos hbig))
    go_wp2_with fail
    go_ret2
    exact ⟨.slice none 0 0, by rw [Hr.out]; rfl, by rw [Hr.out]; exact OwnRows.nil _ _ _ _, hb1⟩
  · have HQ := Lib.hid (HP.out.trans (if_neg hbig))
    clear HP
    go_wp2_with fail
    go_loopw [5, 6] (fun o i wr => ∃ (k : Nat) (acc : List Rul), k ≤ ls.length ∧ i = .int .i64 k ∧ Hid (goG [] ((ls.take k).map (·.data.toList)) = some acc) ∧ OwnRows rulLay wr w1.heap.size 33 o acc ∧ Below w1.heap.size w1 wr ∧ Hid (acc.length = k)) (fun _ i _ => ls.length - (RowKit.intOf i).toNat)
    case atStart => exact ⟨0, [], Nat.zero_le _, rfl, Lib.hid rfl, OwnRows.nil _ _ _ _, Below.refl _ _, Lib.hid rfl⟩
    case round =>
      obtain ⟨k, acc, hk, rfl, Hacc, ho, hb, Hl⟩ := hrel
      by_cases hlt : k < ls.length
      · obtain ⟨x, hx⟩ := at_some hlt
        obtain ⟨b, off, hav, hbl, c0⟩ := str_at HR.out hx
        subst hav
        have hxs := Hlsz.out x (List.mem_of_getElem? hx)
        have Htk := Lib.hid (goG_take (f := (·.data.toList)) hx)
        rw [Hacc.out, Option.bind_some, goG_single] at Htk
        clear hx
        generalize wr = wo at *
        go_wp2_with fail
        go_loopw [5, 7, 8] (fun o f kk wr => ∃ n : Nat, n ≤ 3 ∧ kk = .int .i64 ((n : Int) + 1) ∧ f = .bool (fndG x n).isSome ∧ OwnRows rulLay wr w1.heap.size 33 o (acc ++ (fndG x n).toList) ∧ Below w1.heap.size w1 wr) (fun _ _ kk _ => 4 - (RowKit.intOf kk).toNat)
        case atStart => exact ⟨0, Nat.zero_le _, rfl, rfl, by simpa [fndG] using ho, hb⟩
        case round =>
          obtain ⟨n, hn, rfl, rfl, ho, hb⟩ := hrel
          have Hst := Lib.hid (fnd_step x n)
          by_cases hn3 : n < 3
          · have hcx := (hb.cell (p := ⟨b, off + k, none⟩) hbl).trans c0
            obtain ⟨K, hK⟩ : ∃ K : Int, (n : Int) + 1 = K := ⟨_, rfl⟩
            have HK := Lib.hid hK
            have hK1 : 1 ≤ K := by omega
            have hK3 : K ≤ 3 := by omega
            rw [hK] at Hst
            rw [hK]
            clear hK
            have HWd := Lib.hid fun W => rword_any K W (by omega)
            have hrs : (restG x K).size ≤ 100000 := by
              rw [size_eq, restG_data, List.length_drop]
              rw [size_eq] at hxs
              omega
            have Hrs : Hid (restG x K = x.extract (ba (wordG K)).size x.size) := Lib.hid rfl
            have HNo1 := Lib.hid (tryG_short (s := x) (k := K))
            have HNo2 := Lib.hid (tryG_other (s := x) (k := K))
            have HNo3 := Lib.hid (tryG_wrong (s := x) (k := K))
            have HYes := Lib.hid (tryG_right (s := x) (k := K))
            have HG := Lib.hid fun W => rgright_any K (restG x K) W hrs
            have hws := word_size K
            obtain ⟨F, hF⟩ : ∃ F, fndG x n = F := ⟨_, rfl⟩
            rw [hF] at ho Hst
            rw [hF]
            clear hF hrs
            rw [Hrs.out] at HG HYes HNo3
            generalize ba (wordG K) = q at *
            generalize tryG x K = T at *
            have hlacc : acc.length ≤ 100000 := by have := Hl.out; omega
            by_cases hA : q.size < x.size
            · by_cases hB : x.extract 0 q.size = q
              · have e2 := str_eq hB
                have HB := Lib.hid hB
                clear hB
                have hal := (Below.refl wr.heap.size wr).alloc (Nat.le_refl _) (.cells #[.int .i64 K, .string (x.extract q.size x.size)] 33)
                have d0 : (wr.alloc (.cells #[.int .i64 K, .string (x.extract q.size x.size)] 33)).cell? ⟨wr.heap.size, 0, none⟩ = some (.int .i64 K) := cells_new_at wr _ _ _ rfl 0 _ rfl
                have d1 : (wr.alloc (.cells #[.int .i64 K, .string (x.extract q.size x.size)] 33)).cell? ⟨wr.heap.size, 1, none⟩ = some (.string (x.extract q.size x.size)) := cells_new_at wr _ _ _ rfl 1 _ rfl
                have hz : wr.heap.size < (wr.alloc (.cells #[.int .i64 K, .string (x.extract q.size x.size)] 33)).heap.size := by simp
                go_wp2_with fail
                refine (HWd.out _).mono ?_
                rintro e w3 ⟨rfl, rfl⟩
                go_wp2_with fail
                refine (HG.out _).mono ?_
                rintro e w4 ⟨rfl, hb4⟩
                have hb4w := hal.trans (hb4.mono hal.size)
                have hbw4 := hb.trans (hb4w.mono hb.size)
                have e0 := (hb4.cell (p := ⟨wr.heap.size, 0, none⟩) hz).trans d0
                have e1 := (hb4.cell (p := ⟨wr.heap.size, 1, none⟩) hz).trans d1
                have ho4 := ho.below hb4w
                clear d0 d1 hz hal
                cases hq : ruleG ⟨K, x.extract q.size x.size⟩ with
                | false =>
                  have hT := HNo3.out hq
                  rw [hT, Option.or_none] at Hst
                  clear hT hq
                  go_wp2_with fail
                  go_roundw
                  case rel => exact ⟨n + 1, by omega, by have := HK.out; go_num, by rw [Hst.out], by rw [Hst.out]; exact ho4, hbw4⟩
                  case measure => simp [RowKit.intOf]; omega
                | true =>
                  have hT := Lib.hid (HYes.out hA HB.out hq)
                  clear hq
                  cases F with
                  | some r =>
                    rw [Option.some_or] at Hst
                    go_wp2_with fail
                    go_roundw
                    case rel => exact ⟨n + 1, by omega, by have := HK.out; go_num, by rw [Hst.out]; rfl, by rw [Hst.out]; exact ho4, hbw4⟩
                    case measure => simp [RowKit.intOf]; omega
                  | none =>
                    rw [Option.none_or, hT.out] at Hst
                    rw [show acc ++ (none : Option Rul).toList = acc from List.append_nil _] at ho4
                    go_wp2_with (at_builtin; refine wpList_append_rows _ rfl _ _ 23 rfl rulLay w1.heap.size 33 i0 _ 24 Tryd.underlying23 Hi.out Hz0.out Hz1.out Hz2.out rfl (by decide) _ _ rfl (ho4.alloc _) ⟨w4.heap.size, 0, none⟩ 1 ⟨K, x.extract q.size x.size⟩ rfl (cells_new_at w4 w4.heap.size #[.int .i64 K, .string (x.extract q.size x.size)] 33 rfl) (by unfold maxLen; omega) (by omega) (by have := hbw4.size; simp; omega) ?_)
                    intro va w5 ho5 hg5 _
                    have hb5 := (hbw4.alloc hbw4.size (.cells #[.int .i64 K, .string (x.extract q.size x.size)] 33)).grown hg5 (by have := hbw4.size; simp; omega) (fun j ej => (ho4.lt ej).1)
                    clear hg5 ho4 ho
                    go_wp2_with fail
                    go_roundw
                    case rel => exact ⟨n + 1, by omega, by have := HK.out; go_num, by rw [Hst.out]; rfl, by rw [Hst.out]; exact ho5, hb5⟩
                    case measure => simp [RowKit.intOf]; omega
              · have e2 := str_ne hB
                have hT := HNo2.out hB
                rw [hT, Option.or_none] at Hst
                clear hB hT
                go_wp2_with fail
                refine (HWd.out _).mono ?_
                rintro e w3 ⟨rfl, rfl⟩
                go_wp2_with fail
                go_roundw
                case rel => exact ⟨n + 1, by omega, by have := HK.out; go_num, by rw [Hst.out], by rw [Hst.out]; exact ho, hb⟩
                case measure => simp [RowKit.intOf]; omega
            · have hT := HNo1.out hA
              rw [hT, Option.or_none] at Hst
              clear hT
              go_wp2_with fail
              refine (HWd.out _).mono ?_
              rintro e w3 ⟨rfl, rfl⟩
              go_wp2_with fail
              go_roundw
              case rel => exact ⟨n + 1, by omega, by have := HK.out; go_num, by rw [Hst.out], by rw [Hst.out]; exact ho, hb⟩
              case measure => simp [RowKit.intOf]; omega
          · obtain rfl : n = 3 := by omega
            obtain ⟨F, hF⟩ : ∃ F, fndG x 3 = F := ⟨_, rfl⟩
            rw [hF] at ho Htk Hst
            rw [hF]
            clear hF Hst
            cases F with
            | none =>
              have Hr := Lib.hid (HQ.out.trans (congrArg ansG (goG_fall Htk.out)))
              have hbz := hb1.trans (hb.mono hb1.size)
              go_wp2_with fail
              go_ret2
              exact ⟨.slice none 0 0, by rw [Hr.out]; rfl, by rw [Hr.out]; exact OwnRows.nil _ _ _ _, hbz⟩
            | some r =>
              go_wp2_with fail
              go_roundw
              case rel => exact ⟨k + 1, acc ++ [r], by omega, by go_num, Lib.hid Htk.out, ho, hb, Lib.hid (by have := Hl.out; simp; omega)⟩
              case measure => simp [RowKit.intOf]; omega
      · obtain rfl : k = ls.length := by omega
        have hacc := Hacc.out
        rw [List.take_length] at hacc
        have Hr := Lib.hid (HQ.out.trans (congrArg ansG hacc))
        have hbz := hb1.trans (hb.mono hb1.size)
        clear hacc
        go_wp2_with fail
        go_ret2
        exact ⟨_, by rw [Hr.out]; rfl, by rw [Hr.out]; exact ho.lower hb1.size, hbz⟩
set_option maxRecDepth 100000 in
set_option maxHeartbeats 1600000 in
/-- **The reference's Parse.** -/
theorem rparse_any (s : ByteArray) (w : World) (hs : s.size ≤ 100000) : Calls Tryd.prog 13 #[.string s] w fun e w' => ∃ v, e = .returned (.tuple #[v, .int .i64 (parseG s.data.toList).2]) ∧
      OwnRows rulLay w' w.heap.size 33 v (parseG s.data.toList).1 ∧ Below w.heap.size w w' := by
  by_cases h0 : s = ⟨#[]⟩
  · subst h0
    go_enter Tryd.func13, Tryd.ntmps13
    go_wp2_with fail
    go_ret2
    exact ⟨.slice none 0 0, rfl, OwnRows.nil _ _ _ _, Below.refl _ _⟩
  have h1 : 1 ≤ s.size := by
    rcases Nat.eq_zero_or_pos s.size with h | h
    · exfalso
      apply h0
      rw [← ba_back s]
      rw [size_eq] at h
      rw [List.length_eq_zero_iff.1 h]
      rfl
    · exact h
  by_cases hlast : s[s.size - 1]'(by omega) = 10
  · exact rparse_in s w hs h1 hlast
  have he : s.toList.isEmpty = false := empty_ne h0
  have hb0 : ((s[s.size - 1].toNat : Int) != 10) = true := by
    rw [bne_iff_ne]
    exact fun e => hlast (by rw [← UInt8.toNat_inj]; exact Int.ofNat.inj e)
  have hl : s.data.toList.getLast? = some s[s.size - 1] := by
    rw [List.getLast?_eq_getElem?, List.getElem?_eq_getElem (by rw [← size_eq]; omega)]
    simp only [← size_eq]; rfl
  have hP := parse_no (t := s.data.toList) (fun e => by rw [size_eq, e] at h1; exact absurd h1 (by decide)) (by rw [hl]; exact fun e => hlast (Option.some.inj e))
  have HP := Lib.hid hP
  rw [HP.out]
  clear hP hl hlast h0
  go_enter Tryd.func13, Tryd.ntmps13
  go_wp2_with fail
  go_ret2
  exact ⟨.slice none 0 0, rfl, OwnRows.nil _ _ _ _, Below.refl _ _⟩
end Go.Proofs.YtalkckalbmaghaaDoor
