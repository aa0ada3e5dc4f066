import Derived.Test.YtopoheggngclaaaDoorNamesLaws2
namespace Go.Proofs.YtopoheggngclaaaDoor
open Go.RowKit Go.Lib

set_option maxRecDepth 100000 in
set_option maxHeartbeats 1600000 in
theorem law_apart (a : Option Addr) (c : Nat) (ss : List ByteArray) (w : World) (ha : StrsAt w a ss) (_ : ss.length ≤ c) (hl : ss.length ≤ 8796093021952) (hT : Tab w) :
    Calls Tryd.prog 7 #[.slice a ss.length c] w fun e w' => e = .returned (.bool true) ∧ Below w.heap.size w w' := by
  have HA := Lib.hid (awake_any w hT)
  have HF := Lib.hid (few_any a c ss w (by omega) ha)
  by_cases hf : fewB ss = true
  · rw [hf] at HF
    obtain ⟨hl2, hsz⟩ := few_parts hf
    have HU := Lib.hid (unique_any a c ss w (by omega) ha hsz hT)
    have HT := Lib.hid hT
    have HS := Lib.hid hsz
    have HAa := Lib.hid ha
    have hmm := @run_makeMap Tryd.prog
    clear hf hsz ha hT hl
    by_cases hall : allRight ss = true
    · obtain ⟨u1, u2⟩ := unique_right (ss := ss) (by omega) hall
      rw [u1, u2, outU_length] at HU
      have HAll := Lib.hid hall
      have HP := Lib.hid (outU_facts ss hall (by omega) ss.length (Nat.le_refl _))
      clear u1 u2 hall
      go_enter Tryd.func7, Tryd.ntmps7
      go_wp2_with fail
      refine HF.out.mono ?_
      rintro e w' ⟨rfl, rfl⟩
      go_wp2_with fail
      refine HU.out.mono ?_
      rintro e w1 ⟨v1, c1, rfl, hs1, hb1⟩
      have HS1 := Lib.hid hs1
      clear hs1
      go_wp2_with fail
      go_loopw [5] (fun i wr => ∃ k : Nat, k ≤ ss.length ∧ i = .int .i64 k ∧ Hid (∀ j, j < k → bright (ss.getD j ByteArray.empty) = true) ∧ ∃ n, wr = w1.drewN n) (fun i _ => ss.length - (RowKit.intOf i).toNat)
      case atStart => exact ⟨0, Nat.zero_le _, rfl, fun j hj => absurd hj (Nat.not_lt_zero _), Drawn.refl _⟩
      case round =>
        obtain ⟨k, hk, rfl, Hk, n, rfl⟩ := hrel
        by_cases hlt : k < ss.length
        · obtain ⟨b, off, rfl, hbl, hc⟩ := HAa.out k hlt
          have hc := (hb1.cell (p := ⟨b, off + k, none⟩) hbl).trans hc
          have hsk := HS.out k hlt
          have hbr := @allRight_bad ss k hlt
          generalize hx : ss.getD k ByteArray.empty = x at hc hsk hbr
          have Hx := Lib.hid hx
          clear hx
          have HR := Lib.hid fun W => right_any x W hsk
          by_cases hr : bright x = true
          · have H0 := Lib.hid (rightN_ok hr)
            clear hbr
            go_wp2_with fail
            refine (HR.out _).mono ?_
            rw [H0.out]
            rintro e w' ⟨rfl, n2, rfl⟩
            go_wp2_with fail
            go_roundw
            case rel =>
              refine ⟨k + 1, by omega, by go_num, fun j hj => ?_, n + n2, by simp⟩
              by_cases e : j = k
              · subst e; rw [Hx.out]; exact hr
              · exact Hk.out j (by omega)
            case measure => simp [RowKit.intOf]; omega
          · exact absurd HAll.out (by rw [hbr (by simpa using hr)]; simp)
        · obtain rfl : k = ss.length := by omega
          clear Hk hk
          go_wp2_with fail
          go_loopw [8] (fun i wr => ∃ k : Nat, k ≤ ss.length ∧ i = .int .i64 k ∧ MapOf Value.string wr w1.heap.size k (setFn (outU ss k)) ∧ MapOf Value.string wr (w1.heap.size + 1) k (setFn (ss.take k)) ∧ Below w1.heap.size w1 wr ∧ w1.heap.size + 2 ≤ wr.heap.size) (fun i _ => ss.length - (RowKit.intOf i).toNat)
          case atStart =>
            refine ⟨0, Nat.zero_le _, rfl, ?_, ?_, ?_, by simp⟩
            · exact (MapOf.made (w1.drewN n)).alloc _
            · have h := MapOf.made (inj := Value.string) ((w1.drewN n).alloc (.map #[] 0))
              simpa [setFn_nil] using h
            · exact ((below_drewN (Below.refl _ _) n).alloc (by simp) _).alloc (by simp) _
          case round =>
            obtain ⟨k, hk, rfl, hm1, hm2, hb2, hsz2⟩ := hrel
            by_cases hlt : k < ss.length
            · obtain ⟨b, off, rfl, hbl, hc⟩ := HAa.out k hlt
              obtain ⟨b', off', rfl, hbl', hc'⟩ := HS1.out k (by rw [outU_length]; exact hlt)
              have hc := (hb2.cell (p := ⟨b, off + k, none⟩) (Nat.lt_of_lt_of_le hbl hb1.size)).trans ((hb1.cell (p := ⟨b, off + k, none⟩) hbl).trans hc)
              have hc' := (hb2.cell (p := ⟨b', off' + k, none⟩) hbl').trans hc'
              rw [outU_getD ss hlt] at hc'
              have ho1 : outU ss (k + 1) = outU ss k ++ [pickU ss (outU ss k) k] := rfl
              have hnd : pickU ss (outU ss k) k ∉ outU ss k := by
                have h1 := HP.out.2
                have h2 : (outU ss (k + 1)).Nodup := by
                  rw [← outU_prefix ss (k + 1) ss.length (by omega)]
                  exact h1.sublist (List.take_sublist _ _)
                rw [ho1, List.nodup_append] at h2
                exact fun hm => h2.2.2 _ hm _ (List.mem_singleton.2 rfl) rfl
              have hbr : bright (pickU ss (outU ss k) k) = true := (HP.out.1 _ (by
                have : pickU ss (outU ss k) k ∈ (outU ss ss.length).take (k + 1) := by
                  rw [outU_prefix ss (k + 1) ss.length (by omega), ho1]; simp
                exact List.mem_of_mem_take this)).1
              have hpk : pickU ss (outU ss k) k = if hasB (ss.take k) (ss.getD k ByteArray.empty) then bcopy (ss.getD k ByteArray.empty) (nextN (ss ++ outU ss k) (ss.getD k ByteArray.empty)) else ss.getD k ByteArray.empty := rfl
              have htk := take_getD ss k hlt
              generalize pickU ss (outU ss k) k = y at *
              generalize ss.getD k ByteArray.empty = x at *
              have Ho1 := Lib.hid ho1
              have Htk := Lib.hid htk
              have hy24 : y.size ≤ 24 := by rw [size_eq]; exact (rightL_parts hbr).2.1
              have HR := Lib.hid fun W => right_any y W (by omega)
              rw [rightN_ok hbr] at HR
              have hl1 : ∀ d, Sem.run Tryd.prog (Instr.lookup 36 (.map (some w1.heap.size)) (.string y) false) (wr.drewN d) = .ok (.bool false) (wr.drewN d) := fun d => by
                have h := (hm1.drewN d).lookup mapK Tryd.underlying36 y (zeroBool _)
                rwa [setFn_get, hasB_not.2 hnd] at h
              have hl2 : ∀ d, Sem.run Tryd.prog (Instr.lookup 36 (.map (some (w1.heap.size + 1))) (.string x) false) (wr.drewN d) = .ok (.bool (hasB (ss.take k) x)) (wr.drewN d) := fun d => by
                have h := (hm2.drewN d).lookup mapK Tryd.underlying36 x (zeroBool _)
                rwa [setFn_get] at h
              clear ho1 htk hnd hbr
              by_cases hin : hasB (ss.take k) x = true
              · rw [hin] at hl2
                clear hpk hin
                go_wp2_with fail
                go_quiet ((go_at_call 10; exact Calls.quiet_of (HR.out _)))
                go_wp2_with (at_mapUpdate; refine wpList_mapUpdate_of rfl _ _ _ 36 rfl 9 4 mapK Tryd.underlying36 rfl (hm1.drewN nq) y rfl _ rfl ?_)
                intro w3 hm1' hg3
                have hm2' := (hm2.drewN nq).grown hg3 (by simp)
                have hb3 := (below_drewN hb2 nq).grown hg3 (by simp; omega) (fun j ej => by cases ej; omega)
                have hs3 : w1.heap.size + 2 ≤ w3.heap.size := by have := hg3.size; simp at this; omega
                have hc3 : w3.cell? ⟨b, off + k, none⟩ = some (.string x) := (hb3.cell (p := ⟨b, off + k, none⟩) (Nat.lt_of_lt_of_le hbl hb1.size)).trans ((hb2.cell (p := ⟨b, off + k, none⟩) (Nat.lt_of_lt_of_le hbl hb1.size)).symm.trans hc)
                clear hl1 hl2 hm1 hm2 hg3 hc hc'
                go_wp2_with (at_mapUpdate; refine wpList_mapUpdate_of rfl _ _ _ 36 rfl 9 4 mapK Tryd.underlying36 rfl hm2' x rfl _ rfl ?_)
                intro w4 hm2 hg4
                have hm1 := hm1'.grown hg4 (by simp)
                have hb4 := hb3.grown hg4 (by omega) (fun j ej => by cases ej; omega)
                have hs4 : w1.heap.size + 2 ≤ w4.heap.size := by have := hg4.size; omega
                rw [setFn_put] at hm1 hm2
                rw [← Htk.out] at hm2
                rw [← Ho1.out] at hm1
                clear hm1' hm2' hg4 hc3
                go_wp2_with fail
                go_roundw
                case rel => exact ⟨k + 1, by omega, by go_num, hm1, hm2, hb4, hs4⟩
                case measure => simp [RowKit.intOf]; omega
              · have hin : hasB (ss.take k) x = false := by simpa using hin
                rw [hin] at hl2 hpk
                have hyx := str_eq (show y = x by rw [hpk]; simp)
                clear hpk hin
                go_wp2_with fail
                go_quiet ((go_at_call 10; exact Calls.quiet_of (HR.out _)))
                go_wp2_with (at_mapUpdate; refine wpList_mapUpdate_of rfl _ _ _ 36 rfl 9 4 mapK Tryd.underlying36 rfl (hm1.drewN nq) y rfl _ rfl ?_)
                intro w3 hm1' hg3
                have hm2' := (hm2.drewN nq).grown hg3 (by simp)
                have hb3 := (below_drewN hb2 nq).grown hg3 (by simp; omega) (fun j ej => by cases ej; omega)
                have hs3 : w1.heap.size + 2 ≤ w3.heap.size := by have := hg3.size; simp at this; omega
                have hc3 : w3.cell? ⟨b, off + k, none⟩ = some (.string x) := (hb3.cell (p := ⟨b, off + k, none⟩) (Nat.lt_of_lt_of_le hbl hb1.size)).trans ((hb2.cell (p := ⟨b, off + k, none⟩) (Nat.lt_of_lt_of_le hbl hb1.size)).symm.trans hc)
                clear hl1 hl2 hm1 hm2 hg3 hc hc'
                go_wp2_with (at_mapUpdate; refine wpList_mapUpdate_of rfl _ _ _ 36 rfl 9 4 mapK Tryd.underlying36 rfl hm2' x rfl _ rfl ?_)
                intro w4 hm2 hg4
                have hm1 := hm1'.grown hg4 (by simp)
                have hb4 := hb3.grown hg4 (by omega) (fun j ej => by cases ej; omega)
                have hs4 : w1.heap.size + 2 ≤ w4.heap.size := by have := hg4.size; omega
                rw [setFn_put] at hm1 hm2
                rw [← Htk.out] at hm2
                rw [← Ho1.out] at hm1
                clear hm1' hm2' hg4 hc3
                go_wp2_with fail
                go_roundw
                case rel => exact ⟨k + 1, by omega, by go_num, hm1, hm2, hb4, hs4⟩
                case measure => simp [RowKit.intOf]; omega
            · obtain rfl : k = ss.length := by omega
              have hbe := hb1.trans (hb2.mono hb1.size)
              clear hm1 hm2
              go_wp2_with fail
              refine (awake_any _ (HT.out.keeps hbe)).mono ?_
              rintro e w3 ⟨rfl, hb3⟩
              go_wp2_with fail
              go_ret
              exact ⟨rfl, hbe.trans (hb3.mono hbe.size)⟩
    · have hall : allRight ss = false := by simpa using hall
      obtain ⟨u1, u2⟩ := unique_wrong (ss := ss) (by omega) hall
      rw [u1, u2] at HU
      have HAll := Lib.hid hall
      clear u1 u2 hall
      go_enter Tryd.func7, Tryd.ntmps7
      go_wp2_with fail
      refine HF.out.mono ?_
      rintro e w' ⟨rfl, rfl⟩
      go_wp2_with fail
      refine HU.out.mono ?_
      rintro e w1 ⟨v1, c1, rfl, hs1, hb1⟩
      have HS1 := Lib.hid hs1
      clear hs1
      go_wp2_with fail
      go_loopw [5] (fun i wr => ∃ k : Nat, k ≤ ss.length ∧ i = .int .i64 k ∧ Hid (∀ j, j < k → bright (ss.getD j ByteArray.empty) = true) ∧ ∃ n, wr = w1.drewN n) (fun i _ => ss.length - (RowKit.intOf i).toNat)
      case atStart => exact ⟨0, Nat.zero_le _, rfl, fun j hj => absurd hj (Nat.not_lt_zero _), Drawn.refl _⟩
      case round =>
        obtain ⟨k, hk, rfl, Hk, n, rfl⟩ := hrel
        by_cases hlt : k < ss.length
        · obtain ⟨b, off, rfl, hbl, hc⟩ := HAa.out k hlt
          have hc := (hb1.cell (p := ⟨b, off + k, none⟩) hbl).trans hc
          have hsk := HS.out k hlt
          have hbr := @allRight_bad ss k hlt
          generalize hx : ss.getD k ByteArray.empty = x at hc hsk hbr
          have Hx := Lib.hid hx
          clear hx
          have HR := Lib.hid fun W => right_any x W hsk
          by_cases hr : bright x = true
          · have H0 := Lib.hid (rightN_ok hr)
            clear hbr
            go_wp2_with fail
            refine (HR.out _).mono ?_
            rw [H0.out]
            rintro e w' ⟨rfl, n2, rfl⟩
            go_wp2_with fail
            go_roundw
            case rel =>
              refine ⟨k + 1, by omega, by go_num, fun j hj => ?_, n + n2, by simp⟩
              by_cases e : j = k
              · subst e; rw [Hx.out]; exact hr
              · exact Hk.out j (by omega)
            case measure => simp [RowKit.intOf]; omega
          · have H0 := Lib.hid (rightN_bad (l := x.data.toList) (by simpa [bright] using hr))
            clear hbr hr
            go_wp2_with fail
            refine (HR.out _).mono ?_
            rw [H0.out]
            rintro e w' ⟨rfl, n2, rfl⟩
            have hb2 := below_drewN hb1 (n + n2)
            go_wp2_with fail
            refine (awake_any _ (HT.out.keeps hb2)).mono ?_
            rintro e w3 ⟨rfl, hb3⟩
            go_wp2_with fail
            go_ret
            exact ⟨rfl, hb2.trans (hb3.mono hb2.size)⟩
        · obtain rfl : k = ss.length := by omega
          exact absurd HAll.out (by rw [allRight_ok (fun j hj => Hk.out j hj)]; simp)
  · have hf : fewB ss = false := by simpa using hf
    rw [hf] at HF
    clear hf ha hT
    go_enter Tryd.func7, Tryd.ntmps7
    go_wp2_with fail
    refine HF.out.mono ?_
    rintro e w' ⟨rfl, rfl⟩
    go_wp2_with fail
    refine HA.out.mono ?_
    rintro e w1 ⟨rfl, hb1⟩
    go_wp2_with fail
    go_ret
    exact ⟨rfl, hb1⟩
end Go.Proofs.YtopoheggngclaaaDoor
