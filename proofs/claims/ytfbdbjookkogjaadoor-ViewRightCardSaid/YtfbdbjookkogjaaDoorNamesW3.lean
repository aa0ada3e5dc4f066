import Derived.Test.YtfbdbjookkogjaaDoorNamesW1
namespace Go.Proofs.YtfbdbjookkogjaaDoor
open Go.RowKit Go.Lib


set_option maxHeartbeats 400000 in
theorem rright_any (s : ByteArray) (w : World) (hs : s.size ≤ 140737488351232) :
    Calls Tryd.prog 67 #[.string s] w fun e w' => e = .returned (.int .i64 (rightN s.data.toList)) ∧ w = w' := by
  by_cases h0 : (s.size : Int) < 1
  · have Hb := Lib.hid (bad_empty (l := s.data.toList) (List.length_eq_zero_iff.1 (by rw [← size_eq]; omega)))
    go_enter Tryd.func67, Tryd.ntmps67
    go_wp2
    go_ret
    exact ⟨ret_int Hb.out.symm, rfl⟩
  by_cases h1 : 24 < (s.size : Int)
  · have hb := bad_long (l := s.data.toList) (by rw [← size_eq]; omega)
    have Hb := Lib.hid hb; clear hb
    go_enter Tryd.func67, Tryd.ntmps67
    go_wp2
    go_ret
    exact ⟨ret_int Hb.out.symm, rfl⟩
  by_cases h2 : s.toList = [46]
  · have Hb := Lib.hid (bad_dot (toList_data s ▸ h2))
    go_enter Tryd.func67, Tryd.ntmps67
    go_wp2
    go_ret
    exact ⟨ret_int Hb.out.symm, rfl⟩
  by_cases h3 : s.toList = [46, 46]
  · have Hb := Lib.hid (bad_dots (toList_data s ▸ h3))
    go_enter Tryd.func67, Tryd.ntmps67
    go_wp2
    go_ret
    exact ⟨ret_int Hb.out.symm, rfl⟩
  have b2 : (s.toList == [46]) = false := by simp [h2]
  have b3 : (s.toList == [46, 46]) = false := by simp [h3]
  have Hok : Hid (¬ s.data.toList.head? = some 32 → ¬ s.data.toList.getLast? = some 32 → (∀ j (hj : j < s.data.toList.length), okByte s.data.toList[j] = true) → rightN s.data.toList = 0) := 
    fun a b c => ok_all (l := s.data.toList) (fun e => by rw [size_eq, e] at h0; simp at h0) (by rw [← size_eq]; omega) (toList_data s ▸ h2) (toList_data s ▸ h3) a b c
  have Hbad : Hid (∀ k : Nat, ∀ hk : k < s.size, okByte s[k] = false → rightN s.data.toList = 23) := fun k hk h => bad_byte (l := s.data.toList) (k := k) (by rw [← size_eq]; exact hk) h
  clear h2 h3
  have hp : 0 < s.size := by omega
  have hh : s.data.toList.head? = some s[0] := by
    rw [List.head?_eq_getElem?, List.getElem?_eq_getElem (by rw [← size_eq]; exact hp)]; rfl
  have hl : s.data.toList.getLast? = some s[s.size - 1] := by
    rw [List.getLast?_eq_getElem?, List.getElem?_eq_getElem (by rw [← size_eq]; omega)]
    simp only [← size_eq]; rfl
  by_cases h4 : (s[0].toNat : Int) = 32
  · have b4 : ((s[0].toNat : Int) == 32) = true := by simpa using h4
    have Hb := Lib.hid (bad_head (l := s.data.toList) (by rw [hh, show s[0] = 32 from byte_of h4]))
    clear hh hl h4
    go_enter Tryd.func67, Tryd.ntmps67
    go_wp2
    go_ret
    exact ⟨ret_int Hb.out.symm, rfl⟩
  have b4 : ((s[0].toNat : Int) == 32) = false := by simpa using h4
  by_cases h5 : (s[s.size - 1].toNat : Int) = 32
  · have b5 : ((s[s.size - 1].toNat : Int) == 32) = true := by simpa using h5
    have Hb := Lib.hid (bad_last (l := s.data.toList) (by rw [hl, show s[s.size - 1] = 32 from byte_of h5]))
    clear hh hl h4 h5
    go_enter Tryd.func67, Tryd.ntmps67
    go_wp2
    go_ret
    exact ⟨ret_int Hb.out.symm, rfl⟩
  have b5 : ((s[s.size - 1].toNat : Int) == 32) = false := by simpa using h5
  have Hok := Lib.hid (Hok.out (by rw [hh]; intro e; exact h4 (by rw [Option.some.inj e]; rfl)) (by rw [hl]; intro e; exact h5 (by rw [Option.some.inj e]; rfl)))
  clear hh hl h4 h5
  go_enter Tryd.func67, Tryd.ntmps67
  go_wp2
  go_loop [3] (fun i => ∃ k : Nat, k ≤ s.size ∧ i = .int .i64 k ∧ Hid (∀ j : Nat, ∀ hj : j < s.size, j < k → okByte s[j] = true)) (fun i => s.size - (RowKit.intOf i).toNat)
  case atStart => exact ⟨0, Nat.zero_le _, rfl, fun j _ hj => absurd hj (Nat.not_lt_zero _)⟩
  case round =>
    obtain ⟨k, hk, rfl, Hk⟩ := hrel
    clear b4 b5 b2 b3
    by_cases hlt : k < s.size
    · by_cases hok : okByte s[k] = true
      · obtain ⟨c1, c2, c3⟩ := okByte_parts hok
        have Hn := Lib.hid hok
        clear hok
        go_wp2
        go_round
        case rel =>
          refine ⟨k + 1, by omega, by go_num, fun j hj hlt' => ?_⟩
          by_cases e : j = k
          · subst e; exact Hn.out
          · exact Hk.out j hj (by omega)
        case measure => simp [RowKit.intOf]; omega
      · have Hb := Lib.hid (Hbad.out k hlt (by simpa using hok))
        have hd := okByte_not (by simpa using hok)
        clear hok
        go_wp2
        all_goals first
          | (go_ret; exact ⟨ret_int Hb.out.symm, rfl⟩)
          | (exfalso; simp at *; omega)
    · go_wp2
      go_ret
      exact ⟨ret_int (Hok.out (fun j hj => Hk.out j (by rw [size_eq]; exact hj) (by rw [← size_eq] at hj; omega))).symm, rfl⟩
end Go.Proofs.YtfbdbjookkogjaaDoor
