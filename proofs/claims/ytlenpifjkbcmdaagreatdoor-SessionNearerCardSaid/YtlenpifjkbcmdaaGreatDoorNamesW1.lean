import Derived.Test.YtlenpifjkbcmdaaGreatDoorKeys
import Derived.Test.YtlenpifjkbcmdaaGreatDoorShelf
import Derived.Test.YtlenpifjkbcmdaaGreatDoorNamesPure
import Derived.WalkKit
import Derived.WalkSpells
import Derived.Lib.Hide
namespace Go.Proofs.YtlenpifjkbcmdaaGreatDoor
open Go.RowKit Go.Lib


set_option maxHeartbeats 400000 in
theorem right_any (s : ByteArray) (w : World) (hs : s.size ≤ 140737488351232) :
    Calls Tryz.prog 47 #[.string s] w fun e w' => e = .returned (.int .i64 (rightN s.data.toList)) ∧ ∃ n, w' = w.drewN n := by
  by_cases h0 : s.toList = []
  · have hb := bad_empty (toList_data s ▸ h0)
    have Hb := Lib.hid hb; clear hb
    go_enter Tryz.func47, Tryz.ntmps47
    go_wp2
    go_ret
    exact ⟨ret_int Hb.out.symm, Drawn.refl _⟩
  by_cases h1 : 24 < (s.size : Int)
  · have hb := bad_long (l := s.data.toList) (by rw [← size_eq]; omega)
    have Hb := Lib.hid hb; clear hb
    go_enter Tryz.func47, Tryz.ntmps47
    go_wp2
    go_ret
    exact ⟨ret_int Hb.out.symm, Drawn.refl _⟩
  by_cases h2 : s.toList = [46]
  · have Hb := Lib.hid (bad_dot (toList_data s ▸ h2))
    go_enter Tryz.func47, Tryz.ntmps47
    go_wp2
    go_ret
    exact ⟨ret_int Hb.out.symm, Drawn.refl _⟩
  by_cases h3 : s.toList = [46, 46]
  · have Hb := Lib.hid (bad_dots (toList_data s ▸ h3))
    go_enter Tryz.func47, Tryz.ntmps47
    go_wp2
    go_ret
    exact ⟨ret_int Hb.out.symm, Drawn.refl _⟩
  have b0 : s.toList.isEmpty = false := by simp [h0]
  have b2 : (s.toList == [46]) = false := by simp [h2]
  have b3 : (s.toList == [46, 46]) = false := by simp [h3]
  by_cases h4 : (trimB s.data.toList 32 == s.toList) = true
  · have ht := (trim_eq_iff s.data.toList).1 (by rw [toList_data] at h4; exact eq_of_beq h4)
    have Hok := Lib.hid (fun h6 => ok_all (l := s.data.toList) (toList_data s ▸ h0) (by rw [← size_eq]; omega) (toList_data s ▸ h2) (toList_data s ▸ h3) ht.1 ht.2 h6)
    have Hbad : Hid (∀ k : Nat, ∀ hk : k < s.size, okByte s[k] = false → rightN s.data.toList = 23) := fun k hk h => bad_byte (l := s.data.toList) (k := k) (by rw [← size_eq]; exact hk) h
    clear ht h0 h2 h3
    go_enter Tryz.func47, Tryz.ntmps47
    go_wp2_with ((go_at_call 69; refine (Tryz.strings_Trim_one _ _ (by decide) _ (by omega)).mono ?_; rintro e w' ⟨rfl, hw'⟩))
    have HW : Hid (∃ n, w' = w.drewN n) := by
      rcases hw' with rfl | rfl
      · exact Drawn.refl _
      · exact ⟨1, rfl⟩
    clear hw' b0 b2 b3 h4
    go_loop [28] (fun i => ∃ k : Nat, k ≤ s.size ∧ i = .int .i64 k ∧ Hid (∀ j : Nat, ∀ hj : j < s.size, j < k → okByte s[j] = true)) (fun i => s.size - (RowKit.intOf i).toNat)
    case atStart => exact ⟨0, Nat.zero_le _, rfl, fun j _ hj => absurd hj (Nat.not_lt_zero _)⟩
    case round =>
      obtain ⟨k, hk, rfl, Hk⟩ := hrel
      by_cases hlt : k < s.size
      · by_cases hok : okByte s[k] = true
        · obtain ⟨c1, c2, c3⟩ := okByte_parts hok
          have Hn := Lib.hid hok
          clear hok
          go_wp2
          go_round
          case rel =>
            refine ⟨k + 1, by omega, by go_num, fun j hj hlt' => ?_⟩
            by_cases e : j = k
            · subst e; exact Hn.out
            · exact Hk.out j hj (by omega)
          case measure => simp [RowKit.intOf]; omega
        · have Hb := Lib.hid (Hbad.out k hlt (by simpa using hok))
          have hd := okByte_not (by simpa using hok)
          clear hok
          go_wp2
          all_goals first
            | (go_ret; exact ⟨ret_int Hb.out.symm, HW.out⟩)
            | (exfalso; simp at *; omega)
      · go_wp2
        go_ret
        exact ⟨ret_int (Hok.out (fun j hj => Hk.out j (by rw [size_eq]; exact hj) (by rw [← size_eq] at hj; omega))).symm, HW.out⟩
  · have h4 : (trimB s.data.toList 32 == s.toList) = false := by simpa using h4
    have ht : ¬ (trimB s.data.toList 32 = s.data.toList) := by rw [toList_data] at h4; simpa using h4
    have Hb : Hid (rightN s.data.toList = 23) := by
      by_cases a : s.data.toList.head? = some 32
      · exact bad_head a
      · by_cases b : s.data.toList.getLast? = some 32
        · exact bad_last b
        · exact absurd ((trim_eq_iff _).2 ⟨a, b⟩) ht
    clear ht h0 h2 h3
    go_enter Tryz.func47, Tryz.ntmps47
    go_wp2_with ((go_at_call 69; refine (Tryz.strings_Trim_one _ _ (by decide) _ (by omega)).mono ?_; rintro e w' ⟨rfl, hw'⟩))
    go_ret
    refine ⟨ret_int Hb.out.symm, ?_⟩
    rcases hw' with rfl | rfl
    · exact Drawn.refl _
    · exact ⟨1, rfl⟩
end Go.Proofs.YtlenpifjkbcmdaaGreatDoor
