import Derived.Test.YtfbdbjookkogjaaDoorKeys
import Derived.Test.YtfbdbjookkogjaaDoorNamesPure
import Derived.WalkKit
import Derived.WalkSpells
import Derived.Lib.Hide
namespace Go.Proofs.YtfbdbjookkogjaaDoor
open Go.RowKit Go.Lib

theorem ext_mk (s : ByteArray) : extAt s.data.toList = Lib.lastIndexByte s 46 := by unfold extAt; rw [mk_data]

set_option maxHeartbeats 400000 in
theorem ext_any (s : ByteArray) (w : World) (hs : s.size ≤ 140737488351232) :
    Calls Tryd.prog 79 #[.string s] w fun e w' => e = .returned (.string ⟨(extL s.data.toList).toArray⟩) ∧ w = w' := by
  have Hx : Hid (0 < Lib.lastIndexByte s 46 → s.extract ((Lib.lastIndexByte s 46) + 1).toNat s.size = ⟨(extL s.data.toList).toArray⟩) := fun h => by
    unfold extL
    rw [ext_mk, if_pos h, extract_from, Int.toNat_add (by omega) (by omega)]
    rfl
  have Hn : Hid (¬ 0 < Lib.lastIndexByte s 46 → ByteArray.empty = ⟨(extL s.data.toList).toArray⟩) := fun h => by
    unfold extL
    rw [ext_mk, if_neg h]
    rfl
  have hr : -1 ≤ Lib.lastIndexByte s 46 ∧ Lib.lastIndexByte s 46 < s.size := by
    rcases Lib.lastIndexByte_spec s 46 with ⟨e, _⟩ | ⟨i, hi, e, _⟩
    · rw [e]; omega
    · rw [e]; omega
  have HC := fun W => Tryd.strings_LastIndexByte s 46 (by omega) W
  generalize Lib.lastIndexByte s 46 = r at *
  obtain ⟨hr1, hr2⟩ := hr
  have HC := Lib.hid HC
  by_cases h : 0 < r
  · go_enter Tryd.func79, Tryd.ntmps79
    go_wp2_with ((go_at_call 94; refine (HC.out _).mono ?_; rintro e w' ⟨rfl, rfl⟩))
    go_ret
    exact ⟨ret_str (Hx.out h), rfl⟩
  · go_enter Tryd.func79, Tryd.ntmps79
    go_wp2_with ((go_at_call 94; refine (HC.out _).mono ?_; rintro e w' ⟨rfl, rfl⟩))
    go_ret
    exact ⟨ret_str (Hn.out h), rfl⟩

set_option maxHeartbeats 400000 in
theorem rext_any (s : ByteArray) (w : World) (hs : s.size ≤ 140737488351232) :
    Calls Tryd.prog 82 #[.string s] w fun e w' => e = .returned (.string ⟨(extL s.data.toList).toArray⟩) ∧ w = w' := by
  have hsz := size_eq s
  have Hx : Hid (∀ i : Nat, 0 < i → ∀ hi : i < s.size, (s[i].toNat : Int) = 46 → (∀ j (hj : j < s.size), i < j → (s[j].toNat : Int) ≠ 46) → s.extract (i + 1) s.size = ⟨(extL s.data.toList).toArray⟩) := fun i h0 hi h1 h2 => by
    rw [extL_hit h0 (by omega) h1 (fun j hj hij => h2 j (by omega) hij), extract_from]
  have Hn : Hid ((∀ j (hj : j < s.size), 0 < j → (s[j].toNat : Int) ≠ 46) → ByteArray.empty = ⟨(extL s.data.toList).toArray⟩) := fun h => by
    rw [extL_miss (fun j hj hij => h j (by omega) hij)]
    rfl
  clear hsz
  go_enter Tryd.func82, Tryd.ntmps82
  go_wp2
  go_loop [3] (fun i => ∃ k : Int, -1 ≤ k ∧ k < s.size ∧ i = .int .i64 k ∧ Hid (∀ j (hj : j < s.size), k < j → (s[j].toNat : Int) ≠ 46)) (fun i => ((RowKit.intOf i) + 1).toNat)
  case atStart => exact ⟨_, by omega, by omega, rfl, fun j hj h => by omega⟩
  case round =>
    obtain ⟨k, hk1, hk2, rfl, Hk⟩ := hrel
    by_cases h0 : 0 < k
    · obtain ⟨n, rfl⟩ : ∃ n : Nat, k = n := ⟨k.toNat, by omega⟩
      have hn : n < s.size := by omega
      by_cases h46 : (s[n].toNat : Int) = 46
      · have b46 : ((s[n].toNat : Int) == 46) = true := by simpa using h46
        have H46 := Lib.hid h46
        clear h46
        go_wp2
        go_ret
        exact ⟨ret_str (Hx.out n (by omega) hn H46.out (fun j hj hij => Hk.out j hj (by omega))), rfl⟩
      · have b46 : ((s[n].toNat : Int) == 46) = false := by simpa using h46
        have H46 := Lib.hid h46
        clear h46
        go_wp2
        go_round
        case rel =>
          refine ⟨(n : Int) - 1, by omega, by omega, rfl, fun j hj hlt => ?_⟩
          by_cases e : j = n
          · subst e; exact H46.out
          · exact Hk.out j hj (by omega)
        case measure => simp [RowKit.intOf]
    · go_wp2
      go_ret
      exact ⟨ret_str (Hn.out (fun j hj hij => Hk.out j hj (by omega))), rfl⟩

end Go.Proofs.YtfbdbjookkogjaaDoor
