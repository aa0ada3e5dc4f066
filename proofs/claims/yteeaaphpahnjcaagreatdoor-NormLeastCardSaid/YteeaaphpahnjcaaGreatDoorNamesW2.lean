import Derived.Test.YteeaaphpahnjcaaGreatDoorKeys
import Derived.Test.YteeaaphpahnjcaaGreatDoorNamesPure
import Derived.WalkKit
import Derived.WalkSpells
import Derived.Lib.Hide
namespace Go.Proofs.YteeaaphpahnjcaaGreatDoor
open Go.RowKit Go.Lib

theorem ext_mk (s : ByteArray) : extAt s.data.toList = Lib.lastIndexByte s 46 := by unfold extAt; rw [mk_data]

set_option maxHeartbeats 400000 in
theorem ext_any (s : ByteArray) (w : World) (hs : s.size ≤ 140737488351232) :
    Calls Tryz.prog 22 #[.string s] w fun e w' => e = .returned (.string ⟨(extL s.data.toList).toArray⟩) ∧ w = w' := by
  have Hx : Hid (0 < Lib.lastIndexByte s 46 → s.extract ((Lib.lastIndexByte s 46) + 1).toNat s.size = ⟨(extL s.data.toList).toArray⟩) := fun h => by
    unfold extL
    rw [ext_mk, if_pos h, extract_from, Int.toNat_add (by omega) (by omega)]
    rfl
  have Hn : Hid (¬ 0 < Lib.lastIndexByte s 46 → ByteArray.empty = ⟨(extL s.data.toList).toArray⟩) := fun h => by
    unfold extL
    rw [ext_mk, if_neg h]
    rfl
  have hr : -1 ≤ Lib.lastIndexByte s 46 ∧ Lib.lastIndexByte s 46 < s.size := by
    rcases Lib.lastIndexByte_spec s 46 with ⟨e, _⟩ | ⟨i, hi, e, _⟩
    · rw [e]; omega
    · rw [e]; omega
  have HC := fun W => Tryz.strings_LastIndexByte s 46 (by omega) W
  generalize Lib.lastIndexByte s 46 = r at *
  obtain ⟨hr1, hr2⟩ := hr
  have HC := Lib.hid HC
  by_cases h : 0 < r
  · go_enter Tryz.func22, Tryz.ntmps22
    go_wp2_with ((go_at_call 23; refine (HC.out _).mono ?_; rintro e w' ⟨rfl, rfl⟩))
    go_ret
    exact ⟨ret_str (Hx.out h), rfl⟩
  · go_enter Tryz.func22, Tryz.ntmps22
    go_wp2_with ((go_at_call 23; refine (HC.out _).mono ?_; rintro e w' ⟨rfl, rfl⟩))
    go_ret
    exact ⟨ret_str (Hn.out h), rfl⟩

end Go.Proofs.YteeaaphpahnjcaaGreatDoor
