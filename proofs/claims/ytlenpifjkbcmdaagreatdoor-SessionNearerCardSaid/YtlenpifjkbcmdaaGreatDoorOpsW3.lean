import Derived.Test.YtlenpifjkbcmdaaGreatDoorOpsW2
namespace Go.Proofs.YtlenpifjkbcmdaaGreatDoor
open Go Go.RowKit Go.Lib

theorem isEmpty_eq (s : ByteArray) : s.toList.isEmpty = decide (s = ⟨#[]⟩) := by
  by_cases h : s = ⟨#[]⟩
  · rw [h, toList_data]; rfl
  · rw [empty_ne h]; simp [h]


end Go.Proofs.YtlenpifjkbcmdaaGreatDoor