/-
  The reference's Parse: what it returns.
-/
import Derived.Test.YteeaaphpahnjcaaGreatDoorGlp13
import Derived.Test.YteeaaphpahnjcaaGreatDoorGlp8
namespace Go.Proofs.YteeaaphpahnjcaaGreatDoor
open Go Go.RowKit Go.Lib

theorem tryG_short {s : ByteArray} {k : Int} (h : ¬ (ba (wordG k)).size < s.size) : tryG s k = none := by
  unfold tryG begG
  rw [decide_eq_false h]
  rfl
theorem tryG_other {s : ByteArray} {k : Int} (h : ¬ s.extract 0 (ba (wordG k)).size = ba (wordG k)) : tryG s k = none := by
  unfold tryG begG
  rw [decide_eq_false h, Bool.and_false]
  rfl
theorem tryG_wrong {s : ByteArray} {k : Int} (h : ruleG ⟨k, restG s k⟩ = false) : tryG s k = none := by
  unfold tryG
  rw [h, Bool.and_false]
  rfl
theorem tryG_right {s : ByteArray} {k : Int} (h1 : (ba (wordG k)).size < s.size) (h2 : s.extract 0 (ba (wordG k)).size = ba (wordG k)) (h : ruleG ⟨k, restG s k⟩ = true) : tryG s k = some ⟨k, restG s k⟩ := by
  unfold tryG begG
  rw [decide_eq_true h1, decide_eq_true h2, h]
  rfl
end Go.Proofs.YteeaaphpahnjcaaGreatDoor
