/-
  What strings.CutPrefix says of a path and a directory.
-/
import Derived.Test.YteeaaphpahnjcaaGreatDoorKeys
import Derived.Test.YteeaaphpahnjcaaGreatDoorUnder
namespace Go.Proofs.YteeaaphpahnjcaaGreatDoor
open Go Go.RowKit Go.Lib

theorem cut_call (p d : ByteArray) : ∃ (r : ByteArray) (c : Bool), underB p d = (c && !r.toList.isEmpty) ∧ ∀ W, Calls Tryz.prog 61 #[.string p, .string (d ++ ⟨#[47]⟩)] W fun e w' => e = .returned (.tuple #[.string r, .bool c]) ∧ W = w' := by
  have e : (d ++ ⟨#[47]⟩ : ByteArray).data.toList = d.data.toList ++ [47] := by rw [ByteArray.data_append, Array.toList_append]
  generalize hq : (d ++ ⟨#[47]⟩ : ByteArray) = q at *
  refine ⟨⟨(Lib.trimPrefix p.data.toList q.data.toList).toArray⟩, Lib.hasPrefix p.data.toList q.data.toList, ?_, fun W => ?_⟩
  · rw [under_cut, e, toList_data]
  · have h := Tryz.strings_CutPrefix p q W
    exact h.mono fun e w' h => ⟨h.1, h.2.symm⟩
end Go.Proofs.YteeaaphpahnjcaaGreatDoor
