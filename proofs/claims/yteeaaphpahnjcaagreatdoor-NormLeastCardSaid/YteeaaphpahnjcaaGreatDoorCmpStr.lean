/-
  cmp.Compare at texts.
-/
import Derived.Test.YteeaaphpahnjcaaGreatDoorShelf
import Derived.Test.YteeaaphpahnjcaaGreatDoorSlices
import Derived.Laws.Cover1
namespace Go.Proofs.YteeaaphpahnjcaaGreatDoor
open Go Go.RowKit Go.Lib
def cmpB (x y : ByteArray) : Int := if Op.bytesLess x.toList y.toList then -1 else if x.toList == y.toList then 0 else 1
theorem isNaN_any (x : ByteArray) (w : World) : Calls Tryz.prog 66 #[.string x] w fun e w' => e = .returned (.bool false) ∧ w = w' := by
  have h := beq_self_eq_true x.toList
  go_enter Tryz.func66, Tryz.ntmps66
  go_wp2_with fail
  go_ret
  first | exact ⟨rfl, rfl⟩ | simp
theorem compare_any (x y : ByteArray) (w : World) : Calls Tryz.prog 47 #[.string x, .string y] w fun e w' => e = .returned (.int .i64 (cmpB x y)) ∧ w = w' := by
  have H1 := Lib.hid (isNaN_any x w)
  have H2 := Lib.hid (isNaN_any y w)
  cases h1 : Op.bytesLess x.toList y.toList with
  | true =>
    have Hr := Lib.hid (show cmpB x y = -1 by unfold cmpB; rw [h1]; rfl)
    go_enter Tryz.func47, Tryz.ntmps47
    go_wp2_with fail
    refine H1.out.mono ?_
    rintro e w1 ⟨rfl, rfl⟩
    go_wp2_with fail
    refine H2.out.mono ?_
    rintro e w1 ⟨rfl, rfl⟩
    go_wp2_with fail
    go_ret
    exact ⟨by rw [Hr.out]; rfl, rfl⟩
  | false =>
    cases h2 : x.toList == y.toList with
    | true =>
      have Hr := Lib.hid (show cmpB x y = 0 by unfold cmpB; rw [h1, h2]; rfl)
      go_enter Tryz.func47, Tryz.ntmps47
      go_wp2_with fail
      refine H1.out.mono ?_
      rintro e w1 ⟨rfl, rfl⟩
      go_wp2_with fail
      refine H2.out.mono ?_
      rintro e w1 ⟨rfl, rfl⟩
      go_wp2_with fail
      go_ret
      exact ⟨by rw [Hr.out]; rfl, rfl⟩
    | false =>
      have Hr := Lib.hid (show cmpB x y = 1 by unfold cmpB; rw [h1, h2]; rfl)
      go_enter Tryz.func47, Tryz.ntmps47
      go_wp2_with fail
      refine H1.out.mono ?_
      rintro e w1 ⟨rfl, rfl⟩
      go_wp2_with fail
      refine H2.out.mono ?_
      rintro e w1 ⟨rfl, rfl⟩
      go_wp2_with fail
      go_ret
      exact ⟨by rw [Hr.out]; rfl, rfl⟩
end Go.Proofs.YteeaaphpahnjcaaGreatDoor
