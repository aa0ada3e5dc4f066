/-
  The law SeglogNil.
-/
import Derived.Test.YtgglheelhbfgiaaGreatDoorSegGB
namespace Go.Proofs.YtgglheelhbfgiaaGreatDoor
open Go Go.RowKit Go.Lib
set_option maxRecDepth 100000 in
theorem law_seglogNil (s : ByteArray) (w : World) (_ : s.size ≤ 140737488351232) (ht : TabD w) :
    Calls Tryz.prog 3 #[.string s] w fun e w' => e = .returned (.bool true) ∧ Below w.heap.size w w' := by
  have hal := (Below.refl w.heap.size w).alloc (Nat.le_refl _) (.cells #[.string s] 9)
  have HA := Lib.hid (awake16_any (w.alloc (.cells #[.string s] 9)) (ht.keeps hal))
  have HO := Lib.hid (sopen_nil w)
  have HAp := Lib.hid fun v => sappend_nil v (w.alloc (.cells #[.string s] 9))
  have HLn := Lib.hid (slen_nil (w.alloc (.cells #[.string s] 9)))
  have Hal := Lib.hid hal
  clear ht hal
  go_enter Tryz.func3, Tryz.ntmps3
  go_wp2_with fail
  refine HO.out.mono ?_
  rintro e w1 ⟨rfl, hw1⟩
  rw [hw1]
  clear hw1
  go_wp2_with fail
  refine (HAp.out _).mono ?_
  rintro e w2 ⟨rfl, hw2⟩
  rw [hw2]
  clear hw2
  go_wp2_with fail
  refine HLn.out.mono ?_
  rintro e w3 ⟨rfl, hw3⟩
  rw [hw3]
  clear hw3
  go_wp2_with fail
  refine HA.out.mono ?_
  rintro e w4 ⟨rfl, hb4⟩
  go_wp2_with fail
  go_ret
  exact ⟨rfl, Hal.out.trans (hb4.mono Hal.out.size)⟩
end Go.Proofs.YtgglheelhbfgiaaGreatDoor
