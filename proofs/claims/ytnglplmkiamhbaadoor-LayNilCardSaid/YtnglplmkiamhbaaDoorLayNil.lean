/-
  A nil file system has nothing done to it.
-/
import Derived.Test.YtnglplmkiamhbaaDoorLayW8
namespace Go.Proofs.YtnglplmkiamhbaaDoor
open Go Go.RowKit Go.Lib
set_option maxRecDepth 100000 in
theorem doNil_any (v : Value) (w : World) : Calls Tryd.prog 4 #[.pointer none, v] w fun e w' => e = .returned (.int .i64 2) ∧ w' = w := by
  go_enter Tryd.func4, Tryd.ntmps4
  go_wp2_with fail
  go_ret
  exact ⟨rfl, rfl⟩
set_option maxRecDepth 100000 in
theorem law_layNil (k : Int) (w : World) (_ : -9223372036854775808 ≤ k) (_ : k ≤ 9223372036854775807) : Calls Tryd.prog 3 #[.int .i64 k] w fun e w' => e = .returned (.bool true) ∧ Below w.heap.size w w' := by
  have HA := Lib.hid awake21_any
  have HD := Lib.hid doNil_any
  have hb := (Below.refl w.heap.size w).alloc (Nat.le_refl _) (.cells #[.int .i64 k, .string ⟨#[]⟩, .string ⟨#[]⟩] 25)
  go_enter Tryd.func3, Tryd.ntmps3
  go_wp2_with fail
  refine (HD.out _ _).mono ?_
  rintro e w1 ⟨rfl, rfl⟩
  go_wp2_with fail
  refine (HA.out _).mono ?_
  rintro e w2 ⟨rfl, hb2⟩
  go_wp2_with fail
  go_ret
  exact ⟨rfl, hb.trans (hb2.mono hb.size)⟩
end Go.Proofs.YtnglplmkiamhbaaDoor
