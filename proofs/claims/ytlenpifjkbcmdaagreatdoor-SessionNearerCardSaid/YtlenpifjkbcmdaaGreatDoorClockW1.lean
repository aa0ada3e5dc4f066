import Derived.Test.YtlenpifjkbcmdaaGreatDoorKeys
import Derived.Test.YtlenpifjkbcmdaaGreatDoorStructs
import Derived.WalkSpells
namespace Go.Proofs.YtlenpifjkbcmdaaGreatDoor
open Go Go.RowKit Go.Lib

def rightC (c w : Int) : Int := if 1 ≤ c ∧ c ≤ 1099511627776 ∧ 0 ≤ w ∧ w < 15 then 0 else 20
def lessC (c1 w1 c2 w2 : Int) : Bool := decide (c1 < c2) || (c1 == c2 && decide (w1 < w2))

theorem stamp_below (w : World) (c n : Int) : Below w.heap.size w (w.alloc (.cells #[.int .i64 c, .int .i64 n] 26)) := (Below.refl _ _).alloc (Nat.le_refl _) _
theorem stamps_below (w : World) (c n c' n' : Int) : Below w.heap.size w ((w.alloc (.cells #[.int .i64 c, .int .i64 n] 26)).alloc (.cells #[.int .i64 c', .int .i64 n'] 26)) := (stamp_below w c n).alloc (by simp) _

set_option maxRecDepth 100000 in
theorem cright_any (c n : Int) (w : World) :
    Calls Tryz.prog 46 #[.agg #[.int .i64 c, .int .i64 n]] w fun e w' => e = .returned (.int .i64 (rightC c n)) ∧ Below w.heap.size w w' := by
  have hb := stamp_below w c n
  have HR := Lib.hid (show rightC c n = if 1 ≤ c ∧ c ≤ 1099511627776 ∧ 0 ≤ n ∧ n < 15 then 0 else 20 from rfl)
  generalize rightC c n = r at *
  go_enter Tryz.func46, Tryz.ntmps46
  go_wp2_with fail
  all_goals (go_ret; exact ⟨ret_int (by rw [HR.out]; split <;> omega), hb⟩)
set_option maxRecDepth 100000 in
theorem cless_any (c n c' n' : Int) (w : World) :
    Calls Tryz.prog 17 #[.agg #[.int .i64 c, .int .i64 n], .agg #[.int .i64 c', .int .i64 n']] w fun e w' => e = .returned (.bool (lessC c n c' n')) ∧ Below w.heap.size w w' := by
  have hb := stamps_below w c n c' n'
  have HR := Lib.hid (show lessC c n c' n' = (decide (c < c') || (c == c' && decide (n < n'))) from rfl)
  generalize lessC c n c' n' = r at *
  by_cases h : c = c'
  · have e1 : (c != c') = false := by rw [h]; simp
    have hr : r = decide (n < n') := by rw [HR.out, h]; simp
    have Hr := Lib.hid hr
    clear HR hr h
    go_enter Tryz.func17, Tryz.ntmps17
    go_wp2_with fail
    go_ret
    exact ⟨ret_bool Hr.out.symm, hb⟩
  · have e1 : (c != c') = true := by rw [bne_iff_ne]; exact h
    have hr : r = decide (c < c') := by rw [HR.out]; simp [h]
    have Hr := Lib.hid hr
    clear HR hr h
    go_enter Tryz.func17, Tryz.ntmps17
    go_wp2_with fail
    go_ret
    exact ⟨ret_bool Hr.out.symm, hb⟩
end Go.Proofs.YtlenpifjkbcmdaaGreatDoor
