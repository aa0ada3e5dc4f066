import Derived.Test.YtaimbhphepopmaaDoorKeys
import Derived.Test.YtaimbhphepopmaaDoorStructs
import Derived.WalkSpells
namespace Go.Proofs.YtaimbhphepopmaaDoor
open Go Go.RowKit Go.Lib

def rightC (c w : Int) : Int := if 1 ≤ c ∧ c ≤ 1099511627776 ∧ 0 ≤ w ∧ w < 15 then 0 else 20
def lessC (c1 w1 c2 w2 : Int) : Bool := decide (c1 < c2) || (c1 == c2 && decide (w1 < w2))

theorem stamp_below (w : World) (c n : Int) : Below w.heap.size w (w.alloc (.cells #[.int .i64 c, .int .i64 n] 43)) := (Below.refl _ _).alloc (Nat.le_refl _) _
theorem stamps_below (w : World) (c n c' n' : Int) : Below w.heap.size w ((w.alloc (.cells #[.int .i64 c, .int .i64 n] 43)).alloc (.cells #[.int .i64 c', .int .i64 n'] 43)) := (stamp_below w c n).alloc (by simp) _

set_option maxRecDepth 100000 in
theorem cright_any (c n : Int) (w : World) :
    Calls Tryd.prog 68 #[.agg #[.int .i64 c, .int .i64 n]] w fun e w' => e = .returned (.int .i64 (rightC c n)) ∧ Below w.heap.size w w' := by
  have hb := stamp_below w c n
  have HR := Lib.hid (show rightC c n = if 1 ≤ c ∧ c ≤ 1099511627776 ∧ 0 ≤ n ∧ n < 15 then 0 else 20 from rfl)
  generalize rightC c n = r at *
  go_enter Tryd.func68, Tryd.ntmps68
  go_wp2_with fail
  all_goals (go_ret; exact ⟨ret_int (by rw [HR.out]; split <;> omega), hb⟩)
set_option maxRecDepth 100000 in
theorem rcright_any (c n : Int) (w : World) :
    Calls Tryd.prog 72 #[.agg #[.int .i64 c, .int .i64 n]] w fun e w' => e = .returned (.int .i64 (rightC c n)) ∧ Below w.heap.size w w' := by
  have hb := stamp_below w c n
  have HR := Lib.hid (show rightC c n = if 1 ≤ c ∧ c ≤ 1099511627776 ∧ 0 ≤ n ∧ n < 15 then 0 else 20 from rfl)
  generalize rightC c n = r at *
  go_enter Tryd.func72, Tryd.ntmps72
  go_wp2_with fail
  all_goals (go_ret; exact ⟨ret_int (by rw [HR.out]; split <;> omega), hb⟩)
end Go.Proofs.YtaimbhphepopmaaDoor
