/-
  cmp.Compare at texts; cmp.Or.
-/
import Derived.Test.YtlenpifjkbcmdaaGreatDoorShelf
import Derived.Test.YtlenpifjkbcmdaaGreatDoorSlices
import Derived.Laws.Cover1
namespace Go.Proofs.YtlenpifjkbcmdaaGreatDoor
open Go Go.RowKit Go.Lib
def cmpB (x y : ByteArray) : Int := if Op.bytesLess x.toList y.toList then -1 else if x.toList == y.toList then 0 else 1
/-- The first one that is not nought. -/
def orG (a b : Int) : Int := if a = 0 then b else a
theorem or_any (g : Nat) (a b : Int) (w : World) (h0 : w.cell? ⟨g, 0, none⟩ = some (.int .i64 a)) (h1 : w.cell? ⟨g, 1, none⟩ = some (.int .i64 b)) :
    Calls Tryz.prog 23 #[.slice (some ⟨g, 0, none⟩) 2 2] w fun e w' => e = .returned (.int .i64 (orG a b)) ∧ w = w' := by
  by_cases ha : a = 0
  · have Hr := Lib.hid (show orG a b = b from if_pos ha)
    have qa : (a != 0) = false := by rw [ha]; rfl
    subst ha
    by_cases hb : b = 0
    · have qb : (b != 0) = false := by rw [hb]; rfl
      have Hb := Lib.hid hb
      clear hb
      go_enter Tryz.func23, Tryz.ntmps23
      go_wp2_with fail
      refine wp_loop_rounds 3 ?_
      rw [rounds_succ]
      go_wp2_with fail
      rw [rounds_succ]
      go_wp2_with fail
      rw [rounds_succ]
      go_wp2_with fail
      go_ret
      exact ⟨by rw [Hr.out, Hb.out]; rfl, rfl⟩
    · have qb : (b != 0) = true := bne_iff_ne.2 hb
      clear hb
      go_enter Tryz.func23, Tryz.ntmps23
      go_wp2_with fail
      refine wp_loop_rounds 2 ?_
      rw [rounds_succ]
      go_wp2_with fail
      rw [rounds_succ]
      go_wp2_with fail
      go_ret
      exact ⟨by rw [Hr.out]; rfl, rfl⟩
  · have Hr := Lib.hid (show orG a b = a from if_neg ha)
    have qa : (a != 0) = true := bne_iff_ne.2 ha
    clear ha
    go_enter Tryz.func23, Tryz.ntmps23
    go_wp2_with fail
    refine wp_loop_rounds 1 ?_
    rw [rounds_succ]
    go_wp2_with fail
    go_ret
    exact ⟨by rw [Hr.out]; rfl, rfl⟩
end Go.Proofs.YtlenpifjkbcmdaaGreatDoor
