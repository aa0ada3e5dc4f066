/-
  arbourlaw23.few, plain, same, awake.
-/
import Derived.Test.YtlenpifjkbcmdaaGreatDoorSessGD
import Derived.Test.YtlenpifjkbcmdaaGreatDoorSessGA
import Derived.Test.YtlenpifjkbcmdaaGreatDoorSessGC
import Derived.Test.YtlenpifjkbcmdaaGreatDoorOpsGD
namespace Go.Proofs.YtlenpifjkbcmdaaGreatDoor
open Go Go.RowKit Go.Lib

def bigN (n : Nat) (s : ByteArray) : Bool := decide (n < s.size)
def bigOp (x : Opr) : Bool := decide (200 < x.name.size) || decide (1000 < x.man.size)
def fewM (m : Msg) : Bool := decide (m.vec.length ≤ 50) && decide (m.wants.length ≤ 50) && decide (m.ops.length ≤ 50) && decide (m.pcs.length ≤ 50) && !m.wants.any (bigN 100) && !m.ops.any bigOp && !m.pcs.any (bigN 500)
theorem fewM_iff {m : Msg} : fewM m = true ↔ m.vec.length ≤ 50 ∧ m.wants.length ≤ 50 ∧ m.ops.length ≤ 50 ∧ m.pcs.length ≤ 50 ∧ (∀ x ∈ m.wants, bigN 100 x = false) ∧ (∀ x ∈ m.ops, bigOp x = false) ∧ (∀ x ∈ m.pcs, bigN 500 x = false) := by
  unfold fewM
  simp only [Bool.and_eq_true, decide_eq_true_eq, Bool.not_eq_true', List.any_eq_false, Bool.not_eq_true]
  constructor
  · rintro ⟨⟨⟨⟨⟨⟨a, b⟩, c⟩, d⟩, e⟩, f⟩, g⟩; exact ⟨a, b, c, d, e, f, g⟩
  · rintro ⟨a, b, c, d, e, f, g⟩; exact ⟨⟨⟨⟨⟨⟨a, b⟩, c⟩, d⟩, e⟩, f⟩, g⟩
theorem few_no {m : Msg} (h : ¬ fewM m = true) : fewM m = false := by simpa using h
theorem few_l1 {m : Msg} (h : 50 < m.vec.length) : fewM m = false := few_no fun e => by have := (fewM_iff.1 e).1; omega
theorem few_l2 {m : Msg} (h : 50 < m.wants.length) : fewM m = false := few_no fun e => by have := (fewM_iff.1 e).2.1; omega
theorem few_l3 {m : Msg} (h : 50 < m.ops.length) : fewM m = false := few_no fun e => by have := (fewM_iff.1 e).2.2.1; omega
theorem few_l4 {m : Msg} (h : 50 < m.pcs.length) : fewM m = false := few_no fun e => by have := (fewM_iff.1 e).2.2.2.1; omega
theorem few_w {m : Msg} {x : ByteArray} (hx : x ∈ m.wants) (h : bigN 100 x = true) : fewM m = false := few_no fun e => by rw [(fewM_iff.1 e).2.2.2.2.1 x hx] at h; cases h
theorem few_o {m : Msg} {x : Opr} (hx : x ∈ m.ops) (h : bigOp x = true) : fewM m = false := few_no fun e => by rw [(fewM_iff.1 e).2.2.2.2.2.1 x hx] at h; cases h
theorem few_p {m : Msg} {x : ByteArray} (hx : x ∈ m.pcs) (h : bigN 500 x = true) : fewM m = false := few_no fun e => by rw [(fewM_iff.1 e).2.2.2.2.2.2 x hx] at h; cases h
theorem all_gone {α : Type} {l : List α} {p : α → Bool} (h : ∀ j y, j < l.length → l[j]? = some y → p y = false) : ∀ x ∈ l, p x = false := fun x hx => by
  obtain ⟨j, hj, e⟩ := List.mem_iff_getElem.1 hx
  exact h j x hj (by rw [List.getElem?_eq_getElem hj, e])
theorem few_yes {m : Msg} (g1 : ¬ 50 < m.vec.length) (g2 : ¬ 50 < m.wants.length) (g3 : ¬ 50 < m.ops.length) (g4 : ¬ 50 < m.pcs.length)
    (h2 : ∀ j y, j < m.wants.length → m.wants[j]? = some y → bigN 100 y = false) (h3 : ∀ j y, j < m.ops.length → m.ops[j]? = some y → bigOp y = false) (h4 : ∀ j y, j < m.pcs.length → m.pcs[j]? = some y → bigN 500 y = false) : fewM m = true :=
  fewM_iff.2 ⟨by omega, by omega, by omega, by omega, all_gone h2, all_gone h3, all_gone h4⟩
theorem awE : encMB ⟨1, [], [], [], []⟩ = ⟨#[1, 1, 0, 0]⟩ := by kernel_rfl
theorem awR : errM ⟨1, [], [], [], []⟩ = 0 := by kernel_rfl
theorem awD1 : decM [] = (noMsg, 10) := by kernel_rfl
theorem awD2 : decM [1, 9] = (noMsg, 11) := by kernel_rfl
theorem dec_of {l : List UInt8} {w : World} {er : Int} (h : decM l = (noMsg, er)) (e : Ending) (w' : World) (hp : DecPost l w e w') : e = .returned (.tuple #[.agg #[.int .i64 0, .slice none 0 0, .slice none 0 0, .slice none 0 0, .slice none 0 0], .int .i64 er]) ∧ Below w.heap.size w w' ∨ True ∧ ∃ av aw ao ap cv cw co cp, e = .returned (.tuple #[.agg #[.int .i64 0, .slice av 0 cv, .slice aw 0 cw, .slice ao 0 co, .slice ap 0 cp], .int .i64 er]) ∧ Below w.heap.size w w' := by
  obtain ⟨av, aw, ao, ap, cv, cw, co, cp, he, _, _, _, _, hb⟩ := hp
  rw [h] at he
  exact .inr ⟨trivial, av, aw, ao, ap, cv, cw, co, cp, he, hb⟩
set_option maxRecDepth 100000 in
set_option maxHeartbeats 3200000 in
theorem awake23_any (w : World) : Calls Tryz.prog 4 #[] w fun e w' => e = .returned (.bool true) ∧ Below w.heap.size w w' := by
  have HE := Lib.hid fun W => mencode_any ⟨1, [], [], [], []⟩ none none none none 0 0 0 0 W (by simp) (by simp) (by simp) (by simp) (fun x hx => by cases hx) (RowsAt.nil _ _ _) (RowsAt.nil _ _ _) (RowsAt.nil _ _ _) (RowsAt.nil _ _ _)
  rw [awE, awR] at HE
  have HD1 := Lib.hid fun W => (mdecode_any ⟨#[]⟩ W (by decide)).mono (fun e w' h => dec_of awD1 e w' h)
  have HD2 := Lib.hid fun W => (mdecode_any ⟨#[1, 9]⟩ W (by decide)).mono (fun e w' h => dec_of awD2 e w' h)
  dsimp only [List.length] at HE
  go_enter Tryz.func4, Tryz.ntmps4
  go_wp2_with fail
  refine (HE.out _).mono ?_
  rintro e w1 ⟨rfl, hb1⟩
  go_wp2_with fail
  refine (HD1.out _).mono ?_
  rintro e w2 (⟨rfl, hb2⟩ | ⟨-, av, aw, ao, ap, cv, cw, co, cp, rfl, hb2⟩)
  · have hB2 := (hb1.trans (hb2.mono hb1.size)).alloc (hb1.trans (hb2.mono hb1.size)).size (.cells #[.int .i64 0, .slice none 0 0, .slice none 0 0, .slice none 0 0, .slice none 0 0] 38)
    go_wp2_with fail
    refine (HD2.out _).mono ?_
    rintro e w3 (⟨rfl, hb3⟩ | ⟨-, bv, bw, bo, bp, dv, dw, dO, dp, rfl, hb3⟩)
    · have hB3 := (hB2.trans (hb3.mono hB2.size)).alloc (hB2.trans (hb3.mono hB2.size)).size (.cells #[.int .i64 0, .slice none 0 0, .slice none 0 0, .slice none 0 0, .slice none 0 0] 38)
      go_wp2_with fail
      go_ret
      exact ⟨rfl, hB3⟩
    · have hB3 := (hB2.trans (hb3.mono hB2.size)).alloc (hB2.trans (hb3.mono hB2.size)).size (.cells #[.int .i64 0, .slice bv 0 dv, .slice bw 0 dw, .slice bo 0 dO, .slice bp 0 dp] 38)
      go_wp2_with fail
      go_ret
      exact ⟨rfl, hB3⟩
  · have hB2 := (hb1.trans (hb2.mono hb1.size)).alloc (hb1.trans (hb2.mono hb1.size)).size (.cells #[.int .i64 0, .slice av 0 cv, .slice aw 0 cw, .slice ao 0 co, .slice ap 0 cp] 38)
    go_wp2_with fail
    refine (HD2.out _).mono ?_
    rintro e w3 (⟨rfl, hb3⟩ | ⟨-, bv, bw, bo, bp, dv, dw, dO, dp, rfl, hb3⟩)
    · have hB3 := (hB2.trans (hb3.mono hB2.size)).alloc (hB2.trans (hb3.mono hB2.size)).size (.cells #[.int .i64 0, .slice none 0 0, .slice none 0 0, .slice none 0 0, .slice none 0 0] 38)
      go_wp2_with fail
      go_ret
      exact ⟨rfl, hB3⟩
    · have hB3 := (hB2.trans (hb3.mono hB2.size)).alloc (hB2.trans (hb3.mono hB2.size)).size (.cells #[.int .i64 0, .slice bv 0 dv, .slice bw 0 dw, .slice bo 0 dO, .slice bp 0 dp] 38)
      go_wp2_with fail
      go_ret
      exact ⟨rfl, hB3⟩
end Go.Proofs.YtlenpifjkbcmdaaGreatDoor
