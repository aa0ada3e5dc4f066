import Derived.Test.YtaimbhphepopmaaDoorOpsW13
import Derived.Test.YtaimbhphepopmaaDoorOpsW10
namespace Go.Proofs.YtaimbhphepopmaaDoor
open Go Go.RowKit Go.Lib

def opA : Opr := ⟨1, 0, 1, 1, 1, 0, true, 0, 0, ⟨#[97]⟩, ⟨#[]⟩⟩
def opB : Opr := ⟨1, 0, 2, 1, 1, 0, true, 0, 0, ⟨#[97]⟩, ⟨#[]⟩⟩
theorem addA : addO [] opA = ([opA], 0) := by kernel_rfl
theorem addB : addO [] opB = ([], 26) := by kernel_rfl
theorem addC : addO [opA] opA = ([opA], 0) := by kernel_rfl
theorem memC : memB [opA] opA = true := by kernel_rfl
theorem decE : decO [] = (noOpr, 10) := by kernel_rfl
theorem decE_any (w : World) : Calls Tryd.prog 33 #[.string ⟨#[]⟩] w fun e w' => e = .returned (.tuple #[.agg #[.int .i64 0, .int .i64 0, .int .i64 0, .int .i64 0, .int .i64 0, .int .i64 0, .bool false, .int .i64 0, .int .i64 0, .string ⟨#[]⟩, .string ⟨#[]⟩], .int .i64 10]) ∧ Below w.heap.size w w' := by
  have h := decode_any ⟨#[]⟩ w (by decide)
  rw [show (ByteArray.mk #[]).data.toList = [] from rfl, decE] at h
  exact h
theorem sameA_any (a b : Option Addr) (cap cap' : Nat) (w : World) (ha : RowsAt oprLay w a [opA]) (hb : RowsAt oprLay w b [opA]) : Calls Tryd.prog 43 #[.slice a 1 cap, .slice b 1 cap'] w fun e w' => e = .returned (.bool true) ∧ ∃ n, w' = w.drewN n := by
  have h := oprs_any a b cap cap' [opA] [opA] w (by simp) ha hb
  simpa using h

/-! ### few -/
def bigO (x : Opr) : Bool := decide (200 < x.name.size) || decide (2000 < x.man.size)
def fewO (l : List Opr) : Bool := decide (l.length ≤ 450) && !l.any bigO
end Go.Proofs.YtaimbhphepopmaaDoor
