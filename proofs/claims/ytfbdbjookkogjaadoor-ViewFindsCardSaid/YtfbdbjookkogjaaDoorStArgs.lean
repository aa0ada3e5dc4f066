/-
  A stamp that comes in.
-/
import Derived.Test.YtfbdbjookkogjaaDoorOpsArgs
namespace Go.Proofs.YtfbdbjookkogjaaDoor
open Go Go.RowKit Go.ChangeShapes Go.WideShapes Go.ChangeAt Go.Deep
def twoLay : Lay (Int × Int) := { sz := 2, cells := fun x => [.int .i64 x.1, .int .i64 x.2], len := fun _ => rfl, one := fun x v hv => by simp only [List.mem_cons, List.mem_nil_iff, or_false] at hv; rcases hv with rfl | rfl <;> rfl }
section
variable {H : Type} {enc : TypeId × Value → H} {P : Program}
theorem arg_stamp {W : World} {base : Nat} {t i : TypeId} {fs : Array Field} {v : Value} {d : DataW H} {p : List MemPlace}
    (ht : P.underlying t = some (.struct fs)) (hlv : leaves P 4 t = [(0, i), (1, i)]) (hC : P.cellsOf t = 2) (hui : P.underlying i = some (.int .i64))
    (hv : Value.okWide P W .any base t v) (h : DataW.Trod enc P W 0 (fun _ => true) true t v d p) : ∃ a b : Int, v = .agg #[.int .i64 a, .int .i64 b] := by
  obtain ⟨x, e⟩ := arg_agg (L := twoLay) ht hlv hC (fun g hg => by
    obtain ⟨n0, x0, h0⟩ := hg (0, i) (by simp)
    obtain ⟨n1, x1, h1⟩ := hg (1, i) (by simp)
    obtain ⟨v0, e0, _⟩ := DataW.trod_int hui h0
    obtain ⟨v1, e1, _⟩ := DataW.trod_int hui h1
    simp only [List.cons.injEq, and_true] at e0 e1
    refine ⟨(v0, v1), fun f v hv => ?_⟩
    match f, hv with
    | 0, hv => rw [e0]; exact Option.some.inj hv
    | 1, hv => rw [e1]; exact Option.some.inj hv) hv h (by simp [twoLay])
  exact ⟨x.1, x.2, e⟩
end
end Go.Proofs.YtfbdbjookkogjaaDoor
