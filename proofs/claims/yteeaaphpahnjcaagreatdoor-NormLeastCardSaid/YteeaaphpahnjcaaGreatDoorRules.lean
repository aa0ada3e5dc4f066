/-
  Rules that came in.
-/
import Derived.Test.YteeaaphpahnjcaaGreatDoorOpened2
import Derived.Test.YteeaaphpahnjcaaGreatDoorGlobPure
namespace Go.Proofs.YteeaaphpahnjcaaGreatDoor
open Go Go.RowKit Go.ChangeShapes Go.WideShapes Go.ChangeAt
section
variable {H : Type} {enc : TypeId × Value → H} {P : Program}
theorem arg_rules {W : World} {base : Nat} {ts : List TypeId} {ds : List (DataW H)} {j : Nat} {t e s i : TypeId} {v : Value} {d : DataW H} {p : List MemPlace}
    (ht : P.underlying t = some (.slice e)) (hlv : leaves P 4 e = [(0, i), (1, s)]) (hC : P.cellsOf e = 2)
    (hus : P.underlying s = some .string) (hui : P.underlying i = some (.int .i64))
    (hv : Value.okWide P W .any base t v) (h : DataW.Trod enc P W 0 (fun _ => true) true t v d p) (hlt : ∀ x ∈ p, x.block < W.heap.size) (hsz : (DataW.weightsEach P ts ds).all (· ≤ reachBytes) = true) (h1 : ts[j]? = some t) (h2 : ds[j]? = some d) :
    ∃ (a : Option Addr) (cap : Nat) (xs : List Rul), v = .slice a xs.length cap ∧ RowsAt rulLay W a xs ∧ xs.length ≤ cap ∧ xs.length * P.bytesOf e ≤ 140737488351232 ∧ (a = none → cap = 0) := by
  refine arg_leaves (L := rulLay) (by decide) ht hlv hC ?_ hv h hlt hsz h1 h2 (by simp [rulLay])
  intro g hg
  obtain ⟨n0, x0, h0⟩ := hg (0, i) (by simp)
  obtain ⟨n1, x1, h1⟩ := hg (1, s) (by simp)
  obtain ⟨i0, e0, _⟩ := DataW.trod_int hui h0
  obtain ⟨s1, e1, _⟩ := DataW.trod_string hus h1
  refine ⟨⟨i0, s1⟩, fun f v hv => ?_⟩
  simp only [List.cons.injEq, and_true] at e0 e1
  match f, hv with
  | 0, hv => rw [e0]; exact Option.some.inj hv
  | 1, hv => rw [e1]; exact Option.some.inj hv
end
end Go.Proofs.YteeaaphpahnjcaaGreatDoor

