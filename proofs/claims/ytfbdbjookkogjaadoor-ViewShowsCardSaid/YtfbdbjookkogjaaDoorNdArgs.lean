/-
  Nodes that come in.
-/
import Derived.Test.YtfbdbjookkogjaaDoorViewW3
import Derived.Test.YtfbdbjookkogjaaDoorOpened2
namespace Go.Proofs.YtfbdbjookkogjaaDoor
open Go Go.RowKit Go.ChangeShapes Go.WideShapes Go.ChangeAt Go.Deep
section
variable {H : Type} {enc : TypeId × Value → H} {P : Program}
/-- Nodes whose stamp's numbers are of 64 bits. -/
def NdB := { x : Nd // idOK x.cnt x.who }
def ndbLay : Lay NdB := { sz := 7, cells := fun x => Nd.cells x.1, len := fun _ => rfl, one := fun x v hv => ndLay.one x.1 v hv }
theorem dec_nd {W : World} {i b s : TypeId} (hus : P.underlying s = some .string) (hui : P.underlying i = some (.int .i64)) (hub : P.underlying b = some .bool)
    (g : Nat → Value) (hg : ∀ q ∈ [(0, i), (1, i), (2, b), (3, i), (4, i), (5, s), (6, s)], ∃ n x, DataW.trod enc P W 0 (fun _ => true) true n q.2 [g q.1] = some x) :
    ∃ x, ∀ f v, (ndbLay.cells x)[f]? = some v → g f = v := by
  obtain ⟨n0, x0, h0⟩ := hg (0, i) (by simp)
  obtain ⟨n1, x1, h1⟩ := hg (1, i) (by simp)
  obtain ⟨n2, x2, h2⟩ := hg (2, b) (by simp)
  obtain ⟨n3, x3, h3⟩ := hg (3, i) (by simp)
  obtain ⟨n4, x4, h4⟩ := hg (4, i) (by simp)
  obtain ⟨n5, x5, h5⟩ := hg (5, s) (by simp)
  obtain ⟨n6, x6, h6⟩ := hg (6, s) (by simp)
  obtain ⟨v0, e0, _, hw0⟩ := DataW.trod_int hui h0
  obtain ⟨v1, e1, _, hw1⟩ := DataW.trod_int hui h1
  obtain ⟨v2, e2, _⟩ := DataW.trod_bool hub h2
  obtain ⟨v3, e3, _⟩ := DataW.trod_int hui h3
  obtain ⟨v4, e4, _⟩ := DataW.trod_int hui h4
  obtain ⟨v5, e5, _⟩ := DataW.trod_string hus h5
  obtain ⟨v6, e6, _⟩ := DataW.trod_string hus h6
  have hb : idOK v0 v1 := by
    simp [Lit.wf, IntKind.min, IntKind.max, IntKind.signed, IntKind.bits] at hw0 hw1
    unfold idOK
    omega
  refine ⟨⟨⟨v0, v1, v2, v3, v4, v5, v6⟩, hb⟩, fun f v hv => ?_⟩
  simp only [List.cons.injEq, and_true] at e0 e1 e2 e3 e4 e5 e6
  match f, hv with
  | 0, hv => rw [e0]; exact Option.some.inj hv
  | 1, hv => rw [e1]; exact Option.some.inj hv
  | 2, hv => rw [e2]; exact Option.some.inj hv
  | 3, hv => rw [e3]; exact Option.some.inj hv
  | 4, hv => rw [e4]; exact Option.some.inj hv
  | 5, hv => rw [e5]; exact Option.some.inj hv
  | 6, hv => rw [e6]; exact Option.some.inj hv
theorem arg_nodes {W : World} {base : Nat} {ts : List TypeId} {ds : List (DataW H)} {j : Nat} {t e i b s : TypeId} {v : Value} {d : DataW H} {p : List MemPlace}
    (ht : P.underlying t = some (.slice e)) (hlv : leaves P 4 e = [(0, i), (1, i), (2, b), (3, i), (4, i), (5, s), (6, s)]) (hC : P.cellsOf e = 7) (hby : P.bytesOf e = 72)
    (hus : P.underlying s = some .string) (hui : P.underlying i = some (.int .i64)) (hub : P.underlying b = some .bool)
    (hv : Value.okWide P W .any base t v) (h : DataW.Trod enc P W 0 (fun _ => true) true t v d p) (hlt : ∀ x ∈ p, x.block < W.heap.size) (hsz : (DataW.weightsEach P ts ds).all (· ≤ reachBytes) = true) (h1 : ts[j]? = some t) (h2 : ds[j]? = some d) :
    ∃ (a : Option Addr) (cap : Nat) (xs : List Nd), v = .slice a xs.length cap ∧ RowsAt ndLay W a xs ∧ xs.length ≤ cap ∧ xs.length ≤ 140737488351232 ∧ (a = none → cap = 0) ∧ ∀ x ∈ xs, idOK x.cnt x.who := by
  obtain ⟨a, cap, xs, rfl, hr, hc, hl, hn⟩ := arg_leaves (L := ndbLay) (by decide) ht hlv hC (fun g hg => dec_nd hus hui hub g hg) hv h hlt hsz h1 h2 (by simp [ndbLay])
  refine ⟨a, cap, xs.map (·.1), by rw [List.length_map], ?_, by rw [List.length_map]; exact hc, by rw [List.length_map]; rw [hby] at hl; omega, hn, ?_⟩
  · intro k x hk
    rw [List.getElem?_map, Option.map_eq_some_iff] at hk
    obtain ⟨y, hy, rfl⟩ := hk
    exact hr k y hy
  · intro x hx
    obtain ⟨y, _, rfl⟩ := List.mem_map.1 hx
    exact y.2
end
end Go.Proofs.YtfbdbjookkogjaaDoor
