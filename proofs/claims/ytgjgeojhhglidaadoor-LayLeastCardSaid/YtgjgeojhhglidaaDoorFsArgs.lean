/-
  Calls of a file system that came in. Acts that came in.
-/
import Derived.Test.YtgjgeojhhglidaaDoorOpened2
import Derived.Test.YtgjgeojhhglidaaDoorFsP
import Derived.Test.YtgjgeojhhglidaaDoorEntry
namespace Go.Proofs.YtgjgeojhhglidaaDoor
open Go Go.RowKit Go.ChangeShapes Go.WideShapes Go.ChangeAt

def Ask.cells (x : Ask) : List Value := [.int .i64 x.ask, .string x.path, .string x.dest, .string x.data]
def Ask.val (x : Ask) : Value := .agg #[.int .i64 x.ask, .string x.path, .string x.dest, .string x.data]
def askLay : Lay Ask := { sz := 4, cells := Ask.cells, len := fun _ => rfl, one := fun x v hv => by simp only [Ask.cells, List.mem_cons, List.mem_nil_iff, or_false] at hv; rcases hv with rfl | rfl | rfl | rfl <;> rfl }
theorem ask_at {w : World} {a : Option Addr} {xs : List Ask} (h : RowsAt askLay w a xs) {k : Nat} {x : Ask} (hk : xs[k]? = some x) : ∃ b off, a = some ⟨b, off, none⟩ ∧ b < w.heap.size ∧
    w.cell? ⟨b, off + k * 4, none⟩ = some (.int .i64 x.ask) ∧ w.cell? ⟨b, off + k * 4 + 1, none⟩ = some (.string x.path) ∧ w.cell? ⟨b, off + k * 4 + 2, none⟩ = some (.string x.dest) ∧ w.cell? ⟨b, off + k * 4 + 3, none⟩ = some (.string x.data) := by
  obtain ⟨b, off, e, hlt, hc⟩ := h k x hk
  exact ⟨b, off, e, hlt, hc 0 _ rfl, hc 1 _ rfl, hc 2 _ rfl, hc 3 _ rfl⟩
section
variable {H : Type} {enc : TypeId × Value → H} {P : Program}
theorem arg_asks {W : World} {base : Nat} {ts : List TypeId} {ds : List (DataW H)} {j : Nat} {t e s i : TypeId} {v : Value} {d : DataW H} {p : List MemPlace}
    (ht : P.underlying t = some (.slice e)) (hlv : leaves P 4 e = [(0, i), (1, s), (2, s), (3, s)]) (hC : P.cellsOf e = 4)
    (hus : P.underlying s = some .string) (hui : P.underlying i = some (.int .i64))
    (hv : Value.okWide P W .any base t v) (h : DataW.Trod enc P W 0 (fun _ => true) true t v d p) (hlt : ∀ x ∈ p, x.block < W.heap.size) (hsz : (DataW.weightsEach P ts ds).all (· ≤ reachBytes) = true) (h1 : ts[j]? = some t) (h2 : ds[j]? = some d) :
    ∃ (a : Option Addr) (cap : Nat) (xs : List Ask), v = .slice a xs.length cap ∧ RowsAt askLay W a xs ∧ xs.length ≤ cap ∧ xs.length * P.bytesOf e ≤ 140737488351232 ∧ (a = none → cap = 0) := by
  refine arg_leaves (L := askLay) (by decide) ht hlv hC ?_ hv h hlt hsz h1 h2 (by simp [askLay])
  intro g hg
  obtain ⟨n0, x0, h0⟩ := hg (0, i) (by simp)
  obtain ⟨n1, x1, h1⟩ := hg (1, s) (by simp)
  obtain ⟨n2, x2, h2⟩ := hg (2, s) (by simp)
  obtain ⟨n3, x3, h3⟩ := hg (3, s) (by simp)
  obtain ⟨i0, e0, _⟩ := DataW.trod_int hui h0
  obtain ⟨s1, e1, _⟩ := DataW.trod_string hus h1
  obtain ⟨s2, e2, _⟩ := DataW.trod_string hus h2
  obtain ⟨s3, e3, _⟩ := DataW.trod_string hus h3
  refine ⟨⟨i0, s1, s2, s3⟩, fun f v hv => ?_⟩
  simp only [List.cons.injEq, and_true] at e0 e1 e2 e3
  match f, hv with
  | 0, hv => rw [e0]; exact Option.some.inj hv
  | 1, hv => rw [e1]; exact Option.some.inj hv
  | 2, hv => rw [e2]; exact Option.some.inj hv
  | 3, hv => rw [e3]; exact Option.some.inj hv
end
end Go.Proofs.YtgjgeojhhglidaaDoor

namespace Go.Proofs.YtgjgeojhhglidaaDoor
open Go Go.RowKit Go.ChangeShapes Go.WideShapes Go.ChangeAt
section
variable {H : Type} {enc : TypeId × Value → H} {P : Program}
theorem arg_acts {W : World} {base : Nat} {ts : List TypeId} {ds : List (DataW H)} {j : Nat} {t e s i : TypeId} {v : Value} {d : DataW H} {p : List MemPlace}
    (ht : P.underlying t = some (.slice e)) (hlv : leaves P 4 e = [(0, i), (1, s), (2, s)]) (hC : P.cellsOf e = 3)
    (hus : P.underlying s = some .string) (hui : P.underlying i = some (.int .i64))
    (hv : Value.okWide P W .any base t v) (h : DataW.Trod enc P W 0 (fun _ => true) true t v d p) (hlt : ∀ x ∈ p, x.block < W.heap.size) (hsz : (DataW.weightsEach P ts ds).all (· ≤ reachBytes) = true) (h1 : ts[j]? = some t) (h2 : ds[j]? = some d) :
    ∃ (a : Option Addr) (cap : Nat) (xs : List Act3), v = .slice a xs.length cap ∧ RowsAt act3Lay W a xs ∧ xs.length ≤ cap ∧ xs.length * P.bytesOf e ≤ 140737488351232 ∧ (a = none → cap = 0) := by
  refine arg_leaves (L := act3Lay) (by decide) ht hlv hC ?_ hv h hlt hsz h1 h2 (by simp [act3Lay])
  intro g hg
  obtain ⟨n0, x0, h0⟩ := hg (0, i) (by simp)
  obtain ⟨n1, x1, h1⟩ := hg (1, s) (by simp)
  obtain ⟨n2, x2, h2⟩ := hg (2, s) (by simp)
  obtain ⟨i0, e0, _⟩ := DataW.trod_int hui h0
  obtain ⟨s1, e1, _⟩ := DataW.trod_string hus h1
  obtain ⟨s2, e2, _⟩ := DataW.trod_string hus h2
  refine ⟨⟨i0, s1, s2⟩, fun f v hv => ?_⟩
  simp only [List.cons.injEq, and_true] at e0 e1 e2
  match f, hv with
  | 0, hv => rw [e0]; exact Option.some.inj hv
  | 1, hv => rw [e1]; exact Option.some.inj hv
  | 2, hv => rw [e2]; exact Option.some.inj hv
end
end Go.Proofs.YtgjgeojhhglidaaDoor

