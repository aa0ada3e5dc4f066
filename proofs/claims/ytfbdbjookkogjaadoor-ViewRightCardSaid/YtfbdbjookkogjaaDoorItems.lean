/-
  Items, as they lie in memory.
-/
import Derived.Test.YtfbdbjookkogjaaDoorOpened2
namespace Go.Proofs.YtfbdbjookkogjaaDoor
open Go Go.RowKit Go.ChangeShapes Go.WideShapes Go.ChangeAt

structure Itm where
  path : ByteArray
  cnt : Int
  who : Int
  dir : Bool
  ghost : Bool
  man : ByteArray
def Itm.cells (x : Itm) : List Value := [.string x.path, .int .i64 x.cnt, .int .i64 x.who, .bool x.dir, .bool x.ghost, .string x.man]
def Itm.val (x : Itm) : Value := .agg #[.string x.path, .int .i64 x.cnt, .int .i64 x.who, .bool x.dir, .bool x.ghost, .string x.man]
def itmLay : Lay Itm := { sz := 6, cells := Itm.cells, len := fun _ => rfl, one := fun x v hv => by simp only [Itm.cells, List.mem_cons, List.mem_nil_iff, or_false] at hv; rcases hv with rfl | rfl | rfl | rfl | rfl | rfl <;> rfl }
theorem itm_at {w : World} {a : Option Addr} {xs : List Itm} (h : RowsAt itmLay w a xs) {k : Nat} {x : Itm} (hk : xs[k]? = some x) : ∃ b off, a = some ⟨b, off, none⟩ ∧ b < w.heap.size ∧
    w.cell? ⟨b, off + k * 6, none⟩ = some (.string x.path) ∧ w.cell? ⟨b, off + k * 6 + 1, none⟩ = some (.int .i64 x.cnt) ∧ w.cell? ⟨b, off + k * 6 + 2, none⟩ = some (.int .i64 x.who) ∧ w.cell? ⟨b, off + k * 6 + 3, none⟩ = some (.bool x.dir) ∧ w.cell? ⟨b, off + k * 6 + 4, none⟩ = some (.bool x.ghost) ∧ w.cell? ⟨b, off + k * 6 + 5, none⟩ = some (.string x.man) := by
  obtain ⟨b, off, e, hlt, hc⟩ := h k x hk
  exact ⟨b, off, e, hlt, hc 0 _ rfl, hc 1 _ rfl, hc 2 _ rfl, hc 3 _ rfl, hc 4 _ rfl, hc 5 _ rfl⟩
theorem Itm.ext' {x y : Itm} (h1 : x.path = y.path) (h2 : x.cnt = y.cnt) (h3 : x.who = y.who) (h4 : x.dir = y.dir) (h5 : x.ghost = y.ghost) (h6 : x.man = y.man) : x = y := by
  cases x; cases y; simp_all
instance : DecidableEq Itm := fun x y => decidable_of_iff (x.path = y.path ∧ x.cnt = y.cnt ∧ x.who = y.who ∧ x.dir = y.dir ∧ x.ghost = y.ghost ∧ x.man = y.man) ⟨fun h => Itm.ext' h.1 h.2.1 h.2.2.1 h.2.2.2.1 h.2.2.2.2.1 h.2.2.2.2.2, fun h => by rw [h]; exact ⟨rfl, rfl, rfl, rfl, rfl, rfl⟩⟩
/-- Truth values, as they lie in memory. -/
def boolLay : Lay Bool := { sz := 1, cells := fun s => [.bool s], len := fun _ => rfl, one := fun x v hv => by simp only [List.mem_cons, List.mem_nil_iff, or_false] at hv; rw [hv]; rfl }
theorem bool_at {w : World} {a : Option Addr} {xs : List Bool} (h : RowsAt boolLay w a xs) {k : Nat} {x : Bool} (hk : xs[k]? = some x) : ∃ b off, a = some ⟨b, off, none⟩ ∧ b < w.heap.size ∧ w.cell? ⟨b, off + k, none⟩ = some (.bool x) := by
  obtain ⟨b, off, e, hlt, hc⟩ := h k x hk
  have := hc 0 _ rfl
  refine ⟨b, off, e, hlt, ?_⟩
  simpa [boolLay] using this
section
variable {H : Type} {enc : TypeId × Value → H} {P : Program}
/-- Items that came in. -/
theorem arg_items {W : World} {base : Nat} {ts : List TypeId} {ds : List (DataW H)} {j : Nat} {t e s i b : TypeId} {v : Value} {d : DataW H} {p : List MemPlace}
    (ht : P.underlying t = some (.slice e)) (hlv : leaves P 4 e = [(0, s), (1, i), (2, i), (3, b), (4, b), (5, s)]) (hC : P.cellsOf e = 6)
    (hus : P.underlying s = some .string) (hui : P.underlying i = some (.int .i64)) (hub : P.underlying b = some .bool)
    (hv : Value.okWide P W .any base t v) (h : DataW.Trod enc P W 0 (fun _ => true) true t v d p) (hlt : ∀ x ∈ p, x.block < W.heap.size) (hsz : (DataW.weightsEach P ts ds).all (· ≤ reachBytes) = true) (h1 : ts[j]? = some t) (h2 : ds[j]? = some d) :
    ∃ (a : Option Addr) (cap : Nat) (xs : List Itm), v = .slice a xs.length cap ∧ RowsAt itmLay W a xs ∧ xs.length ≤ cap ∧ xs.length * P.bytesOf e ≤ 140737488351232 ∧ (a = none → cap = 0) := by
  refine arg_leaves (L := itmLay) (by decide) ht hlv hC ?_ hv h hlt hsz h1 h2 (by simp [itmLay])
  intro g hg
  obtain ⟨n0, x0, h0⟩ := hg (0, s) (by simp)
  obtain ⟨n1, x1, h1⟩ := hg (1, i) (by simp)
  obtain ⟨n2, x2, h2⟩ := hg (2, i) (by simp)
  obtain ⟨n3, x3, h3⟩ := hg (3, b) (by simp)
  obtain ⟨n4, x4, h4⟩ := hg (4, b) (by simp)
  obtain ⟨n5, x5, h5⟩ := hg (5, s) (by simp)
  obtain ⟨s0, e0, _⟩ := DataW.trod_string hus h0
  obtain ⟨i1, e1, _⟩ := DataW.trod_int hui h1
  obtain ⟨i2, e2, _⟩ := DataW.trod_int hui h2
  obtain ⟨b3, e3, _⟩ := DataW.trod_bool hub h3
  obtain ⟨b4, e4, _⟩ := DataW.trod_bool hub h4
  obtain ⟨s5, e5, _⟩ := DataW.trod_string hus h5
  refine ⟨⟨s0, i1, i2, b3, b4, s5⟩, fun f v hv => ?_⟩
  simp only [List.cons.injEq, and_true] at e0 e1 e2 e3 e4 e5
  match f, hv with
  | 0, hv => rw [e0]; exact Option.some.inj hv
  | 1, hv => rw [e1]; exact Option.some.inj hv
  | 2, hv => rw [e2]; exact Option.some.inj hv
  | 3, hv => rw [e3]; exact Option.some.inj hv
  | 4, hv => rw [e4]; exact Option.some.inj hv
  | 5, hv => rw [e5]; exact Option.some.inj hv
end
end Go.Proofs.YtfbdbjookkogjaaDoor
