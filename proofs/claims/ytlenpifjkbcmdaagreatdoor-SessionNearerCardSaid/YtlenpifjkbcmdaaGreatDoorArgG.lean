/-
  Truth values, as they lie in memory. Of no program. Operations that came in, opened.
-/
import Derived.Test.YtlenpifjkbcmdaaGreatDoorStructs
import Derived.Test.YtlenpifjkbcmdaaGreatDoorOpened2
import Derived.Test.YtlenpifjkbcmdaaGreatDoorOpsW1
namespace Go.Proofs.YtlenpifjkbcmdaaGreatDoor
open Go Go.RowKit Go.ChangeShapes Go.WideShapes Go.ChangeAt Go.Deep

def boolLay : Lay Bool := { sz := 1, cells := fun n => [.bool n], len := fun _ => rfl, one := fun x v hv => by simp only [List.mem_cons, List.mem_nil_iff, or_false] at hv; rw [hv]; rfl }
theorem bool_at {w : World} {a : Option Addr} {xs : List Bool} (h : RowsAt boolLay w a xs) {k : Nat} {x : Bool} (hk : xs[k]? = some x) : ∃ b off, a = some ⟨b, off, none⟩ ∧ b < w.heap.size ∧ w.cell? ⟨b, off + k, none⟩ = some (.bool x) := by
  obtain ⟨b, off, e, hlt, hc⟩ := h k x hk
  have := hc 0 _ rfl
  refine ⟨b, off, e, hlt, ?_⟩
  simpa [boolLay] using this
section
variable {H : Type} {enc : TypeId × Value → H} {P : Program}
/-- Truth values that came in. -/
theorem arg_bools {W : World} {base : Nat} {ts : List TypeId} {ds : List (DataW H)} {j : Nat} {t e : TypeId} {v : Value} {d : DataW H} {p : List MemPlace}
    (ht : P.underlying t = some (.slice e)) (hui : P.underlying e = some .bool) (hlv : leaves P 4 e = [(0, e)]) (hC : P.cellsOf e = 1)
    (hv : Value.okWide P W .any base t v) (h : DataW.Trod enc P W 0 (fun _ => true) true t v d p) (hlt : ∀ x ∈ p, x.block < W.heap.size) (hsz : (DataW.weightsEach P ts ds).all (· ≤ reachBytes) = true) (h1 : ts[j]? = some t) (h2 : ds[j]? = some d) :
    ∃ (a : Option Addr) (cap : Nat) (xs : List Bool), v = .slice a xs.length cap ∧ RowsAt boolLay W a xs ∧ xs.length ≤ cap ∧ xs.length * P.bytesOf e ≤ 140737488351232 ∧ (a = none → cap = 0) := by
  refine arg_leaves (L := boolLay) (by decide) ht hlv hC ?_ hv h hlt hsz h1 h2 (by simp [boolLay])
  intro g hg
  obtain ⟨n0, x0, h0⟩ := hg (0, e) (by simp)
  obtain ⟨i0, e0, _⟩ := DataW.trod_bool hui h0
  simp only [List.cons.injEq, and_true] at e0
  refine ⟨i0, fun f v hv => ?_⟩
  match f, hv with
  | 0, hv => rw [e0]; exact Option.some.inj hv
end
end Go.Proofs.YtlenpifjkbcmdaaGreatDoor

namespace Go.Proofs.YtlenpifjkbcmdaaGreatDoor
open Go Go.RowKit Go.ChangeShapes Go.WideShapes Go.ChangeAt Go.Deep
section
variable {H : Type} {enc : TypeId × Value → H} {P : Program}
/-- A struct that came in by value: what each leaf reads as is the caller's to say (dec). -/
theorem arg_agg {α : Type} {L : Lay α} {W : World} {base : Nat} {t : TypeId} {fs : Array Field} {lv : List (Nat × TypeId)} {v : Value} {d : DataW H} {p : List MemPlace}
    (ht : P.underlying t = some (.struct fs)) (hlv : leaves P 4 t = lv) (hC : P.cellsOf t = L.sz)
    (dec : ∀ g : Nat → Value, (∀ q ∈ lv, ∃ n x, DataW.trod enc P W 0 (fun _ => true) true n q.2 [g q.1] = some x) → ∃ x, ∀ f v, (L.cells x)[f]? = some v → g f = v)
    (hv : Value.okWide P W .any base t v) (h : DataW.Trod enc P W 0 (fun _ => true) true t v d p) (hin : ∀ q ∈ lv, q.1 < L.sz) : ∃ x, v = .agg (L.cells x).toArray := by
  obtain ⟨cs, rfl, hcs⟩ := okWide_struct ht hv
  obtain ⟨fuel, hf⟩ := h
  have hlen : cs.toList.length = P.cellsOf t := by simpa using hcs
  obtain ⟨x, hx⟩ := dec (fun k => cs.toList.getD k default) (by
    intro q hq
    obtain ⟨n', y, hy⟩ := trod_leaf 4 t fuel cs.toList _ hlen hf q (by rw [hlv]; exact hq)
    have hq1 := hin q hq
    refine ⟨n', y, ?_⟩
    have e1 : (cs.toList.drop q.1).take 1 = [cs.toList.getD q.1 default] := by
      rw [List.drop_eq_getElem_cons (by omega)]
      rw [List.getD_eq_getElem?_getD, List.getElem?_eq_getElem (show q.1 < cs.toList.length by omega)]
      rfl
    rw [← e1]
    exact hy)
  refine ⟨x, ?_⟩
  congr 1
  apply Array.toList_inj.1
  apply List.ext_getElem?
  intro f
  by_cases hlt : f < L.sz
  · have h1 : (L.cells x)[f]? = some ((L.cells x)[f]'(by rw [L.len]; exact hlt)) := List.getElem?_eq_getElem _
    have h2 := hx f _ h1
    rw [List.getD_eq_getElem?_getD, List.getElem?_eq_getElem (by omega), Option.getD_some] at h2
    rw [List.getElem?_eq_getElem (by omega), h2]
    exact h1.symm
  · rw [List.getElem?_eq_none (by omega)]
    exact (List.getElem?_eq_none (by simp [L.len]; omega)).symm
theorem dec_op {W : World} {i b s : TypeId} (hus : P.underlying s = some .string) (hui : P.underlying i = some (.int .i64)) (hub : P.underlying b = some .bool)
    (g : Nat → Value) (hg : ∀ q ∈ [(0, i), (1, i), (2, i), (3, i), (4, i), (5, i), (6, b), (7, i), (8, i), (9, s), (10, s)], ∃ n x, DataW.trod enc P W 0 (fun _ => true) true n q.2 [g q.1] = some x) :
    ∃ x, ∀ f v, (oprLay.cells x)[f]? = some v → g f = v := by
  obtain ⟨n0, x0, h0⟩ := hg (0, i) (by simp)
  obtain ⟨n1, x1, h1⟩ := hg (1, i) (by simp)
  obtain ⟨n2, x2, h2⟩ := hg (2, i) (by simp)
  obtain ⟨n3, x3, h3⟩ := hg (3, i) (by simp)
  obtain ⟨n4, x4, h4⟩ := hg (4, i) (by simp)
  obtain ⟨n5, x5, h5⟩ := hg (5, i) (by simp)
  obtain ⟨n6, x6, h6⟩ := hg (6, b) (by simp)
  obtain ⟨n7, x7, h7⟩ := hg (7, i) (by simp)
  obtain ⟨n8, x8, h8⟩ := hg (8, i) (by simp)
  obtain ⟨n9, x9, h9⟩ := hg (9, s) (by simp)
  obtain ⟨n10, x10, h10⟩ := hg (10, s) (by simp)
  obtain ⟨v0, e0, _⟩ := DataW.trod_int hui h0
  obtain ⟨v1, e1, _⟩ := DataW.trod_int hui h1
  obtain ⟨v2, e2, _⟩ := DataW.trod_int hui h2
  obtain ⟨v3, e3, _⟩ := DataW.trod_int hui h3
  obtain ⟨v4, e4, _⟩ := DataW.trod_int hui h4
  obtain ⟨v5, e5, _⟩ := DataW.trod_int hui h5
  obtain ⟨v6, e6, _⟩ := DataW.trod_bool hub h6
  obtain ⟨v7, e7, _⟩ := DataW.trod_int hui h7
  obtain ⟨v8, e8, _⟩ := DataW.trod_int hui h8
  obtain ⟨v9, e9, _⟩ := DataW.trod_string hus h9
  obtain ⟨v10, e10, _⟩ := DataW.trod_string hus h10
  refine ⟨⟨v0, v1, v2, v3, v4, v5, v6, v7, v8, v9, v10⟩, fun f v hv => ?_⟩
  simp only [List.cons.injEq, and_true] at e0 e1 e2 e3 e4 e5 e6 e7 e8 e9 e10
  match f, hv with
  | 0, hv => rw [e0]; exact Option.some.inj hv
  | 1, hv => rw [e1]; exact Option.some.inj hv
  | 2, hv => rw [e2]; exact Option.some.inj hv
  | 3, hv => rw [e3]; exact Option.some.inj hv
  | 4, hv => rw [e4]; exact Option.some.inj hv
  | 5, hv => rw [e5]; exact Option.some.inj hv
  | 6, hv => rw [e6]; exact Option.some.inj hv
  | 7, hv => rw [e7]; exact Option.some.inj hv
  | 8, hv => rw [e8]; exact Option.some.inj hv
  | 9, hv => rw [e9]; exact Option.some.inj hv
  | 10, hv => rw [e10]; exact Option.some.inj hv
theorem arg_op {W : World} {base : Nat} {t i b s : TypeId} {fs : Array Field} {v : Value} {d : DataW H} {p : List MemPlace}
    (ht : P.underlying t = some (.struct fs)) (hlv : leaves P 4 t = [(0, i), (1, i), (2, i), (3, i), (4, i), (5, i), (6, b), (7, i), (8, i), (9, s), (10, s)]) (hC : P.cellsOf t = 11)
    (hus : P.underlying s = some .string) (hui : P.underlying i = some (.int .i64)) (hub : P.underlying b = some .bool)
    (hv : Value.okWide P W .any base t v) (h : DataW.Trod enc P W 0 (fun _ => true) true t v d p) : ∃ x : Opr, v = .agg (Opr.cells x).toArray :=
  arg_agg (L := oprLay) ht hlv hC (fun g hg => dec_op hus hui hub g hg) hv h (by simp [oprLay])
theorem arg_ops {W : World} {base : Nat} {ts : List TypeId} {ds : List (DataW H)} {j : Nat} {t e i b s : TypeId} {v : Value} {d : DataW H} {p : List MemPlace}
    (ht : P.underlying t = some (.slice e)) (hlv : leaves P 4 e = [(0, i), (1, i), (2, i), (3, i), (4, i), (5, i), (6, b), (7, i), (8, i), (9, s), (10, s)]) (hC : P.cellsOf e = 11)
    (hus : P.underlying s = some .string) (hui : P.underlying i = some (.int .i64)) (hub : P.underlying b = some .bool)
    (hv : Value.okWide P W .any base t v) (h : DataW.Trod enc P W 0 (fun _ => true) true t v d p) (hlt : ∀ x ∈ p, x.block < W.heap.size) (hsz : (DataW.weightsEach P ts ds).all (· ≤ reachBytes) = true) (h1 : ts[j]? = some t) (h2 : ds[j]? = some d) :
    ∃ (a : Option Addr) (cap : Nat) (xs : List Opr), v = .slice a xs.length cap ∧ RowsAt oprLay W a xs ∧ xs.length ≤ cap ∧ xs.length * P.bytesOf e ≤ 140737488351232 ∧ (a = none → cap = 0) :=
  arg_leaves (L := oprLay) (by decide) ht hlv hC (fun g hg => dec_op hus hui hub g hg) hv h hlt hsz h1 h2 (by simp [oprLay])
/-- Operations whose device's number is one of 64 bits. -/
def OprB := { x : Opr // -9223372036854775808 ≤ x.who ∧ x.who ≤ 9223372036854775807 }
def oprbLay : Lay OprB := { sz := 11, cells := fun x => Opr.cells x.1, len := fun _ => rfl, one := fun x v hv => oprLay.one x.1 v hv }
theorem arg_ops2 {W : World} {base : Nat} {ts : List TypeId} {ds : List (DataW H)} {j : Nat} {t e i b s : TypeId} {v : Value} {d : DataW H} {p : List MemPlace}
    (ht : P.underlying t = some (.slice e)) (hlv : leaves P 4 e = [(0, i), (1, i), (2, i), (3, i), (4, i), (5, i), (6, b), (7, i), (8, i), (9, s), (10, s)]) (hC : P.cellsOf e = 11) (hby : P.bytesOf e = 104)
    (hus : P.underlying s = some .string) (hui : P.underlying i = some (.int .i64)) (hub : P.underlying b = some .bool)
    (hv : Value.okWide P W .any base t v) (h : DataW.Trod enc P W 0 (fun _ => true) true t v d p) (hlt : ∀ x ∈ p, x.block < W.heap.size) (hsz : (DataW.weightsEach P ts ds).all (· ≤ reachBytes) = true) (h1 : ts[j]? = some t) (h2 : ds[j]? = some d) :
    ∃ (a : Option Addr) (cap : Nat) (xs : List Opr), v = .slice a xs.length cap ∧ RowsAt oprLay W a xs ∧ xs.length ≤ cap ∧ xs.length ≤ 140737488351232 ∧ (a = none → cap = 0) ∧ ∀ x ∈ xs, -9223372036854775808 ≤ x.who := by
  obtain ⟨a, cap, xs, rfl, hr, hc, hl, hn⟩ := arg_leaves (L := oprbLay) (by decide) ht hlv hC (fun g hg => by
    obtain ⟨x, hx⟩ := dec_op hus hui hub g hg
    obtain ⟨n1, y1, h1⟩ := hg (1, i) (by simp)
    obtain ⟨v1, e1, _, hwf⟩ := DataW.trod_int hui h1
    simp only [List.cons.injEq, and_true] at e1
    have h3 := hx 1 (.int .i64 x.who) rfl
    rw [e1] at h3
    cases h3
    have hb : -9223372036854775808 ≤ x.who ∧ x.who ≤ 9223372036854775807 := by
      simp [Lit.wf, IntKind.min, IntKind.max, IntKind.signed, IntKind.bits] at hwf
      omega
    exact ⟨⟨x, hb⟩, hx⟩) hv h hlt hsz h1 h2 (by simp [oprbLay])
  refine ⟨a, cap, xs.map (·.1), by rw [List.length_map], ?_, by rw [List.length_map]; exact hc, by rw [List.length_map]; rw [hby] at hl; omega, hn, ?_⟩
  · intro k x hk
    rw [List.getElem?_map, Option.map_eq_some_iff] at hk
    obtain ⟨y, hy, rfl⟩ := hk
    exact hr k y hy
  · intro x hx
    obtain ⟨y, _, rfl⟩ := List.mem_map.1 hx
    exact y.2.1
end
end Go.Proofs.YtlenpifjkbcmdaaGreatDoor

