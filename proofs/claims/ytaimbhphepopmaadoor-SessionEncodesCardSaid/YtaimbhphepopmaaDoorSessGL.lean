/-
  Operations that come in: one, or a slice of them. A struct that came in by value and holds slices: opened. arbourlaw23.few, plain, same, awake. arbourref23.Encode. SessionEncodes returns true for every message. Conditions: where the slices lie. SessionDecodes returns true for every text. SessionBack returns true for every message and text. Conditions: where the slices lie.
-/
import Derived.Test.YtaimbhphepopmaaDoorOpsW1
import Derived.Test.YtaimbhphepopmaaDoorOpened2
import Derived.Test.YtaimbhphepopmaaDoorNums
import Derived.Test.YtaimbhphepopmaaDoorSessGD
import Derived.Test.YtaimbhphepopmaaDoorSessGA
import Derived.Test.YtaimbhphepopmaaDoorSessGC
import Derived.Test.YtaimbhphepopmaaDoorOpsW20
import Derived.Test.YtaimbhphepopmaaDoorSessGR
import Derived.Test.YtaimbhphepopmaaDoorOpsW7
import Derived.Lib.QuietBelow
import Derived.Test.YtaimbhphepopmaaDoorSessGE
import Derived.Deep.Cut
namespace Go.Proofs.YtaimbhphepopmaaDoor
open Go Go.RowKit Go.ChangeShapes Go.WideShapes Go.ChangeAt Go.Deep
section
variable {H : Type} {enc : TypeId × Value → H} {P : Program}
/-- A struct that came in by value: what each leaf reads as is the caller's to say (dec). -/
theorem arg_agg {α : Type} {L : Lay α} {W : World} {base : Nat} {t : TypeId} {fs : Array Field} {lv : List (Nat × TypeId)} {v : Value} {d : DataW H} {p : List MemPlace}
    (ht : P.underlying t = some (.struct fs)) (hlv : leaves P 4 t = lv) (hC : P.cellsOf t = L.sz)
    (dec : ∀ g : Nat → Value, (∀ q ∈ lv, ∃ n x, DataW.trod enc P W 0 (fun _ => true) true n q.2 [g q.1] = some x) → ∃ x, ∀ f v, (L.cells x)[f]? = some v → g f = v)
    (hv : Value.okWide P W .any base t v) (h : DataW.Trod enc P W 0 (fun _ => true) true t v d p) (hin : ∀ q ∈ lv, q.1 < L.sz) : ∃ x, v = .agg (L.cells x).toArray := by
  obtain ⟨cs, rfl, hcs⟩ := okWide_struct ht hv
  obtain ⟨fuel, hf⟩ := h
  have hlen : cs.toList.length = P.cellsOf t := by simpa using hcs
  obtain ⟨x, hx⟩ := dec (fun k => cs.toList.getD k default) (by
    intro q hq
    obtain ⟨n', y, hy⟩ := trod_leaf 4 t fuel cs.toList _ hlen hf q (by rw [hlv]; exact hq)
    have hq1 := hin q hq
    refine ⟨n', y, ?_⟩
    have e1 : (cs.toList.drop q.1).take 1 = [cs.toList.getD q.1 default] := by
      rw [List.drop_eq_getElem_cons (by omega)]
      rw [List.getD_eq_getElem?_getD, List.getElem?_eq_getElem (show q.1 < cs.toList.length by omega)]
      rfl
    rw [← e1]
    exact hy)
  refine ⟨x, ?_⟩
  congr 1
  apply Array.toList_inj.1
  apply List.ext_getElem?
  intro f
  by_cases hlt : f < L.sz
  · have h1 : (L.cells x)[f]? = some ((L.cells x)[f]'(by rw [L.len]; exact hlt)) := List.getElem?_eq_getElem _
    have h2 := hx f _ h1
    rw [List.getD_eq_getElem?_getD, List.getElem?_eq_getElem (by omega), Option.getD_some] at h2
    rw [List.getElem?_eq_getElem (by omega), h2]
    exact h1.symm
  · rw [List.getElem?_eq_none (by omega)]
    exact (List.getElem?_eq_none (by simp [L.len]; omega)).symm
theorem dec_op {W : World} {i b s : TypeId} (hus : P.underlying s = some .string) (hui : P.underlying i = some (.int .i64)) (hub : P.underlying b = some .bool)
    (g : Nat → Value) (hg : ∀ q ∈ [(0, i), (1, i), (2, i), (3, i), (4, i), (5, i), (6, b), (7, i), (8, i), (9, s), (10, s)], ∃ n x, DataW.trod enc P W 0 (fun _ => true) true n q.2 [g q.1] = some x) :
    ∃ x, ∀ f v, (oprLay.cells x)[f]? = some v → g f = v := by
  obtain ⟨n0, x0, h0⟩ := hg (0, i) (by simp)
  obtain ⟨n1, x1, h1⟩ := hg (1, i) (by simp)
  obtain ⟨n2, x2, h2⟩ := hg (2, i) (by simp)
  obtain ⟨n3, x3, h3⟩ := hg (3, i) (by simp)
  obtain ⟨n4, x4, h4⟩ := hg (4, i) (by simp)
  obtain ⟨n5, x5, h5⟩ := hg (5, i) (by simp)
  obtain ⟨n6, x6, h6⟩ := hg (6, b) (by simp)
  obtain ⟨n7, x7, h7⟩ := hg (7, i) (by simp)
  obtain ⟨n8, x8, h8⟩ := hg (8, i) (by simp)
  obtain ⟨n9, x9, h9⟩ := hg (9, s) (by simp)
  obtain ⟨n10, x10, h10⟩ := hg (10, s) (by simp)
  obtain ⟨v0, e0, _⟩ := DataW.trod_int hui h0
  obtain ⟨v1, e1, _⟩ := DataW.trod_int hui h1
  obtain ⟨v2, e2, _⟩ := DataW.trod_int hui h2
  obtain ⟨v3, e3, _⟩ := DataW.trod_int hui h3
  obtain ⟨v4, e4, _⟩ := DataW.trod_int hui h4
  obtain ⟨v5, e5, _⟩ := DataW.trod_int hui h5
  obtain ⟨v6, e6, _⟩ := DataW.trod_bool hub h6
  obtain ⟨v7, e7, _⟩ := DataW.trod_int hui h7
  obtain ⟨v8, e8, _⟩ := DataW.trod_int hui h8
  obtain ⟨v9, e9, _⟩ := DataW.trod_string hus h9
  obtain ⟨v10, e10, _⟩ := DataW.trod_string hus h10
  refine ⟨⟨v0, v1, v2, v3, v4, v5, v6, v7, v8, v9, v10⟩, fun f v hv => ?_⟩
  simp only [List.cons.injEq, and_true] at e0 e1 e2 e3 e4 e5 e6 e7 e8 e9 e10
  match f, hv with
  | 0, hv => rw [e0]; exact Option.some.inj hv
  | 1, hv => rw [e1]; exact Option.some.inj hv
  | 2, hv => rw [e2]; exact Option.some.inj hv
  | 3, hv => rw [e3]; exact Option.some.inj hv
  | 4, hv => rw [e4]; exact Option.some.inj hv
  | 5, hv => rw [e5]; exact Option.some.inj hv
  | 6, hv => rw [e6]; exact Option.some.inj hv
  | 7, hv => rw [e7]; exact Option.some.inj hv
  | 8, hv => rw [e8]; exact Option.some.inj hv
  | 9, hv => rw [e9]; exact Option.some.inj hv
  | 10, hv => rw [e10]; exact Option.some.inj hv
theorem arg_op {W : World} {base : Nat} {t i b s : TypeId} {fs : Array Field} {v : Value} {d : DataW H} {p : List MemPlace}
    (ht : P.underlying t = some (.struct fs)) (hlv : leaves P 4 t = [(0, i), (1, i), (2, i), (3, i), (4, i), (5, i), (6, b), (7, i), (8, i), (9, s), (10, s)]) (hC : P.cellsOf t = 11)
    (hus : P.underlying s = some .string) (hui : P.underlying i = some (.int .i64)) (hub : P.underlying b = some .bool)
    (hv : Value.okWide P W .any base t v) (h : DataW.Trod enc P W 0 (fun _ => true) true t v d p) : ∃ x : Opr, v = .agg (Opr.cells x).toArray :=
  arg_agg (L := oprLay) ht hlv hC (fun g hg => dec_op hus hui hub g hg) hv h (by simp [oprLay])
theorem arg_ops {W : World} {base : Nat} {ts : List TypeId} {ds : List (DataW H)} {j : Nat} {t e i b s : TypeId} {v : Value} {d : DataW H} {p : List MemPlace}
    (ht : P.underlying t = some (.slice e)) (hlv : leaves P 4 e = [(0, i), (1, i), (2, i), (3, i), (4, i), (5, i), (6, b), (7, i), (8, i), (9, s), (10, s)]) (hC : P.cellsOf e = 11)
    (hus : P.underlying s = some .string) (hui : P.underlying i = some (.int .i64)) (hub : P.underlying b = some .bool)
    (hv : Value.okWide P W .any base t v) (h : DataW.Trod enc P W 0 (fun _ => true) true t v d p) (hlt : ∀ x ∈ p, x.block < W.heap.size) (hsz : (DataW.weightsEach P ts ds).all (· ≤ reachBytes) = true) (h1 : ts[j]? = some t) (h2 : ds[j]? = some d) :
    ∃ (a : Option Addr) (cap : Nat) (xs : List Opr), v = .slice a xs.length cap ∧ RowsAt oprLay W a xs ∧ xs.length ≤ cap ∧ xs.length * P.bytesOf e ≤ 140737488351232 ∧ (a = none → cap = 0) :=
  arg_leaves (L := oprLay) (by decide) ht hlv hC (fun g hg => dec_op hus hui hub g hg) hv h hlt hsz h1 h2 (by simp [oprLay])
/-- Operations whose device's number is one of 64 bits. -/
def OprB := { x : Opr // -9223372036854775808 ≤ x.who ∧ x.who ≤ 9223372036854775807 }
def oprbLay : Lay OprB := { sz := 11, cells := fun x => Opr.cells x.1, len := fun _ => rfl, one := fun x v hv => oprLay.one x.1 v hv }
theorem arg_ops2 {W : World} {base : Nat} {ts : List TypeId} {ds : List (DataW H)} {j : Nat} {t e i b s : TypeId} {v : Value} {d : DataW H} {p : List MemPlace}
    (ht : P.underlying t = some (.slice e)) (hlv : leaves P 4 e = [(0, i), (1, i), (2, i), (3, i), (4, i), (5, i), (6, b), (7, i), (8, i), (9, s), (10, s)]) (hC : P.cellsOf e = 11) (hby : P.bytesOf e = 104)
    (hus : P.underlying s = some .string) (hui : P.underlying i = some (.int .i64)) (hub : P.underlying b = some .bool)
    (hv : Value.okWide P W .any base t v) (h : DataW.Trod enc P W 0 (fun _ => true) true t v d p) (hlt : ∀ x ∈ p, x.block < W.heap.size) (hsz : (DataW.weightsEach P ts ds).all (· ≤ reachBytes) = true) (h1 : ts[j]? = some t) (h2 : ds[j]? = some d) :
    ∃ (a : Option Addr) (cap : Nat) (xs : List Opr), v = .slice a xs.length cap ∧ RowsAt oprLay W a xs ∧ xs.length ≤ cap ∧ xs.length ≤ 140737488351232 ∧ (a = none → cap = 0) ∧ ∀ x ∈ xs, -9223372036854775808 ≤ x.who := by
  obtain ⟨a, cap, xs, rfl, hr, hc, hl, hn⟩ := arg_leaves (L := oprbLay) (by decide) ht hlv hC (fun g hg => by
    obtain ⟨x, hx⟩ := dec_op hus hui hub g hg
    obtain ⟨n1, y1, h1⟩ := hg (1, i) (by simp)
    obtain ⟨v1, e1, _, hwf⟩ := DataW.trod_int hui h1
    simp only [List.cons.injEq, and_true] at e1
    have h3 := hx 1 (.int .i64 x.who) rfl
    rw [e1] at h3
    cases h3
    have hb : -9223372036854775808 ≤ x.who ∧ x.who ≤ 9223372036854775807 := by
      simp [Lit.wf, IntKind.min, IntKind.max, IntKind.signed, IntKind.bits] at hwf
      omega
    exact ⟨⟨x, hb⟩, hx⟩) hv h hlt hsz h1 h2 (by simp [oprbLay])
  refine ⟨a, cap, xs.map (·.1), by rw [List.length_map], ?_, by rw [List.length_map]; exact hc, by rw [List.length_map]; rw [hby] at hl; omega, hn, ?_⟩
  · intro k x hk
    rw [List.getElem?_map, Option.map_eq_some_iff] at hk
    obtain ⟨y, hy, rfl⟩ := hk
    exact hr k y hy
  · intro x hx
    obtain ⟨y, _, rfl⟩ := List.mem_map.1 hx
    exact y.2.1
end
end Go.Proofs.YtaimbhphepopmaaDoor

namespace Go.Proofs.YtaimbhphepopmaaDoor
open Go Go.RowKit Go.ChangeShapes Go.WideShapes Go.ChangeAt Go.Deep
section
variable {H : Type} {enc : TypeId × Value → H} {P : Program} {w : World} {base : Nat} {spare : Nat → Bool} {held : Bool}
/-- A leaf's places are the whole's. -/
theorem trod_leaf_in : ∀ (d : Nat) (t : TypeId) (fuel : Nat) (cs : List Value) (x : DataW H × List MemPlace), cs.length = P.cellsOf t → DataW.trod enc P w base spare held fuel t cs = some x →
    ∀ q ∈ leaves P d t, ∃ n y, DataW.trod enc P w base spare held n q.2 ((cs.drop q.1).take 1) = some y ∧ ∀ z ∈ y.2, z ∈ x.2 := by
  intro d
  induction d with
  | zero => intro t fuel cs x _ _ q hq; simp [leaves] at hq
  | succ d ih =>
    intro t fuel cs x hlen h q hq
    unfold leaves at hq
    split at hq
    · rename_i fs hfs
      obtain ⟨ys, n, _, hy, hl, hyl, hf⟩ := DataW.trod_struct hfs h
      simp only [List.mem_flatMap, List.mem_map, List.mem_filter, decide_eq_true_eq] at hq
      obtain ⟨f, hfm, q', ⟨hq', hlt, hfit⟩, rfl⟩ := hq
      obtain ⟨i, hi⟩ := List.getElem?_of_mem hfm
      have hi' : fs[i]? = some f := by simpa using hi
      have hil : i < ys.length := by rw [hyl]; exact (Array.getElem?_eq_some_iff.1 hi').1
      have h1 := hf i f hi'
      rw [List.getElem?_eq_getElem hil] at h1
      obtain ⟨n', y, hy', hin⟩ := ih f.type n _ _ (by rw [List.length_take, List.length_drop]; omega) h1 q' hq'
      refine ⟨n', y, ?_, fun z hz => ?_⟩
      · rw [List.drop_take, List.take_take, List.drop_drop, Nat.min_eq_left (by omega)] at hy'
        exact hy'
      · rw [hy]
        exact List.mem_flatMap.2 ⟨_, List.getElem_mem hil, hin z hz⟩
    · split at hq
      · rename_i h1
        simp only [List.mem_singleton] at hq
        subst hq
        refine ⟨fuel, x, ?_, fun z hz => hz⟩
        rw [h1] at hlen
        rw [List.drop_zero, List.take_of_length_le (by omega)]
        exact h
      · simp at hq
/-- A slice that is read as a datum, wherever it lies. -/
theorem rows_of_trod {α : Type} {L : Lay α} {W : World} {t e : TypeId} {lv : List (Nat × TypeId)} {v : Value} {x : DataW H × List MemPlace} {fuel : Nat} (hL : 0 < L.sz)
    (ht : P.underlying t = some (.slice e)) (hlv : leaves P 4 e = lv) (hC : P.cellsOf e = L.sz)
    (dec : ∀ g : Nat → Value, (∀ q ∈ lv, ∃ n x, DataW.trod enc P W 0 (fun _ => true) true n q.2 [g q.1] = some x) → ∃ x, ∀ f v, (L.cells x)[f]? = some v → g f = v)
    (hf : DataW.trod enc P W 0 (fun _ => true) true fuel t [v] = some x) (hlt : ∀ z ∈ x.2, z.block < W.heap.size) (hin : ∀ q ∈ lv, q.1 < L.sz) :
    ∃ (a : Option Addr) (cap : Nat) (xs : List α), v = .slice a xs.length cap ∧ RowsAt L W a xs ∧ xs.length ≤ cap ∧ (a = none → cap = 0) := by
  rcases open_slice ht hf with ⟨hcs, hx⟩ | ⟨a, len', cap', m, n, D, Pl, hcs, _, hl, hm, hmm, hx, hi⟩
  · cases hcs
    exact ⟨none, 0, [], rfl, RowsAt.nil _ _ _, Nat.le_refl _, fun _ => rfl⟩
  · cases hcs
    simp only [if_true] at hmm
    obtain rfl := hmm.symm
    subst hx
    simp only at hlt
    rw [hC] at hlt
    obtain ⟨xs, hxl, hxs⟩ := list_of_choice (α := α) len' (fun i x => ∀ f v, (L.cells x)[f]? = some v → W.cell? (a.add (i * L.sz + f)) = some v) (by
      intro i hil
      obtain ⟨cs', hc, htr⟩ := hi i (by omega)
      rw [hC] at hc
      obtain ⟨_, hcl, hat⟩ := World.cells?_some hc
      obtain ⟨x, hx⟩ := dec (fun k => cs'.getD k default) (by
        intro q hq
        obtain ⟨n', y, hy⟩ := trod_leaf 4 e n cs' _ (by rw [hcl, hC]) htr q (by rw [hlv]; exact hq)
        have hq1 := hin q hq
        refine ⟨n', y, ?_⟩
        have e1 : (cs'.drop q.1).take 1 = [cs'.getD q.1 default] := by
          rw [List.drop_eq_getElem_cons (by omega)]
          rw [List.getD_eq_getElem?_getD, List.getElem?_eq_getElem (show q.1 < cs'.length by omega)]
          rfl
        rw [← e1]
        exact hy)
      refine ⟨x, fun f v hv => ?_⟩
      have hfl : f < L.sz := by rw [← L.len x]; exact (List.getElem?_eq_some_iff.1 hv).1
      have hcell := hat f hfl
      have := hx f v hv
      rw [List.getD_eq_getElem?_getD, List.getElem?_eq_getElem (by omega), Option.getD_some] at this
      rw [← Go.Deep.add_add, hcell, List.getElem?_eq_getElem (by omega), this])
    refine ⟨some a, _, xs, by rw [hxl], ?_, by omega, fun h => by cases h⟩
    intro k x hk
    have hkl := (List.getElem?_eq_some_iff.1 hk).1
    have h0 := hxs k x hk
    obtain ⟨x0, hx0⟩ : ∃ x0, xs[0]? = some x0 := ⟨_, List.getElem?_eq_getElem (by omega)⟩
    have hc0 : (L.cells x0)[0]? = some ((L.cells x0)[0]'(by rw [L.len]; omega)) := List.getElem?_eq_getElem (by rw [L.len]; omega)
    have hc0' := hxs 0 x0 hx0 0 _ hc0
    have hspot : a.spot = none := by
      cases hsp : a.spot with
      | none => rfl
      | some q =>
        exfalso
        have hq : (a.add (0 * L.sz + 0)).spot = some q := by unfold Addr.add; rw [if_pos (by omega)]; exact hsp
        generalize a.add (0 * L.sz + 0) = z at hc0' hq
        unfold World.cell? at hc0'
        rw [hq] at hc0'
        revert hc0'
        split <;> simp
    obtain ⟨b, off, sp⟩ := a
    simp only at hspot
    subst hspot
    refine ⟨b, off, rfl, ?_, fun f v hv => ?_⟩
    · have hin : MemPlace.cell b off ∈ MemPlace.row (⟨b, off, none⟩ : Addr) (cap' * L.sz) ++ (List.range cap').flatMap Pl := by
        refine List.mem_append_left _ ?_
        simp only [MemPlace.row, List.mem_map, List.mem_range]
        refine ⟨0, ?_, by simp⟩
        exact Nat.mul_pos (by omega) hL
      exact hlt _ hin
    · have := h0 f v hv
      have e : ((⟨b, off, none⟩ : Addr).add (k * L.sz + f)) = ⟨b, off + k * L.sz + f, none⟩ := by
        unfold Addr.add
        split <;> simp_all <;> omega
      rwa [e] at this
theorem dec_int {W : World} {i : TypeId} (hui : P.underlying i = some (.int .i64)) (g : Nat → Value) (hg : ∀ q ∈ [(0, i)], ∃ n x, DataW.trod enc P W 0 (fun _ => true) true n q.2 [g q.1] = some x) :
    ∃ x, ∀ f v, (numLay.cells x)[f]? = some v → g f = v := by
  obtain ⟨n0, x0, h0⟩ := hg (0, i) (by simp)
  obtain ⟨i0, e0, _⟩ := DataW.trod_int hui h0
  simp only [List.cons.injEq, and_true] at e0
  refine ⟨i0, fun f v hv => ?_⟩
  match f, hv with
  | 0, hv => rw [e0]; exact Option.some.inj hv
theorem dec_str {W : World} {s : TypeId} (hus : P.underlying s = some .string) (g : Nat → Value) (hg : ∀ q ∈ [(0, s)], ∃ n x, DataW.trod enc P W 0 (fun _ => true) true n q.2 [g q.1] = some x) :
    ∃ x, ∀ f v, (strLay.cells x)[f]? = some v → g f = v := by
  obtain ⟨n0, x0, h0⟩ := hg (0, s) (by simp)
  obtain ⟨s0, e0, _⟩ := DataW.trod_string hus h0
  simp only [List.cons.injEq, and_true] at e0
  refine ⟨s0, fun f v hv => ?_⟩
  match f, hv with
  | 0, hv => rw [e0]; exact Option.some.inj hv
/-- A message that came in. -/
theorem arg_msg {W : World} {base : Nat} {t i b s o li ls lo : TypeId} {fs : Array Field} {v : Value} {d : DataW H} {p : List MemPlace}
    (ht : P.underlying t = some (.struct fs)) (hlv : leaves P 4 t = [(0, i), (1, li), (2, ls), (3, lo), (4, ls)]) (hC : P.cellsOf t = 5)
    (hus : P.underlying s = some .string) (hui : P.underlying i = some (.int .i64)) (hub : P.underlying b = some .bool)
    (hli : P.underlying li = some (.slice i)) (hls : P.underlying ls = some (.slice s)) (hlo : P.underlying lo = some (.slice o))
    (hvi : leaves P 4 i = [(0, i)]) (hvs : leaves P 4 s = [(0, s)]) (hvo : leaves P 4 o = [(0, i), (1, i), (2, i), (3, i), (4, i), (5, i), (6, b), (7, i), (8, i), (9, s), (10, s)])
    (hci : P.cellsOf i = 1) (hcs : P.cellsOf s = 1) (hco : P.cellsOf o = 11)
    (hv : Value.okWide P W .any base t v) (h : DataW.Trod enc P W 0 (fun _ => true) true t v d p) (hlt : ∀ x ∈ p, x.block < W.heap.size) :
    ∃ (kind : Int) (av aw ao ap : Option Addr) (cv cw co cp : Nat) (vec : List Int) (wants : List ByteArray) (ops : List Opr) (pcs : List ByteArray),
      v = .agg #[.int .i64 kind, .slice av vec.length cv, .slice aw wants.length cw, .slice ao ops.length co, .slice ap pcs.length cp] ∧ RowsAt numLay W av vec ∧ RowsAt strLay W aw wants ∧ RowsAt oprLay W ao ops ∧ RowsAt strLay W ap pcs := by
  obtain ⟨cs, rfl, hcs'⟩ := okWide_struct ht hv
  obtain ⟨fuel, hf⟩ := h
  have hlen : cs.toList.length = P.cellsOf t := by simpa using hcs'
  have hl5 : cs.toList.length = 5 := hlen.trans hC
  have hq : ∀ q ∈ [(0, i), (1, li), (2, ls), (3, lo), (4, ls)], ∃ n y, DataW.trod enc P W 0 (fun _ => true) true n q.2 [cs.toList.getD q.1 default] = some y ∧ ∀ z ∈ y.2, z.block < W.heap.size := by
    intro q hq
    obtain ⟨n', y, hy, hz⟩ := trod_leaf_in 4 t fuel cs.toList _ hlen hf q (by rw [hlv]; exact hq)
    have hq1 : q.1 < 5 := by simp at hq; rcases hq with rfl | rfl | rfl | rfl | rfl <;> simp
    refine ⟨n', y, ?_, fun z h => hlt z (hz z h)⟩
    have e1 : (cs.toList.drop q.1).take 1 = [cs.toList.getD q.1 default] := by
      rw [List.drop_eq_getElem_cons (by omega)]
      rw [List.getD_eq_getElem?_getD, List.getElem?_eq_getElem (show q.1 < cs.toList.length by omega)]
      rfl
    rw [← e1]
    exact hy
  obtain ⟨n0, y0, h0, _⟩ := hq (0, i) (by simp)
  obtain ⟨n1, y1, h1, z1⟩ := hq (1, li) (by simp)
  obtain ⟨n2, y2, h2, z2⟩ := hq (2, ls) (by simp)
  obtain ⟨n3, y3, h3, z3⟩ := hq (3, lo) (by simp)
  obtain ⟨n4, y4, h4, z4⟩ := hq (4, ls) (by simp)
  obtain ⟨kind, e0, _⟩ := DataW.trod_int hui h0
  obtain ⟨av, cv, vec, e1, r1, _, _⟩ := rows_of_trod (L := numLay) (by decide) hli hvi hci (dec_int hui) h1 z1 (by simp [numLay])
  obtain ⟨aw, cw, wants, e2, r2, _, _⟩ := rows_of_trod (L := strLay) (by decide) hls hvs hcs (dec_str hus) h2 z2 (by simp [strLay])
  obtain ⟨ao, co, ops, e3, r3, _, _⟩ := rows_of_trod (L := oprLay) (by decide) hlo hvo hco (fun g hg => dec_op hus hui hub g hg) h3 z3 (by simp [oprLay])
  obtain ⟨ap, cp, pcs, e4, r4, _, _⟩ := rows_of_trod (L := strLay) (by decide) hls hvs hcs (dec_str hus) h4 z4 (by simp [strLay])
  refine ⟨kind, av, aw, ao, ap, cv, cw, co, cp, vec, wants, ops, pcs, ?_, r1, r2, r3, r4⟩
  congr 1
  apply Array.toList_inj.1
  simp only [List.cons.injEq, and_true] at e0
  obtain ⟨l, hl⟩ : ∃ l, cs.toList = l := ⟨_, rfl⟩
  rw [hl] at e0 e1 e2 e3 e4 hl5 ⊢
  match l, hl5 with
  | [a, b, c, d, e], _ =>
    simp at e0 e1 e2 e3 e4
    rw [e0, e1, e2, e3, e4]
end
end Go.Proofs.YtaimbhphepopmaaDoor

namespace Go.Proofs.YtaimbhphepopmaaDoor
open Go Go.RowKit Go.Lib

def bigN (n : Nat) (s : ByteArray) : Bool := decide (n < s.size)
def bigOp (x : Opr) : Bool := decide (200 < x.name.size) || decide (1000 < x.man.size)
def fewM (m : Msg) : Bool := decide (m.vec.length ≤ 50) && decide (m.wants.length ≤ 50) && decide (m.ops.length ≤ 50) && decide (m.pcs.length ≤ 50) && !m.wants.any (bigN 100) && !m.ops.any bigOp && !m.pcs.any (bigN 500)
theorem fewM_iff {m : Msg} : fewM m = true ↔ m.vec.length ≤ 50 ∧ m.wants.length ≤ 50 ∧ m.ops.length ≤ 50 ∧ m.pcs.length ≤ 50 ∧ (∀ x ∈ m.wants, bigN 100 x = false) ∧ (∀ x ∈ m.ops, bigOp x = false) ∧ (∀ x ∈ m.pcs, bigN 500 x = false) := by
  unfold fewM
  simp only [Bool.and_eq_true, decide_eq_true_eq, Bool.not_eq_true', List.any_eq_false, Bool.not_eq_true]
  constructor
  · rintro ⟨⟨⟨⟨⟨⟨a, b⟩, c⟩, d⟩, e⟩, f⟩, g⟩; exact ⟨a, b, c, d, e, f, g⟩
  · rintro ⟨a, b, c, d, e, f, g⟩; exact ⟨⟨⟨⟨⟨⟨a, b⟩, c⟩, d⟩, e⟩, f⟩, g⟩
theorem few_no {m : Msg} (h : ¬ fewM m = true) : fewM m = false := by simpa using h
theorem few_l1 {m : Msg} (h : 50 < m.vec.length) : fewM m = false := few_no fun e => by have := (fewM_iff.1 e).1; omega
theorem few_l2 {m : Msg} (h : 50 < m.wants.length) : fewM m = false := few_no fun e => by have := (fewM_iff.1 e).2.1; omega
theorem few_l3 {m : Msg} (h : 50 < m.ops.length) : fewM m = false := few_no fun e => by have := (fewM_iff.1 e).2.2.1; omega
theorem few_l4 {m : Msg} (h : 50 < m.pcs.length) : fewM m = false := few_no fun e => by have := (fewM_iff.1 e).2.2.2.1; omega
theorem few_w {m : Msg} {x : ByteArray} (hx : x ∈ m.wants) (h : bigN 100 x = true) : fewM m = false := few_no fun e => by rw [(fewM_iff.1 e).2.2.2.2.1 x hx] at h; cases h
theorem few_o {m : Msg} {x : Opr} (hx : x ∈ m.ops) (h : bigOp x = true) : fewM m = false := few_no fun e => by rw [(fewM_iff.1 e).2.2.2.2.2.1 x hx] at h; cases h
theorem few_p {m : Msg} {x : ByteArray} (hx : x ∈ m.pcs) (h : bigN 500 x = true) : fewM m = false := few_no fun e => by rw [(fewM_iff.1 e).2.2.2.2.2.2 x hx] at h; cases h
theorem all_gone {α : Type} {l : List α} {p : α → Bool} (h : ∀ j y, j < l.length → l[j]? = some y → p y = false) : ∀ x ∈ l, p x = false := fun x hx => by
  obtain ⟨j, hj, e⟩ := List.mem_iff_getElem.1 hx
  exact h j x hj (by rw [List.getElem?_eq_getElem hj, e])
theorem few_yes {m : Msg} (g1 : ¬ 50 < m.vec.length) (g2 : ¬ 50 < m.wants.length) (g3 : ¬ 50 < m.ops.length) (g4 : ¬ 50 < m.pcs.length)
    (h2 : ∀ j y, j < m.wants.length → m.wants[j]? = some y → bigN 100 y = false) (h3 : ∀ j y, j < m.ops.length → m.ops[j]? = some y → bigOp y = false) (h4 : ∀ j y, j < m.pcs.length → m.pcs[j]? = some y → bigN 500 y = false) : fewM m = true :=
  fewM_iff.2 ⟨by omega, by omega, by omega, by omega, all_gone h2, all_gone h3, all_gone h4⟩
set_option maxRecDepth 100000 in
set_option maxHeartbeats 6400000 in
theorem mfew_any (kind : Int) (av aw ao ap : Option Addr) (cv cw co cp : Nat) (vec : List Int) (wants : List ByteArray) (ops : List Opr) (pcs : List ByteArray) (w : World) (hw : RowsAt strLay w aw wants) (hp : RowsAt oprLay w ao ops) (hc : RowsAt strLay w ap pcs) :
    Calls Tryd.prog 6 #[.agg #[.int .i64 kind, .slice av vec.length cv, .slice aw wants.length cw, .slice ao ops.length co, .slice ap pcs.length cp]] w fun e w' => e = .returned (.bool (fewM ⟨kind, vec, wants, ops, pcs⟩)) ∧ Below w.heap.size w w' := by
  have hbx := (Below.refl w.heap.size w).alloc (Nat.le_refl _) (.cells #[.int .i64 kind, .slice av vec.length cv, .slice aw wants.length cw, .slice ao ops.length co, .slice ap pcs.length cp] 26)
  have hbox := VarAt.new w #[.int .i64 kind, .slice av vec.length cv, .slice aw wants.length cw, .slice ao ops.length co, .slice ap pcs.length cp] 26
  have hbf := hbx
  have hq2 := hw.keeps hbx
  have hq3 := hp.keeps hbx
  have hq4 := hc.keeps hbx
  obtain ⟨W0, hW0⟩ : ∃ W0, W0 = w.alloc (.cells #[.int .i64 kind, .slice av vec.length cv, .slice aw wants.length cw, .slice ao ops.length co, .slice ap pcs.length cp] 26) := ⟨_, rfl⟩
  rw [← hW0] at hbx hbox hq2 hq3 hq4
  have HW := Lib.hid hq2
  have HO := Lib.hid hq3
  have HC := Lib.hid hq4
  clear hq2 hq3 hq4 hw hp hc
  have HL1 := Lib.hid (fun h => few_l1 (m := ⟨kind, vec, wants, ops, pcs⟩) h)
  have HL2 := Lib.hid (fun h => few_l2 (m := ⟨kind, vec, wants, ops, pcs⟩) h)
  have HL3 := Lib.hid (fun h => few_l3 (m := ⟨kind, vec, wants, ops, pcs⟩) h)
  have HL4 := Lib.hid (fun h => few_l4 (m := ⟨kind, vec, wants, ops, pcs⟩) h)
  have HV2 := Lib.hid (fun x hx h => few_w (m := ⟨kind, vec, wants, ops, pcs⟩) (x := x) hx h)
  have HV3 := Lib.hid (fun x hx h => few_o (m := ⟨kind, vec, wants, ops, pcs⟩) (x := x) hx h)
  have HV4 := Lib.hid (fun x hx h => few_p (m := ⟨kind, vec, wants, ops, pcs⟩) (x := x) hx h)
  have HY := Lib.hid (few_yes (m := ⟨kind, vec, wants, ops, pcs⟩))
  dsimp only at HL1 HL2 HL3 HL4 HV2 HV3 HV4 HY
  generalize fewM _ = q at *
  by_cases g1 : 50 < vec.length
  · have gd1 : decide ((50 : Int) < (vec.length : Int)) = true := decide_eq_true (by omega)
    have ge1 : decide (50 < vec.length) = true := decide_eq_true (by omega)
    have Hk := Lib.hid (HL1.out g1)
    go_enter Tryd.func6, Tryd.ntmps6
    go_wp2_with fail
    go_ret
    exact ⟨ret_bool Hk.out.symm, hbf⟩
  have gd1 : decide ((50 : Int) < (vec.length : Int)) = false := decide_eq_false (by omega)
  have ge1 : decide (50 < vec.length) = false := decide_eq_false (by omega)
  by_cases g2 : 50 < wants.length
  · have gd2 : decide ((50 : Int) < (wants.length : Int)) = true := decide_eq_true (by omega)
    have ge2 : decide (50 < wants.length) = true := decide_eq_true (by omega)
    have Hk := Lib.hid (HL2.out g2)
    go_enter Tryd.func6, Tryd.ntmps6
    go_wp2_with fail
    go_ret
    exact ⟨ret_bool Hk.out.symm, hbf⟩
  have gd2 : decide ((50 : Int) < (wants.length : Int)) = false := decide_eq_false (by omega)
  have ge2 : decide (50 < wants.length) = false := decide_eq_false (by omega)
  by_cases g3 : 50 < ops.length
  · have gd3 : decide ((50 : Int) < (ops.length : Int)) = true := decide_eq_true (by omega)
    have ge3 : decide (50 < ops.length) = true := decide_eq_true (by omega)
    have Hk := Lib.hid (HL3.out g3)
    go_enter Tryd.func6, Tryd.ntmps6
    go_wp2_with fail
    go_ret
    exact ⟨ret_bool Hk.out.symm, hbf⟩
  have gd3 : decide ((50 : Int) < (ops.length : Int)) = false := decide_eq_false (by omega)
  have ge3 : decide (50 < ops.length) = false := decide_eq_false (by omega)
  by_cases g4 : 50 < pcs.length
  · have gd4 : decide ((50 : Int) < (pcs.length : Int)) = true := decide_eq_true (by omega)
    have ge4 : decide (50 < pcs.length) = true := decide_eq_true (by omega)
    have Hk := Lib.hid (HL4.out g4)
    go_enter Tryd.func6, Tryd.ntmps6
    go_wp2_with fail
    go_ret
    exact ⟨ret_bool Hk.out.symm, hbf⟩
  have gd4 : decide ((50 : Int) < (pcs.length : Int)) = false := decide_eq_false (by omega)
  have ge4 : decide (50 < pcs.length) = false := decide_eq_false (by omega)
  go_enter Tryd.func6, Tryd.ntmps6
  go_wp2_with fail
  rw [← hW0]
  clear hW0
  go_loop [3] (fun i => ∃ k : Nat, k ≤ wants.length ∧ i = .int .i64 k ∧ Hid (∀ j y, j < k → wants[j]? = some y → bigN 100 y = false)) (fun i => wants.length - (RowKit.intOf i).toNat)
  case atStart => exact ⟨0, Nat.zero_le _, rfl, Lib.hid (fun j _ hj => absurd hj (Nat.not_lt_zero _))⟩
  case round =>
    obtain ⟨k, hk, rfl, Hk⟩ := hrel
    have x2 := hbox.2.2 2 _ rfl
    by_cases hlt : k < wants.length
    · obtain ⟨y, hy⟩ := at_some hlt
      obtain ⟨b1, off, rfl, hbl, c0⟩ := str_at HW.out hy
      have Hy := Lib.hid hy
      have Hno := Lib.hid (fun h => HV2.out y (List.mem_of_getElem? hy) h)
      clear hy
      by_cases t0 : 100 < y.size
      · have d0 : decide ((100 : Int) < (y.size : Int)) = true := decide_eq_true (by omega)
        have d0' : decide (100 < y.size) = true := decide_eq_true (by omega)
        have Hok := Lib.hid (Hno.out (by unfold bigN; simp [t0]))
        go_wp2_with fail
        go_ret
        exact ⟨ret_bool Hok.out.symm, hbx⟩
      have d0 : decide ((100 : Int) < (y.size : Int)) = false := decide_eq_false (by omega)
      have d0' : decide (100 < y.size) = false := decide_eq_false (by omega)
      have Hok := Lib.hid (show bigN 100 y = false by unfold bigN; simp; omega)
      go_wp2_with fail
      go_round
      case rel =>
        refine ⟨k + 1, by omega, by go_num, Lib.hid (fun j z hj hz => ?_)⟩
        by_cases e : j = k
        · subst e
          rw [Hy.out] at hz
          cases hz
          exact Hok.out
        · exact Hk.out j z (by omega) hz
      case measure => simp [RowKit.intOf]; omega
    obtain rfl : k = wants.length := by omega
    have Hwants := Lib.hid Hk.out
    clear Hk hk hlt
    go_wp2_with fail
    clear x2
    go_loop [4] (fun i => ∃ k : Nat, k ≤ ops.length ∧ i = .int .i64 k ∧ Hid (∀ j y, j < k → ops[j]? = some y → bigOp y = false)) (fun i => ops.length - (RowKit.intOf i).toNat)
    case atStart => exact ⟨0, Nat.zero_le _, rfl, Lib.hid (fun j _ hj => absurd hj (Nat.not_lt_zero _))⟩
    case round =>
      obtain ⟨k, hk, rfl, Hk⟩ := hrel
      have x3 := hbox.2.2 3 _ rfl
      by_cases hlt : k < ops.length
      · obtain ⟨y, hy⟩ := at_some hlt
        obtain ⟨b1, off, rfl, hbl, c0, c1, c2, c3, c4, c5, c6, c7, c8, c9, c10⟩ := opr_at HO.out hy
        have Hy := Lib.hid hy
        have Hno := Lib.hid (fun h => HV3.out y (List.mem_of_getElem? hy) h)
        clear hy
        by_cases t0 : 200 < y.name.size
        · have d0 : decide ((200 : Int) < (y.name.size : Int)) = true := decide_eq_true (by omega)
          have d0' : decide (200 < y.name.size) = true := decide_eq_true (by omega)
          have Hok := Lib.hid (Hno.out (by unfold bigOp; simp [t0]))
          go_wp2_with fail
          go_ret
          exact ⟨ret_bool Hok.out.symm, hbx⟩
        have d0 : decide ((200 : Int) < (y.name.size : Int)) = false := decide_eq_false (by omega)
        have d0' : decide (200 < y.name.size) = false := decide_eq_false (by omega)
        by_cases t1 : 1000 < y.man.size
        · have d1 : decide ((1000 : Int) < (y.man.size : Int)) = true := decide_eq_true (by omega)
          have d1' : decide (1000 < y.man.size) = true := decide_eq_true (by omega)
          have Hok := Lib.hid (Hno.out (by unfold bigOp; simp [t1]))
          go_wp2_with fail
          go_ret
          exact ⟨ret_bool Hok.out.symm, hbx⟩
        have d1 : decide ((1000 : Int) < (y.man.size : Int)) = false := decide_eq_false (by omega)
        have d1' : decide (1000 < y.man.size) = false := decide_eq_false (by omega)
        have Hok := Lib.hid (show bigOp y = false by unfold bigOp; simp; omega)
        go_wp2_with fail
        go_round
        case rel =>
          refine ⟨k + 1, by omega, by go_num, Lib.hid (fun j z hj hz => ?_)⟩
          by_cases e : j = k
          · subst e
            rw [Hy.out] at hz
            cases hz
            exact Hok.out
          · exact Hk.out j z (by omega) hz
        case measure => simp [RowKit.intOf]; omega
      obtain rfl : k = ops.length := by omega
      have Hops := Lib.hid Hk.out
      clear Hk hk hlt
      go_wp2_with fail
      clear x3
      go_loop [5] (fun i => ∃ k : Nat, k ≤ pcs.length ∧ i = .int .i64 k ∧ Hid (∀ j y, j < k → pcs[j]? = some y → bigN 500 y = false)) (fun i => pcs.length - (RowKit.intOf i).toNat)
      case atStart => exact ⟨0, Nat.zero_le _, rfl, Lib.hid (fun j _ hj => absurd hj (Nat.not_lt_zero _))⟩
      case round =>
        obtain ⟨k, hk, rfl, Hk⟩ := hrel
        have x4 := hbox.2.2 4 _ rfl
        by_cases hlt : k < pcs.length
        · obtain ⟨y, hy⟩ := at_some hlt
          obtain ⟨b1, off, rfl, hbl, c0⟩ := str_at HC.out hy
          have Hy := Lib.hid hy
          have Hno := Lib.hid (fun h => HV4.out y (List.mem_of_getElem? hy) h)
          clear hy
          by_cases t0 : 500 < y.size
          · have d0 : decide ((500 : Int) < (y.size : Int)) = true := decide_eq_true (by omega)
            have d0' : decide (500 < y.size) = true := decide_eq_true (by omega)
            have Hok := Lib.hid (Hno.out (by unfold bigN; simp [t0]))
            go_wp2_with fail
            go_ret
            exact ⟨ret_bool Hok.out.symm, hbx⟩
          have d0 : decide ((500 : Int) < (y.size : Int)) = false := decide_eq_false (by omega)
          have d0' : decide (500 < y.size) = false := decide_eq_false (by omega)
          have Hok := Lib.hid (show bigN 500 y = false by unfold bigN; simp; omega)
          go_wp2_with fail
          go_round
          case rel =>
            refine ⟨k + 1, by omega, by go_num, Lib.hid (fun j z hj hz => ?_)⟩
            by_cases e : j = k
            · subst e
              rw [Hy.out] at hz
              cases hz
              exact Hok.out
            · exact Hk.out j z (by omega) hz
          case measure => simp [RowKit.intOf]; omega
        obtain rfl : k = pcs.length := by omega
        have Hpcs := Lib.hid Hk.out
        clear Hk hk hlt
        have Hq := Lib.hid (HY.out g1 g2 g3 g4 Hwants.out Hops.out Hpcs.out)
        go_wp2_with fail
        go_ret
        exact ⟨ret_bool Hq.out.symm, hbx⟩

set_option maxRecDepth 100000 in
theorem plain_any (kind : Int) (av aw ao ap : Option Addr) (cv cw co cp : Nat) (vec : List Int) (wants : List ByteArray) (ops : List Opr) (pcs : List ByteArray) (w : World) : Calls Tryd.prog 10 #[.agg #[.int .i64 kind, .slice av vec.length cv, .slice aw wants.length cw, .slice ao ops.length co, .slice ap pcs.length cp]] w fun e w' => e = .returned (.agg #[.int .i64 kind, .slice av vec.length cv, .slice aw wants.length cw, .slice ao ops.length co, .slice ap pcs.length cp]) ∧ Below w.heap.size w w' := by
  go_enter Tryd.func10, Tryd.ntmps10
  go_wp2_with fail
  refine bodyPost_ret (v := .agg #[.int .i64 kind, .slice av vec.length cv, .slice aw wants.length cw, .slice ao ops.length co, .slice ap pcs.length cp]) (by simp [results, Tryd.results10, go_sem]) rfl ⟨rfl, ?_⟩
  exact ((Below.refl w.heap.size w).alloc (Nat.le_refl _) _).alloc (by simp) _

set_option maxRecDepth 100000 in
set_option maxHeartbeats 3200000 in
theorem same_any (kind : Int) (av aw ao ap bv bw bo bp : Option Addr) (cv cw co cp dv dw dO dp : Nat) (vec : List Int) (wants : List ByteArray) (ops : List Opr) (pcs : List ByteArray) (w : World) (l1 : vec.length ≤ 1000) (l2 : wants.length ≤ 1000) (l3 : ops.length ≤ 1000) (l4 : pcs.length ≤ 1000)
    (h1 : RowsAt numLay w av vec) (h2 : RowsAt strLay w aw wants) (h3 : RowsAt oprLay w ao ops) (h4 : RowsAt strLay w ap pcs) (k1 : RowsAt numLay w bv vec) (k2 : RowsAt strLay w bw wants) (k3 : RowsAt oprLay w bo ops) (k4 : RowsAt strLay w bp pcs) :
    Calls Tryd.prog 13 #[.agg #[.int .i64 kind, .slice av vec.length cv, .slice aw wants.length cw, .slice ao ops.length co, .slice ap pcs.length cp], .agg #[.int .i64 kind, .slice bv vec.length dv, .slice bw wants.length dw, .slice bo ops.length dO, .slice bp pcs.length dp]] w fun e w' => e = .returned (.bool true) ∧ Below w.heap.size w w' := by
  have hb0 := ((Below.refl w.heap.size w).alloc (Nat.le_refl _) (.cells #[.int .i64 kind, .slice av vec.length cv, .slice aw wants.length cw, .slice ao ops.length co, .slice ap pcs.length cp] 26)).alloc (by simp) (.cells #[.int .i64 kind, .slice bv vec.length dv, .slice bw wants.length dw, .slice bo ops.length dO, .slice bp pcs.length dp] 33)
  have hX := (VarAt.new w #[.int .i64 kind, .slice av vec.length cv, .slice aw wants.length cw, .slice ao ops.length co, .slice ap pcs.length cp] 26).keeps ((Below.refl _ _).alloc (Nat.le_refl _) (.cells #[.int .i64 kind, .slice bv vec.length dv, .slice bw wants.length dw, .slice bo ops.length dO, .slice bp pcs.length dp] 33)) (by simp)
  have hY : VarAt ((w.alloc (.cells #[.int .i64 kind, .slice av vec.length cv, .slice aw wants.length cw, .slice ao ops.length co, .slice ap pcs.length cp] 26)).alloc (.cells #[.int .i64 kind, .slice bv vec.length dv, .slice bw wants.length dw, .slice bo ops.length dO, .slice bp pcs.length dp] 33)) (w.heap.size + 1) [.int .i64 kind, .slice bv vec.length dv, .slice bw wants.length dw, .slice bo ops.length dO, .slice bp pcs.length dp] := by
    have := VarAt.new (w.alloc (.cells #[.int .i64 kind, .slice av vec.length cv, .slice aw wants.length cw, .slice ao ops.length co, .slice ap pcs.length cp] 26)) #[.int .i64 kind, .slice bv vec.length dv, .slice bw wants.length dw, .slice bo ops.length dO, .slice bp pcs.length dp] 33
    simpa using this
  have H1 := Lib.hid fun W a b => nums_any av bv cv dv vec vec W (by omega) a b
  have H2 := Lib.hid fun W a b => texts_any aw bw cw dw wants wants W (by omega) a b
  have H3 := Lib.hid fun W a b => oprs_any ao bo co dO ops ops W (by omega) a b
  have H4 := Lib.hid fun W a b => texts_any ap bp cp dp pcs pcs W (by omega) a b
  rw [decide_eq_true rfl] at H1 H2 H3 H4
  have g1 := Lib.hid (h1.keeps hb0)
  have g2 := Lib.hid (h2.keeps hb0)
  have g3 := Lib.hid (h3.keeps hb0)
  have g4 := Lib.hid (h4.keeps hb0)
  have j1 := Lib.hid (k1.keeps hb0)
  have j2 := Lib.hid (k2.keeps hb0)
  have j3 := Lib.hid (k3.keeps hb0)
  have j4 := Lib.hid (k4.keeps hb0)
  clear h1 h2 h3 h4 k1 k2 k3 k4
  obtain ⟨W0, hW0⟩ : ∃ W0, W0 = (w.alloc (.cells #[.int .i64 kind, .slice av vec.length cv, .slice aw wants.length cw, .slice ao ops.length co, .slice ap pcs.length cp] 26)).alloc (.cells #[.int .i64 kind, .slice bv vec.length dv, .slice bw wants.length dw, .slice bo ops.length dO, .slice bp pcs.length dp] 33) := ⟨_, rfl⟩
  rw [← hW0] at hb0 hX hY g1 g2 g3 g4 j1 j2 j3 j4
  go_enter Tryd.func13, Tryd.ntmps13
  go_wp2_with fail
  rw [← hW0]
  clear hW0
  refine (H1.out _ g1.out j1.out).mono ?_
  rintro e w1 ⟨rfl, n1, rfl⟩
  have x0 := hX.2.2 2 _ rfl
  have x1 := hX.2.2 3 _ rfl
  have x2 := hX.2.2 4 _ rfl
  have y0 := hY.2.2 2 _ rfl
  have y1 := hY.2.2 3 _ rfl
  have y2 := hY.2.2 4 _ rfl
  go_wp2_with fail
  refine (H2.out _ (RowsAt.keeps g2.out (belowDrew (Below.refl _ _) _)) (RowsAt.keeps j2.out (belowDrew (Below.refl _ _) _))).mono ?_
  rintro e w2 ⟨rfl, n2, rfl⟩
  go_wp2_with fail
  refine (H3.out _ (RowsAt.keeps g3.out (belowDrew (Below.refl _ _) _)) (RowsAt.keeps j3.out (belowDrew (Below.refl _ _) _))).mono ?_
  rintro e w3 ⟨rfl, n3, rfl⟩
  go_wp2_with fail
  refine (H4.out _ (RowsAt.keeps g4.out (belowDrew (Below.refl _ _) _)) (RowsAt.keeps j4.out (belowDrew (Below.refl _ _) _))).mono ?_
  rintro e w4 ⟨rfl, n4, rfl⟩
  go_wp2_with fail
  go_ret
  exact ⟨rfl, belowDrew hb0 _⟩

theorem awE : encMB ⟨1, [], [], [], []⟩ = ⟨#[1, 1, 0, 0]⟩ := by kernel_rfl
theorem awR : errM ⟨1, [], [], [], []⟩ = 0 := by kernel_rfl
theorem awD1 : decM [] = (noMsg, 10) := by kernel_rfl
theorem awD2 : decM [1, 9] = (noMsg, 11) := by kernel_rfl
theorem dec_of {l : List UInt8} {w : World} {er : Int} (h : decM l = (noMsg, er)) (e : Ending) (w' : World) (hp : DecPost l w e w') : e = .returned (.tuple #[.agg #[.int .i64 0, .slice none 0 0, .slice none 0 0, .slice none 0 0, .slice none 0 0], .int .i64 er]) ∧ Below w.heap.size w w' ∨ True ∧ ∃ av aw ao ap cv cw co cp, e = .returned (.tuple #[.agg #[.int .i64 0, .slice av 0 cv, .slice aw 0 cw, .slice ao 0 co, .slice ap 0 cp], .int .i64 er]) ∧ Below w.heap.size w w' := by
  obtain ⟨av, aw, ao, ap, cv, cw, co, cp, he, _, _, _, _, hb⟩ := hp
  rw [h] at he
  exact .inr ⟨trivial, av, aw, ao, ap, cv, cw, co, cp, he, hb⟩
set_option maxRecDepth 100000 in
set_option maxHeartbeats 3200000 in
theorem awake23_any (w : World) : Calls Tryd.prog 7 #[] w fun e w' => e = .returned (.bool true) ∧ Below w.heap.size w w' := by
  have HE := Lib.hid fun W => mencode_any ⟨1, [], [], [], []⟩ none none none none 0 0 0 0 W (by simp) (by simp) (by simp) (by simp) (fun x hx => by cases hx) (RowsAt.nil _ _ _) (RowsAt.nil _ _ _) (RowsAt.nil _ _ _) (RowsAt.nil _ _ _)
  rw [awE, awR] at HE
  have HD1 := Lib.hid fun W => (mdecode_any ⟨#[]⟩ W (by decide)).mono (fun e w' h => dec_of awD1 e w' h)
  have HD2 := Lib.hid fun W => (mdecode_any ⟨#[1, 9]⟩ W (by decide)).mono (fun e w' h => dec_of awD2 e w' h)
  dsimp only [List.length] at HE
  go_enter Tryd.func7, Tryd.ntmps7
  go_wp2_with fail
  refine (HE.out _).mono ?_
  rintro e w1 ⟨rfl, hb1⟩
  go_wp2_with fail
  refine (HD1.out _).mono ?_
  rintro e w2 (⟨rfl, hb2⟩ | ⟨-, av, aw, ao, ap, cv, cw, co, cp, rfl, hb2⟩)
  · have hB2 := (hb1.trans (hb2.mono hb1.size)).alloc (hb1.trans (hb2.mono hb1.size)).size (.cells #[.int .i64 0, .slice none 0 0, .slice none 0 0, .slice none 0 0, .slice none 0 0] 26)
    go_wp2_with fail
    refine (HD2.out _).mono ?_
    rintro e w3 (⟨rfl, hb3⟩ | ⟨-, bv, bw, bo, bp, dv, dw, dO, dp, rfl, hb3⟩)
    · have hB3 := (hB2.trans (hb3.mono hB2.size)).alloc (hB2.trans (hb3.mono hB2.size)).size (.cells #[.int .i64 0, .slice none 0 0, .slice none 0 0, .slice none 0 0, .slice none 0 0] 26)
      go_wp2_with fail
      go_ret
      exact ⟨rfl, hB3⟩
    · have hB3 := (hB2.trans (hb3.mono hB2.size)).alloc (hB2.trans (hb3.mono hB2.size)).size (.cells #[.int .i64 0, .slice bv 0 dv, .slice bw 0 dw, .slice bo 0 dO, .slice bp 0 dp] 26)
      go_wp2_with fail
      go_ret
      exact ⟨rfl, hB3⟩
  · have hB2 := (hb1.trans (hb2.mono hb1.size)).alloc (hb1.trans (hb2.mono hb1.size)).size (.cells #[.int .i64 0, .slice av 0 cv, .slice aw 0 cw, .slice ao 0 co, .slice ap 0 cp] 26)
    go_wp2_with fail
    refine (HD2.out _).mono ?_
    rintro e w3 (⟨rfl, hb3⟩ | ⟨-, bv, bw, bo, bp, dv, dw, dO, dp, rfl, hb3⟩)
    · have hB3 := (hB2.trans (hb3.mono hB2.size)).alloc (hB2.trans (hb3.mono hB2.size)).size (.cells #[.int .i64 0, .slice none 0 0, .slice none 0 0, .slice none 0 0, .slice none 0 0] 26)
      go_wp2_with fail
      go_ret
      exact ⟨rfl, hB3⟩
    · have hB3 := (hB2.trans (hb3.mono hB2.size)).alloc (hB2.trans (hb3.mono hB2.size)).size (.cells #[.int .i64 0, .slice bv 0 dv, .slice bw 0 dw, .slice bo 0 dO, .slice bp 0 dp] 26)
      go_wp2_with fail
      go_ret
      exact ⟨rfl, hB3⟩
end Go.Proofs.YtaimbhphepopmaaDoor

namespace Go.Proofs.YtaimbhphepopmaaDoor
open Go Go.RowKit Go.Lib

set_option maxRecDepth 100000 in
set_option maxHeartbeats 6400000 in
theorem rmencode_1 (av aw ao ap : Option Addr) (cv cw co cp : Nat) (vec : List Int) (wants : List ByteArray) (ops : List Opr) (pcs : List ByteArray) (w : World) (l1 : vec.length ≤ 1000) (l2 : wants.length ≤ 1000) (l3 : ops.length ≤ 1000) (l4 : pcs.length ≤ 1000) (hos : ∀ x ∈ ops, x.name.size ≤ 10000 ∧ x.man.size ≤ 10000) (hv : RowsAt numLay w av vec) (hw : RowsAt strLay w aw wants) (hp : RowsAt oprLay w ao ops) (hc : RowsAt strLay w ap pcs) :
    Calls Tryd.prog 9 #[.agg #[.int .i64 1, .slice av vec.length cv, .slice aw wants.length cw, .slice ao ops.length co, .slice ap pcs.length cp]] w fun e w' => e = .returned (.tuple #[.string (encMB ⟨1, vec, wants, ops, pcs⟩), .int .i64 (errM ⟨1, vec, wants, ops, pcs⟩)]) ∧ Below w.heap.size w w' := by
  have hbx := (Below.refl w.heap.size w).alloc (Nat.le_refl _) (.cells #[.int .i64 1, .slice av vec.length cv, .slice aw wants.length cw, .slice ao ops.length co, .slice ap pcs.length cp] 33)
  have hbox := VarAt.new w #[.int .i64 1, .slice av vec.length cv, .slice aw wants.length cw, .slice ao ops.length co, .slice ap pcs.length cp] 33
  have HRx := Lib.hid (rmright_any 1 av aw ao ap cv cw co cp vec wants ops pcs (w.alloc (.cells #[.int .i64 1, .slice av vec.length cv, .slice aw wants.length cw, .slice ao ops.length co, .slice ap pcs.length cp] 33)) (by omega) (by omega) (by omega) (by omega) (fun x hx => by have := hos x hx; omega) (hv.keeps hbx) (hw.keeps hbx) (hp.keeps hbx) (hc.keeps hbx))
  cases hr : rightM ⟨1, vec, wants, ops, pcs⟩ with
  | false =>
    have HEB := Lib.hid (show encMB ⟨1, vec, wants, ops, pcs⟩ = ⟨#[]⟩ from if_neg (by rw [hr]; simp))
    have HEE := Lib.hid (show errM ⟨1, vec, wants, ops, pcs⟩ = 1 from if_neg (by rw [hr]; simp))
    rw [hr] at HRx
    clear hr hv hw hp hc hos
    generalize encMB _ = eb at *
    generalize errM _ = ee at *
    go_enter Tryd.func9, Tryd.ntmps9
    go_wp2_with fail
    refine HRx.out.mono ?_
    rintro e w1 ⟨rfl, hb1⟩
    go_wp2_with fail
    go_ret2
    exact ⟨ret_se HEB.out.symm HEE.out.symm, hbx.trans (hb1.mono hbx.size)⟩
  | true =>
    have HEB := Lib.hid (show encMB ⟨1, vec, wants, ops, pcs⟩ = ⟨(encM ⟨1, vec, wants, ops, pcs⟩).toArray⟩ from if_pos hr)
    have HEE := Lib.hid (show errM ⟨1, vec, wants, ops, pcs⟩ = 0 from if_pos hr)
    obtain ⟨hk, ⟨v1, v2⟩, ⟨w1', w2'⟩, ⟨o1, o2⟩, p1, p2⟩ := rightM_iff.1 hr
    dsimp only at v1 v2 w1' w2' o1 o2 p1 p2
    rw [hr] at HRx
    have HN := Lib.hid fun n W => rencNum_any n W
    have hn0 := numL_len 1
    have HT := Lib.hid fun W (h : RowsAt strLay W aw wants) => rtexts_any aw cw wants W (by omega) (fun x hx => by have := w2' x hx; simp only [keyOk, beq_iff_eq] at this; omega) h
    have hnv := numL_len (vec.length : Int)
    have HB := Lib.hid (fun k => flatMap_take_len (g := numL) (n := 9) k l1 (fun x _ => numL_len x))
    have hwl : ∀ x ∈ wants, (strL x).length ≤ 41 := fun x hx => by
      have := w2' x hx
      simp only [keyOk, beq_iff_eq] at this
      have := strL_len (s := x) (by omega)
      omega
    have hz2 : (⟨(flatB strL wants).toArray⟩ : ByteArray).size ≤ 1000000 := by
      rw [ba_size]
      have := flatB_len hwl
      omega
    have HS := Lib.hid (show (⟨(numL 1).toArray⟩ : ByteArray) ++ ⟨(numL (vec.length : Int)).toArray⟩ = ⟨((numL 1 ++ numL (vec.length : Int)) ++ (vec.take 0).flatMap numL).toArray⟩ by rw [ba_app]; simp)
    have HFin := Lib.hid (show (⟨(encM ⟨1, vec, wants, ops, pcs⟩).toArray⟩ : ByteArray) = ⟨((numL 1 ++ numL (vec.length : Int)) ++ vec.flatMap numL).toArray⟩ ++ ⟨(flatB strL wants).toArray⟩ by
      rw [encM_1 rfl]
      show (⟨(numL 1).toArray⟩ : ByteArray) ++ ⟨(flatB numL vec).toArray⟩ ++ ⟨(flatB strL wants).toArray⟩ = _
      rw [ba_app (numL 1) (flatB numL vec), show numL 1 ++ flatB numL vec = (numL 1 ++ numL (vec.length : Int)) ++ vec.flatMap numL by unfold flatB; rw [List.append_assoc]])
    have hzs : (⟨(numL 1).toArray⟩ : ByteArray).size ≤ 9 := by rw [ba_size]; exact hn0
    have hzn : (⟨(numL (vec.length : Int)).toArray⟩ : ByteArray).size ≤ 9 := by rw [ba_size]; exact hnv
    have hn1 : (numL 1 ++ numL (vec.length : Int)).length ≤ 18 := by rw [List.length_append]; omega
    have HV := Lib.hid hv
    have HW := Lib.hid hw
    clear hr hk v1 v2 w1' w2' o1 o2 p1 p2 hwl hos hv hw hp hc hn0 hnv
    generalize encMB _ = eb at *
    generalize errM _ = ee at *
    generalize (⟨(encM _).toArray⟩ : ByteArray) = em at *
    have HN1 := Lib.hid fun W => HN.out 1 W
    have HNl := Lib.hid fun W => HN.out (vec.length : Int) W
    generalize numL 1 ++ numL (vec.length : Int) = n0 at *
    generalize (⟨(numL 1).toArray⟩ : ByteArray) = q0 at *
    generalize (⟨(numL (vec.length : Int)).toArray⟩ : ByteArray) = qn at *
    generalize (⟨(flatB strL wants).toArray⟩ : ByteArray) = q2 at *
    have hA1 : ¬ (q0.size + qn.size > 9223372036854775807) := by omega
    have hA2 : q0.size + qn.size ≤ 9223372036854775807 := by omega
    go_enter Tryd.func9, Tryd.ntmps9
    go_wp2_with fail
    refine HRx.out.mono ?_
    rintro e w1 ⟨rfl, hb1⟩
    have hB1 := hbx.trans (hb1.mono hbx.size)
    have hX1 := hbox.keeps hb1 hbox.1
    have x0 := hX1.2.2 0 _ rfl
    go_wp2_with fail
    refine (HN1.out _).mono ?_
    rintro e w2 ⟨rfl, hb2⟩
    have hB2 := hB1.trans (hb2.mono hB1.size)
    have hX2 := hX1.keeps hb2 hX1.1
    clear x0 hX1
    have x0 := hX2.2.2 0 _ rfl
    have x1 := hX2.2.2 1 _ rfl
    go_wp2_with fail
    refine (HNl.out _).mono ?_
    rintro e w3 ⟨rfl, hb3⟩
    have hB3 := hB2.trans (hb3.mono hB2.size)
    have hX3 := hX2.keeps hb3 hX2.1
    clear x0 x1 hX2
    go_wp2_with fail
    go_loopw [4, 5] (fun v i wr => ∃ k : Nat, k ≤ vec.length ∧ i = .int .i64 k ∧ v = .string ⟨(n0 ++ (vec.take k).flatMap numL).toArray⟩ ∧ Below w3.heap.size w3 wr) (fun _ i _ => vec.length - (RowKit.intOf i).toNat)
    case atStart => exact ⟨0, Nat.zero_le _, rfl, by rw [← HS.out], Below.refl _ _⟩
    case round =>
      obtain ⟨k, hk, rfl, rfl, hb⟩ := hrel
      have hXr := hX3.keeps hb hX3.1
      have x1 := hXr.2.2 1 _ rfl
      have x2 := hXr.2.2 2 _ rfl
      have hbl2 := HB.out k
      have hz1 : (⟨(n0 ++ (vec.take k).flatMap numL).toArray⟩ : ByteArray).size ≤ 1000000 := by rw [ba_size, List.length_append]; omega
      by_cases hlt : k < vec.length
      · obtain ⟨y, hy⟩ := at_some hlt
        obtain ⟨b1, off, rfl, hbl, c0⟩ := num_at ((HV.out.keeps hB3).keeps hb) hy
        have Hst := Lib.hid (flatMap_step (g := numL) hy)
        have HNy := Lib.hid (HN.out y wr)
        have hzy : (⟨(numL y).toArray⟩ : ByteArray).size ≤ 9 := by rw [ba_size]; exact numL_len y
        have Hap := Lib.hid (ba_app (n0 ++ (vec.take k).flatMap numL) (numL y))
        clear hy hbl2
        generalize (⟨(n0 ++ (vec.take k).flatMap numL).toArray⟩ : ByteArray) = q1 at *
        generalize (⟨(numL y).toArray⟩ : ByteArray) = qy at *
        have hA3 : ¬ (q1.size + qy.size > 9223372036854775807) := by omega
        have hA4 : q1.size + qy.size ≤ 9223372036854775807 := by omega
        go_wp2_with fail
        refine HNy.out.mono ?_
        rintro e w4 ⟨rfl, hb4⟩
        go_wp2_with fail
        go_roundw
        case rel => exact ⟨k + 1, by omega, by go_num, by rw [Hap.out, Hst.out, List.append_assoc], hb.trans (hb4.mono hb.size)⟩
        case measure => simp [RowKit.intOf]; omega
      · obtain rfl : k = vec.length := by omega
        rw [List.take_length] at hz1 ⊢
        generalize (⟨(n0 ++ vec.flatMap numL).toArray⟩ : ByteArray) = q1 at *
        have hA3 : ¬ (q1.size + q2.size > 9223372036854775807) := by omega
        have hA4 : q1.size + q2.size ≤ 9223372036854775807 := by omega
        go_wp2_with fail
        refine (HT.out _ ((HW.out.keeps hB3).keeps hb)).mono ?_
        rintro e w4 ⟨rfl, hb4⟩
        go_wp2_with fail
        go_ret2
        exact ⟨ret_se (HEB.out.trans HFin.out).symm HEE.out.symm, hB3.trans ((hb.trans (hb4.mono hb.size)).mono hB3.size)⟩

set_option maxRecDepth 100000 in
set_option maxHeartbeats 6400000 in
theorem rmencode_2 (av aw ao ap : Option Addr) (cv cw co cp : Nat) (vec : List Int) (wants : List ByteArray) (ops : List Opr) (pcs : List ByteArray) (w : World) (l1 : vec.length ≤ 1000) (l2 : wants.length ≤ 1000) (l3 : ops.length ≤ 1000) (l4 : pcs.length ≤ 1000) (hos : ∀ x ∈ ops, x.name.size ≤ 10000 ∧ x.man.size ≤ 10000) (hv : RowsAt numLay w av vec) (hw : RowsAt strLay w aw wants) (hp : RowsAt oprLay w ao ops) (hc : RowsAt strLay w ap pcs) :
    Calls Tryd.prog 9 #[.agg #[.int .i64 2, .slice av vec.length cv, .slice aw wants.length cw, .slice ao ops.length co, .slice ap pcs.length cp]] w fun e w' => e = .returned (.tuple #[.string (encMB ⟨2, vec, wants, ops, pcs⟩), .int .i64 (errM ⟨2, vec, wants, ops, pcs⟩)]) ∧ Below w.heap.size w w' := by
  have hbx := (Below.refl w.heap.size w).alloc (Nat.le_refl _) (.cells #[.int .i64 2, .slice av vec.length cv, .slice aw wants.length cw, .slice ao ops.length co, .slice ap pcs.length cp] 33)
  have hbox := VarAt.new w #[.int .i64 2, .slice av vec.length cv, .slice aw wants.length cw, .slice ao ops.length co, .slice ap pcs.length cp] 33
  have HRx := Lib.hid (rmright_any 2 av aw ao ap cv cw co cp vec wants ops pcs (w.alloc (.cells #[.int .i64 2, .slice av vec.length cv, .slice aw wants.length cw, .slice ao ops.length co, .slice ap pcs.length cp] 33)) (by omega) (by omega) (by omega) (by omega) (fun x hx => by have := hos x hx; omega) (hv.keeps hbx) (hw.keeps hbx) (hp.keeps hbx) (hc.keeps hbx))
  cases hr : rightM ⟨2, vec, wants, ops, pcs⟩ with
  | false =>
    have HEB := Lib.hid (show encMB ⟨2, vec, wants, ops, pcs⟩ = ⟨#[]⟩ from if_neg (by rw [hr]; simp))
    have HEE := Lib.hid (show errM ⟨2, vec, wants, ops, pcs⟩ = 1 from if_neg (by rw [hr]; simp))
    rw [hr] at HRx
    clear hr hv hw hp hc hos
    generalize encMB _ = eb at *
    generalize errM _ = ee at *
    go_enter Tryd.func9, Tryd.ntmps9
    go_wp2_with fail
    refine HRx.out.mono ?_
    rintro e w1 ⟨rfl, hb1⟩
    go_wp2_with fail
    go_ret2
    exact ⟨ret_se HEB.out.symm HEE.out.symm, hbx.trans (hb1.mono hbx.size)⟩
  | true =>
    have HEB := Lib.hid (show encMB ⟨2, vec, wants, ops, pcs⟩ = ⟨(encM ⟨2, vec, wants, ops, pcs⟩).toArray⟩ from if_pos hr)
    have HEE := Lib.hid (show errM ⟨2, vec, wants, ops, pcs⟩ = 0 from if_pos hr)
    obtain ⟨hk, ⟨v1, v2⟩, ⟨w1', w2'⟩, ⟨o1, o2⟩, p1, p2⟩ := rightM_iff.1 hr
    dsimp only at v1 v2 w1' w2' o1 o2 p1 p2
    rw [hr] at HRx
    have HN := Lib.hid fun n W => rencNum_any n W
    have hn0 := numL_len 2
    have HT := Lib.hid fun W a c (h : RowsAt strLay W a (ops.map encBA)) => rtexts_any a c (ops.map encBA) W (by rw [List.length_map]; omega) (fun x hx => by obtain ⟨y, hy, rfl⟩ := List.mem_map.1 hx; exact encBA_size (hos y hy).1 (hos y hy).2) h
    rw [List.length_map, ← flat_oprs] at HT
    have hol : ∀ x ∈ ops, (oprL x).length ≤ 20108 := fun x hx => oprL_len (hos x hx).1 (hos x hx).2
    have hz3 : (⟨(flatB oprL ops).toArray⟩ : ByteArray).size ≤ 1000000 := by
      rw [ba_size]
      have := flatB_len hol
      omega
    have HFin := Lib.hid (encM_2 (m := ⟨2, vec, wants, ops, pcs⟩) rfl)
    dsimp only at HFin
    have hzs : (⟨(numL 2).toArray⟩ : ByteArray).size ≤ 9 := by rw [ba_size]; exact hn0
    have HO := Lib.hid hp
    clear hr hk v1 v2 w1' w2' o1 o2 p1 p2 hol hv hw hp hc hn0
    generalize encMB _ = eb at *
    generalize errM _ = ee at *
    generalize (⟨(encM _).toArray⟩ : ByteArray) = em at *
    have HN1 := Lib.hid fun W => HN.out 2 W
    generalize (⟨(numL 2).toArray⟩ : ByteArray) = q0 at *
    generalize (⟨(flatB oprL ops).toArray⟩ : ByteArray) = q3 at *
    have hA1 : ¬ (q0.size + q3.size > 9223372036854775807) := by omega
    have hA2 : q0.size + q3.size ≤ 9223372036854775807 := by omega
    obtain ⟨i0, hi, hz0, hz1, hz2⟩ := info_parts strInfo0
    have Hi := Lib.hid hi
    have Hz0 := Lib.hid hz0
    have Hz1 := Lib.hid hz1
    have Hz2 := Lib.hid hz2
    clear hi hz0 hz1 hz2
    go_enter Tryd.func9, Tryd.ntmps9
    go_wp2_with fail
    refine HRx.out.mono ?_
    rintro e w1 ⟨rfl, hb1⟩
    have hB1 := hbx.trans (hb1.mono hbx.size)
    have hX1 := hbox.keeps hb1 hbox.1
    have x0 := hX1.2.2 0 _ rfl
    go_wp2_with fail
    refine (HN1.out _).mono ?_
    rintro e w2 ⟨rfl, hb2⟩
    have hB2 := hB1.trans (hb2.mono hB1.size)
    have hX2 := hX1.keeps hb2 hX1.1
    clear x0 hX1
    have x0 := hX2.2.2 0 _ rfl
    go_wp2_with fail
    go_loopw [6, 7] (fun v i wr => ∃ k : Nat, k ≤ ops.length ∧ i = .int .i64 k ∧ OwnRows strLay wr w2.heap.size 9 v ((ops.take k).map encBA) ∧ Below w2.heap.size w2 wr) (fun _ i _ => ops.length - (RowKit.intOf i).toNat)
    case atStart => exact ⟨0, Nat.zero_le _, rfl, OwnRows.nil _ _ _ _, Below.refl _ _⟩
    case round =>
      obtain ⟨k, hk, rfl, ho, hb⟩ := hrel
      have hXr := hX2.keeps hb hX2.1
      clear x0
      have x0 := hXr.2.2 0 _ rfl
      have x3 := hXr.2.2 3 _ rfl
      by_cases hlt : k < ops.length
      · obtain ⟨y, hy⟩ := at_some hlt
        obtain ⟨b1, off, rfl, hbl, c0, c1, c2, c3, c4, c5, c6, c7, c8, c9, c10⟩ := opr_at ((HO.out.keeps hB2).keeps hb) hy
        have HBy := Lib.hid (bytes_any y wr (by have := hos y (List.mem_of_getElem? hy); omega) (by have := hos y (List.mem_of_getElem? hy); omega))
        rw [show (⟨(encL y).toArray⟩ : ByteArray) = encBA y from rfl] at HBy
        have Hst := Lib.hid (show (ops.take (k + 1)).map encBA = (ops.take k).map encBA ++ [encBA y] by
          rw [List.take_succ_eq_append_getElem hlt, List.map_append]
          rw [List.getElem?_eq_getElem hlt] at hy
          cases hy
          rfl)
        have hlen : ((ops.take k).map encBA).length = k := by rw [List.length_map, List.length_take, Nat.min_eq_left hk]
        clear hy
        generalize encBA y = qy at *
        generalize (ops.take k).map encBA = out at *
        have hlen' : out.length ≤ 1000 := by omega
        clear hlen
        go_wp2_with fail
        refine HBy.out.mono ?_
        rintro e w5 ⟨rfl, hb5⟩
        have ho5 := ho.below hb5
        have hbs := (hb.trans (hb5.mono hb.size)).size
        go_wp2_with (at_builtin; refine wpList_append_rows _ rfl _ _ 23 rfl strLay w2.heap.size 9 i0 (.string ⟨#[]⟩) 16 Tryd.underlying23 Hi.out Hz0.out Hz1.out Hz2.out rfl (by decide) _ _ rfl (ho5.alloc _) ⟨w5.heap.size, 0, none⟩ 1 qy rfl (cells_new_at _ w5.heap.size #[.string qy] 9 rfl) (by unfold maxLen; omega) (by omega) (by simp; omega) ?_)
        intro v6 w6 ho6 hg6 _
        have hb56 : Below w2.heap.size w5 w6 := ((Below.refl w2.heap.size w5).alloc hbs _).grown hg6 (by simp; omega) (fun j ej => (ho5.lt ej).1)
        have hb6 := (hb.trans (hb5.mono hb.size)).trans hb56
        clear hg6 ho5 ho
        go_wp2_with fail
        go_roundw
        case rel => exact ⟨k + 1, by omega, by go_num, by rw [Hst.out]; exact ho6, hb6⟩
        case measure => simp [RowKit.intOf]; omega
      · obtain rfl : k = ops.length := by omega
        rw [List.take_length] at ho
        obtain ⟨a, c, rfl, hrow, _⟩ := ho.read
        rw [List.length_map]
        go_wp2_with fail
        refine (HT.out _ _ _ hrow).mono ?_
        rintro e w4 ⟨rfl, hb4⟩
        go_wp2_with fail
        go_ret2
        exact ⟨ret_se (HEB.out.trans HFin.out).symm HEE.out.symm, hB2.trans ((hb.trans (hb4.mono hb.size)).mono hB2.size)⟩

set_option maxRecDepth 100000 in
set_option maxHeartbeats 6400000 in
theorem rmencode_3 (av aw ao ap : Option Addr) (cv cw co cp : Nat) (vec : List Int) (wants : List ByteArray) (ops : List Opr) (pcs : List ByteArray) (w : World) (l1 : vec.length ≤ 1000) (l2 : wants.length ≤ 1000) (l3 : ops.length ≤ 1000) (l4 : pcs.length ≤ 1000) (hos : ∀ x ∈ ops, x.name.size ≤ 10000 ∧ x.man.size ≤ 10000) (hv : RowsAt numLay w av vec) (hw : RowsAt strLay w aw wants) (hp : RowsAt oprLay w ao ops) (hc : RowsAt strLay w ap pcs) :
    Calls Tryd.prog 9 #[.agg #[.int .i64 3, .slice av vec.length cv, .slice aw wants.length cw, .slice ao ops.length co, .slice ap pcs.length cp]] w fun e w' => e = .returned (.tuple #[.string (encMB ⟨3, vec, wants, ops, pcs⟩), .int .i64 (errM ⟨3, vec, wants, ops, pcs⟩)]) ∧ Below w.heap.size w w' := by
  have hbx := (Below.refl w.heap.size w).alloc (Nat.le_refl _) (.cells #[.int .i64 3, .slice av vec.length cv, .slice aw wants.length cw, .slice ao ops.length co, .slice ap pcs.length cp] 33)
  have hbox := VarAt.new w #[.int .i64 3, .slice av vec.length cv, .slice aw wants.length cw, .slice ao ops.length co, .slice ap pcs.length cp] 33
  have HRx := Lib.hid (rmright_any 3 av aw ao ap cv cw co cp vec wants ops pcs (w.alloc (.cells #[.int .i64 3, .slice av vec.length cv, .slice aw wants.length cw, .slice ao ops.length co, .slice ap pcs.length cp] 33)) (by omega) (by omega) (by omega) (by omega) (fun x hx => by have := hos x hx; omega) (hv.keeps hbx) (hw.keeps hbx) (hp.keeps hbx) (hc.keeps hbx))
  cases hr : rightM ⟨3, vec, wants, ops, pcs⟩ with
  | false =>
    have HEB := Lib.hid (show encMB ⟨3, vec, wants, ops, pcs⟩ = ⟨#[]⟩ from if_neg (by rw [hr]; simp))
    have HEE := Lib.hid (show errM ⟨3, vec, wants, ops, pcs⟩ = 1 from if_neg (by rw [hr]; simp))
    rw [hr] at HRx
    clear hr hv hw hp hc hos
    generalize encMB _ = eb at *
    generalize errM _ = ee at *
    go_enter Tryd.func9, Tryd.ntmps9
    go_wp2_with fail
    refine HRx.out.mono ?_
    rintro e w1 ⟨rfl, hb1⟩
    go_wp2_with fail
    go_ret2
    exact ⟨ret_se HEB.out.symm HEE.out.symm, hbx.trans (hb1.mono hbx.size)⟩
  | true =>
    have HEB := Lib.hid (show encMB ⟨3, vec, wants, ops, pcs⟩ = ⟨(encM ⟨3, vec, wants, ops, pcs⟩).toArray⟩ from if_pos hr)
    have HEE := Lib.hid (show errM ⟨3, vec, wants, ops, pcs⟩ = 0 from if_pos hr)
    obtain ⟨hk, ⟨v1, v2⟩, ⟨w1', w2'⟩, ⟨o1, o2⟩, p1, p2⟩ := rightM_iff.1 hr
    dsimp only at v1 v2 w1' w2' o1 o2 p1 p2
    rw [hr] at HRx
    have HN := Lib.hid fun n W => rencNum_any n W
    have hn0 := numL_len 3
    have HT := Lib.hid fun W (h : RowsAt strLay W ap pcs) => rtexts_any ap cp pcs W (by omega) (fun x hx => by have := p2 x hx; simp only [pieceOk, Bool.and_eq_true, decide_eq_true_eq] at this; omega) h
    have hpl : ∀ x ∈ pcs, (strL x).length ≤ 265 := fun x hx => by
      have := p2 x hx
      simp only [pieceOk, Bool.and_eq_true, decide_eq_true_eq] at this
      have := strL_len (s := x) (by omega)
      omega
    have hz4 : (⟨(flatB strL pcs).toArray⟩ : ByteArray).size ≤ 1000000 := by
      rw [ba_size]
      have := flatB_len hpl
      omega
    have HFin := Lib.hid (encM_3 (m := ⟨3, vec, wants, ops, pcs⟩) (by show (3 : Int) ≠ 1; omega) (by show (3 : Int) ≠ 2; omega))
    dsimp only at HFin
    have hzs : (⟨(numL 3).toArray⟩ : ByteArray).size ≤ 9 := by rw [ba_size]; exact hn0
    have HC := Lib.hid hc
    clear hr hk v1 v2 w1' w2' o1 o2 p1 p2 hpl hos hv hw hp hc hn0
    generalize encMB _ = eb at *
    generalize errM _ = ee at *
    generalize (⟨(encM _).toArray⟩ : ByteArray) = em at *
    have HN1 := Lib.hid fun W => HN.out 3 W
    generalize (⟨(numL 3).toArray⟩ : ByteArray) = q0 at *
    generalize (⟨(flatB strL pcs).toArray⟩ : ByteArray) = q4 at *
    have hA1 : ¬ (q0.size + q4.size > 9223372036854775807) := by omega
    have hA2 : q0.size + q4.size ≤ 9223372036854775807 := by omega
    go_enter Tryd.func9, Tryd.ntmps9
    go_wp2_with fail
    refine HRx.out.mono ?_
    rintro e w1 ⟨rfl, hb1⟩
    have hB1 := hbx.trans (hb1.mono hbx.size)
    have hX1 := hbox.keeps hb1 hbox.1
    have x0 := hX1.2.2 0 _ rfl
    go_wp2_with fail
    refine (HN1.out _).mono ?_
    rintro e w2 ⟨rfl, hb2⟩
    have hB2 := hB1.trans (hb2.mono hB1.size)
    have hX2 := hX1.keeps hb2 hX1.1
    clear x0 hX1
    have x0 := hX2.2.2 0 _ rfl
    have x4 := hX2.2.2 4 _ rfl
    go_wp2_with fail
    refine (HT.out _ (HC.out.keeps hB2)).mono ?_
    rintro e w4 ⟨rfl, hb4⟩
    go_wp2_with fail
    go_ret2
    exact ⟨ret_se (HEB.out.trans HFin.out).symm HEE.out.symm, hB2.trans (hb4.mono hB2.size)⟩

set_option maxRecDepth 100000 in
set_option maxHeartbeats 6400000 in
theorem rmencode_any (k : Int) (av aw ao ap : Option Addr) (cv cw co cp : Nat) (vec : List Int) (wants : List ByteArray) (ops : List Opr) (pcs : List ByteArray) (w : World) (l1 : vec.length ≤ 1000) (l2 : wants.length ≤ 1000) (l3 : ops.length ≤ 1000) (l4 : pcs.length ≤ 1000) (hos : ∀ x ∈ ops, x.name.size ≤ 10000 ∧ x.man.size ≤ 10000) (hv : RowsAt numLay w av vec) (hw : RowsAt strLay w aw wants) (hp : RowsAt oprLay w ao ops) (hc : RowsAt strLay w ap pcs) :
    Calls Tryd.prog 9 #[.agg #[.int .i64 k, .slice av vec.length cv, .slice aw wants.length cw, .slice ao ops.length co, .slice ap pcs.length cp]] w fun e w' => e = .returned (.tuple #[.string (encMB ⟨k, vec, wants, ops, pcs⟩), .int .i64 (errM ⟨k, vec, wants, ops, pcs⟩)]) ∧ Below w.heap.size w w' := by
  have h : (1 ≤ k ∧ k ≤ 3) ∨ ¬ (1 ≤ k ∧ k ≤ 3) := Decidable.em _
  rcases h with h | h
  · have h' : k = 1 ∨ k = 2 ∨ k = 3 := by omega
    rcases h' with rfl | rfl | rfl
    · exact rmencode_1 av aw ao ap cv cw co cp vec wants ops pcs w l1 l2 l3 l4 hos hv hw hp hc
    · exact rmencode_2 av aw ao ap cv cw co cp vec wants ops pcs w l1 l2 l3 l4 hos hv hw hp hc
    · exact rmencode_3 av aw ao ap cv cw co cp vec wants ops pcs w l1 l2 l3 l4 hos hv hw hp hc
  · have hr : rightM ⟨k, vec, wants, ops, pcs⟩ = false := right_kind_no (fun e => h ⟨e.1, e.2.1⟩)
    have hbx := (Below.refl w.heap.size w).alloc (Nat.le_refl _) (.cells #[.int .i64 k, .slice av vec.length cv, .slice aw wants.length cw, .slice ao ops.length co, .slice ap pcs.length cp] 33)
    have hbox := VarAt.new w #[.int .i64 k, .slice av vec.length cv, .slice aw wants.length cw, .slice ao ops.length co, .slice ap pcs.length cp] 33
    have HRx := Lib.hid (rmright_any k av aw ao ap cv cw co cp vec wants ops pcs (w.alloc (.cells #[.int .i64 k, .slice av vec.length cv, .slice aw wants.length cw, .slice ao ops.length co, .slice ap pcs.length cp] 33)) (by omega) (by omega) (by omega) (by omega) (fun x hx => by have := hos x hx; omega) (hv.keeps hbx) (hw.keeps hbx) (hp.keeps hbx) (hc.keeps hbx))
    have HEB := Lib.hid (show encMB ⟨k, vec, wants, ops, pcs⟩ = ⟨#[]⟩ from if_neg (by rw [hr]; simp))
    have HEE := Lib.hid (show errM ⟨k, vec, wants, ops, pcs⟩ = 1 from if_neg (by rw [hr]; simp))
    rw [hr] at HRx
    clear hr hv hw hp hc hos
    generalize encMB _ = eb at *
    generalize errM _ = ee at *
    go_enter Tryd.func9, Tryd.ntmps9
    go_wp2_with fail
    refine HRx.out.mono ?_
    rintro e w1 ⟨rfl, hb1⟩
    go_wp2_with fail
    go_ret2
    exact ⟨ret_se HEB.out.symm HEE.out.symm, hbx.trans (hb1.mono hbx.size)⟩
end Go.Proofs.YtaimbhphepopmaaDoor

namespace Go.Proofs.YtaimbhphepopmaaDoor
open Go Go.RowKit Go.Lib

theorem few_sizes {m : Msg} (h : fewM m = true) : ∀ x ∈ m.ops, x.name.size ≤ 200 ∧ x.man.size ≤ 1000 := fun x hx => by
  have := (fewM_iff.1 h).2.2.2.2.2.1 x hx
  simp [bigOp] at this
  omega
theorem right_sizes {x : Opr} (h : rightO x = 0) : x.name.size ≤ 24 ∧ x.man.size ≤ 600 := by
  unfold rightO at h
  split at h
  · omega
  · split at h
    · omega
    · rename_i hn
      split at h
      · rename_i hs
        have he : (⟨#[]⟩ : ByteArray).size = 0 := rfl
        have hn2 : (x.kind = 1 ∨ x.kind = 2) → x.name.size ≤ 24 := fun hk => by
          have h0 : rightN x.name.data.toList = 0 := Decidable.not_not.1 fun e => hn ⟨hk, e⟩
          unfold rightN at h0
          split at h0
          · rename_i hr
            simp only [rightL, Bool.and_eq_true, decide_eq_true_eq] at hr
            rw [size_eq]
            exact hr.1.1.1.1.1.2
          · omega
        unfold shapeO at hs
        split at hs
        · rename_i hk
          simp only [Bool.and_eq_true] at hs
          refine ⟨hn2 (.inl hk), ?_⟩
          have := hs.2
          split at this
          · rw [of_decide_eq_true this, he]; omega
          · exact of_decide_eq_true this
        · split at hs
          · rename_i hk
            simp only [Bool.and_eq_true, decide_eq_true_eq] at hs
            exact ⟨hn2 (.inr hk), by rw [hs.2, he]; omega⟩
          · split at hs
            · simp only [Bool.and_eq_true, decide_eq_true_eq] at hs
              exact ⟨by rw [hs.1.2.2, he]; omega, hs.2⟩
            · split at hs
              · simp only [Bool.and_eq_true, decide_eq_true_eq] at hs
                exact ⟨by rw [hs.1.2.2, he]; omega, by rw [hs.2, he]; omega⟩
              · cases hs
      · omega
theorem rightM_sizes {m : Msg} (h : rightM m = true) : ∀ x ∈ m.ops, x.name.size ≤ 24 ∧ x.man.size ≤ 600 := fun x hx => by
  have := (rightM_iff.1 h).2.2.2.1.2 x hx
  simp only [opOk, beq_iff_eq] at this
  exact right_sizes this
theorem encM_len {m : Msg} (h : rightM m = true) : (encM m).length ≤ 60000 := by
  obtain ⟨hk, ⟨v1, v2⟩, ⟨w1, w2⟩, ⟨o1, o2⟩, p1, p2⟩ := rightM_iff.1 h
  have hs := rightM_sizes h
  have f1 := flatB_len (g := numL) (l := m.vec) (n := 9) (fun x _ => numL_len x)
  have f2 := flatB_len (g := strL) (l := m.wants) (n := 41) (fun x hx => by
    have := w2 x hx
    simp only [keyOk, beq_iff_eq] at this
    have := strL_len (s := x) (by omega)
    omega)
  have f3 := flatB_len (g := oprL) (l := m.ops) (n := 800) (fun x hx => by
    have := hs x hx
    have h1 := encL_len (x := x) (by omega) (by omega)
    have h2 := textL_le (s := encL x) (by omega)
    unfold oprL
    omega)
  have f4 := flatB_len (g := strL) (l := m.pcs) (n := 265) (fun x hx => by
    have := p2 x hx
    simp only [pieceOk, Bool.and_eq_true, decide_eq_true_eq] at this
    have := strL_len (s := x) (by omega)
    omega)
  have h0 := numL_len m.kind
  unfold encM
  rw [List.length_append]
  split
  · rw [List.length_append]; omega
  · split <;> omega
theorem encMB_size (m : Msg) : (encMB m).size ≤ 100000 := by
  unfold encMB
  split
  · rename_i h
    have := encM_len h
    rw [ba_size]
    omega
  · exact Nat.zero_le _

set_option maxRecDepth 100000 in
set_option maxHeartbeats 6400000 in
theorem law_sessionEncodes (kind : Int) (av aw ao ap : Option Addr) (cv cw co cp : Nat) (vec : List Int) (wants : List ByteArray) (ops : List Opr) (pcs : List ByteArray) (w : World) (hv : RowsAt numLay w av vec) (hw : RowsAt strLay w aw wants) (hp : RowsAt oprLay w ao ops) (hc : RowsAt strLay w ap pcs) : Calls Tryd.prog 3 #[.agg #[.int .i64 kind, .slice av vec.length cv, .slice aw wants.length cw, .slice ao ops.length co, .slice ap pcs.length cp]] w fun e w' => e = .returned (.bool true) ∧ Below w.heap.size w w' := by
  have hbx := (Below.refl w.heap.size w).alloc (Nat.le_refl _) (.cells #[.int .i64 kind, .slice av vec.length cv, .slice aw wants.length cw, .slice ao ops.length co, .slice ap pcs.length cp] 26)
  have hX0 := VarAt.new w #[.int .i64 kind, .slice av vec.length cv, .slice aw wants.length cw, .slice ao ops.length co, .slice ap pcs.length cp] 26
  have HF := Lib.hid (mfew_any kind av aw ao ap cv cw co cp vec wants ops pcs _ (hw.keeps hbx) (hp.keeps hbx) (hc.keeps hbx))
  have HA := Lib.hid awake23_any
  cases hf : fewM (⟨kind, vec, wants, ops, pcs⟩ : Msg) with
  | false =>
    rw [hf] at HF
    clear hf hv hw hp hc
    go_enter Tryd.func3, Tryd.ntmps3
    go_wp2_with fail
    refine HF.out.mono ?_
    rintro e w1 ⟨rfl, hb1⟩
    have hB1 := hbx.trans (hb1.mono hbx.size)
    go_wp2_with fail
    refine (HA.out _).mono ?_
    rintro e w2 ⟨rfl, hb2⟩
    go_wp2_with fail
    go_ret
    exact ⟨rfl, hB1.trans (hb2.mono hB1.size)⟩
  | true =>
    rw [hf] at HF
    have hsz := few_sizes hf
    obtain ⟨f1, f2, f3, f4, -⟩ := fewM_iff.1 hf
    dsimp only at hsz f1 f2 f3 f4
    have HE := Lib.hid fun W a b c d => mencode_any (⟨kind, vec, wants, ops, pcs⟩ : Msg) av aw ao ap cv cw co cp W (by show vec.length ≤ 1000; omega) (by show wants.length ≤ 1000; omega) (by show ops.length ≤ 1000; omega) (by show pcs.length ≤ 1000; omega) (fun x hx => by have := hsz x hx; omega) a b c d
    have HR := Lib.hid fun W a b c d => rmencode_any kind av aw ao ap cv cw co cp vec wants ops pcs W (by omega) (by omega) (by omega) (by omega) (fun x hx => by have := hsz x hx; omega) a b c d
    have HP := Lib.hid fun W => plain_any kind av aw ao ap cv cw co cp vec wants ops pcs W
    dsimp only at HE
    clear hf hsz
    generalize encMB _ = eb at *
    generalize errM _ = ee at *
    go_enter Tryd.func3, Tryd.ntmps3
    go_wp2_with fail
    refine HF.out.mono ?_
    rintro e w1 ⟨rfl, hb1⟩
    have hB1 := hbx.trans (hb1.mono hbx.size)
    have hX1 := hX0.keeps hb1 hX0.1
    have x0 := hX1.2.2 0 _ rfl
    have x1 := hX1.2.2 1 _ rfl
    have x2 := hX1.2.2 2 _ rfl
    have x3 := hX1.2.2 3 _ rfl
    have x4 := hX1.2.2 4 _ rfl
    go_wp2_with fail
    refine (HE.out _ (hv.keeps hB1) (hw.keeps hB1) (hp.keeps hB1) (hc.keeps hB1)).mono ?_
    rintro e w2 ⟨rfl, hb2⟩
    have hB2 := hB1.trans (hb2.mono hB1.size)
    have hX2 := hX1.keeps hb2 hX1.1
    clear x0 x1 x2 x3 x4
    have x0 := hX2.2.2 0 _ rfl
    have x1 := hX2.2.2 1 _ rfl
    have x2 := hX2.2.2 2 _ rfl
    have x3 := hX2.2.2 3 _ rfl
    have x4 := hX2.2.2 4 _ rfl
    go_wp2_with fail
    refine (HP.out _).mono ?_
    rintro e w3 ⟨rfl, hb3⟩
    have hB3 := hB2.trans (hb3.mono hB2.size)
    clear x0 x1 x2 x3 x4
    go_wp2_with fail
    refine (HR.out _ (hv.keeps hB3) (hw.keeps hB3) (hp.keeps hB3) (hc.keeps hB3)).mono ?_
    rintro e w4 ⟨rfl, hb4⟩
    have hB4 := hB3.trans (hb4.mono hB3.size)
    go_wp2_with fail
    refine (HA.out _).mono ?_
    rintro e w5 ⟨rfl, hb5⟩
    go_wp2_with fail
    go_ret
    exact ⟨rfl, hB4.trans (hb5.mono hB4.size)⟩
end Go.Proofs.YtaimbhphepopmaaDoor

namespace Go.Proofs.YtaimbhphepopmaaDoor
open Go Go.RowKit Go.Lib

theorem dec_lens {l : List UInt8} : (decM l).1.vec.length ≤ 15 ∧ (decM l).1.wants.length ≤ 16 ∧ (decM l).1.ops.length ≤ 20 ∧ (decM l).1.pcs.length ≤ 16 := by
  by_cases h : (decM l).2 = 0
  · obtain ⟨hr, _⟩ := enc_decM (l := l) (m := (decM l).1) (Prod.ext rfl h)
    obtain ⟨_, ⟨v1, _⟩, ⟨w1, _⟩, ⟨o1, _⟩, p1, _⟩ := rightM_iff.1 hr
    exact ⟨v1, w1, o1, p1⟩
  · rw [dec_noneM (l := l) (m := (decM l).1) (e := (decM l).2) rfl h]
    exact ⟨Nat.zero_le _, Nat.zero_le _, Nat.zero_le _, Nat.zero_le _⟩
set_option maxRecDepth 100000 in
set_option maxHeartbeats 6400000 in
theorem law_sessionDecodes (d : ByteArray) (w : World) (hd : d.size ≤ 140737488351232) : Calls Tryd.prog 4 #[.string d] w fun e w' => e = .returned (.bool true) ∧ Below w.heap.size w w' := by
  have HA := Lib.hid awake23_any
  by_cases hbig : 30000 < d.size
  · go_enter Tryd.func4, Tryd.ntmps4
    go_wp2_with fail
    refine (HA.out _).mono ?_
    rintro e w1 ⟨rfl, hb1⟩
    go_wp2_with fail
    go_ret
    exact ⟨rfl, hb1⟩
  have HD := Lib.hid fun W => mdecode_any d W (by omega)
  have HR := Lib.hid fun W => rmdecode_any d W (by omega)
  have hl := dec_lens (l := d.data.toList)
  unfold DecPost at HD HR
  generalize decM d.data.toList = dd at *
  obtain ⟨m, er⟩ := dd
  obtain ⟨kind, vec, wants, ops, pcs⟩ := m
  dsimp only at HD HR hl
  go_enter Tryd.func4, Tryd.ntmps4
  go_wp2_with fail
  refine (HD.out _).mono ?_
  rintro e w1 ⟨av, aw, ao, ap, cv, cw, co, cp, rfl, h1, h2, h3, h4, hb⟩
  have hB1 := hb.alloc hb.size (.cells #[.int .i64 kind, .slice av vec.length cv, .slice aw wants.length cw, .slice ao ops.length co, .slice ap pcs.length cp] 26)
  have hX1 := VarAt.new w1 #[.int .i64 kind, .slice av vec.length cv, .slice aw wants.length cw, .slice ao ops.length co, .slice ap pcs.length cp] 26
  go_wp2_with fail
  refine (HR.out _).mono ?_
  rintro e w2 ⟨bv, bw, bo, bp, ev, ew, eo, ep, rfl, k1, k2, k3, k4, kb⟩
  have hB2 := hB1.trans (kb.mono hB1.size)
  have hX2 := hX1.keeps kb hX1.1
  have hal := (Below.refl w2.heap.size w2).alloc (Nat.le_refl _) (.cells #[.int .i64 kind, .slice bv vec.length ev, .slice bw wants.length ew, .slice bo ops.length eo, .slice bp pcs.length ep] 33)
  have hX3 := hX2.keeps hal hX2.1
  have hY3 := VarAt.new w2 #[.int .i64 kind, .slice bv vec.length ev, .slice bw wants.length ew, .slice bo ops.length eo, .slice bp pcs.length ep] 33
  have hB3 := hB2.alloc hB2.size (.cells #[.int .i64 kind, .slice bv vec.length ev, .slice bw wants.length ew, .slice bo ops.length eo, .slice bp pcs.length ep] 33)
  have hla := (Below.refl w1.heap.size w1).alloc (Nat.le_refl _) (.cells #[.int .i64 kind, .slice av vec.length cv, .slice aw wants.length cw, .slice ao ops.length co, .slice ap pcs.length cp] 26)
  have HS := Lib.hid (same_any kind av aw ao ap bv bw bo bp cv cw co cp ev ew eo ep vec wants ops pcs _ (by omega) (by omega) (by omega) (by omega) (((h1.keeps hla).keeps kb).keeps hal) (((h2.keeps hla).keeps kb).keeps hal) (((h3.keeps hla).keeps kb).keeps hal) (((h4.keeps hla).keeps kb).keeps hal) (k1.keeps hal) (k2.keeps hal) (k3.keeps hal) (k4.keeps hal))
  have x0 := hX3.2.2 0 _ rfl
  have x1 := hX3.2.2 1 _ rfl
  have x2 := hX3.2.2 2 _ rfl
  have x3 := hX3.2.2 3 _ rfl
  have x4 := hX3.2.2 4 _ rfl
  have y0 := hY3.2.2 0 _ rfl
  have y1 := hY3.2.2 1 _ rfl
  have y2 := hY3.2.2 2 _ rfl
  have y3 := hY3.2.2 3 _ rfl
  have y4 := hY3.2.2 4 _ rfl
  go_wp2_with fail
  refine HS.out.mono ?_
  rintro e w4 ⟨rfl, hb4⟩
  have hB4 := hB3.trans (hb4.mono hB3.size)
  go_wp2_with fail
  refine (HA.out _).mono ?_
  rintro e w5 ⟨rfl, hb5⟩
  go_wp2_with fail
  go_ret
  exact ⟨rfl, hB4.trans (hb5.mono hB4.size)⟩
end Go.Proofs.YtaimbhphepopmaaDoor

namespace Go.Proofs.YtaimbhphepopmaaDoor
open Go Go.RowKit Go.Lib

set_option maxRecDepth 100000 in
set_option maxHeartbeats 12800000 in
theorem law_sessionBack (kind : Int) (av aw ao ap : Option Addr) (cv cw co cp : Nat) (vec : List Int) (wants : List ByteArray) (ops : List Opr) (pcs : List ByteArray) (d : ByteArray) (w : World) (hv : RowsAt numLay w av vec) (hw : RowsAt strLay w aw wants) (hp : RowsAt oprLay w ao ops) (hc : RowsAt strLay w ap pcs) (_ : d.size ≤ 140737488351232) : Calls Tryd.prog 5 #[.agg #[.int .i64 kind, .slice av vec.length cv, .slice aw wants.length cw, .slice ao ops.length co, .slice ap pcs.length cp], .string d] w fun e w' => e = .returned (.bool true) ∧ Below w.heap.size w w' := by
  have hbx := (Below.refl w.heap.size w).alloc (Nat.le_refl _) (.cells #[.int .i64 kind, .slice av vec.length cv, .slice aw wants.length cw, .slice ao ops.length co, .slice ap pcs.length cp] 26)
  have hX0 := VarAt.new w #[.int .i64 kind, .slice av vec.length cv, .slice aw wants.length cw, .slice ao ops.length co, .slice ap pcs.length cp] 26
  have HF := Lib.hid (mfew_any kind av aw ao ap cv cw co cp vec wants ops pcs _ (hw.keeps hbx) (hp.keeps hbx) (hc.keeps hbx))
  have HA := Lib.hid awake23_any
  cases hf : fewM (⟨kind, vec, wants, ops, pcs⟩ : Msg) with
  | false =>
    rw [hf] at HF
    clear hf hv hw hp hc
    go_enter Tryd.func5, Tryd.ntmps5
    go_wp2_with fail
    refine HF.out.mono ?_
    rintro e w1 ⟨rfl, hb1⟩
    have hB := hbx.trans (hb1.mono hbx.size)
    by_cases hbig : 30000 < d.size
    · go_wp2_with fail
      refine (HA.out _).mono ?_
      rintro e w7 ⟨rfl, hb7⟩
      go_wp2_with fail
      go_ret
      exact ⟨rfl, hB.trans (hb7.mono hB.size)⟩
    have HDd := Lib.hid fun W => mdecode_any d W (by omega)
    unfold DecPost at HDd
    have hl := dec_lens (l := d.data.toList)
    have HEd := Lib.hid fun h => enc_decM (l := d.data.toList) (m := (decM d.data.toList).1) (Prod.ext rfl h)
    have HNd := Lib.hid fun h => dec_noneM (l := d.data.toList) (m := (decM d.data.toList).1) (e := (decM d.data.toList).2) rfl h
    generalize decM d.data.toList = dd at *
    obtain ⟨⟨kd, vecd, wantsd, opsd, pcsd⟩, er⟩ := dd
    dsimp only at HDd HEd HNd hl
    by_cases her : ¬ er = 0
    · have hno := HNd.out her
      simp only [noMsg, Msg.mk.injEq] at hno
      obtain ⟨rfl, rfl, rfl, rfl, rfl⟩ := hno
      have d1 : (er != 0) = true := by rw [bne_iff_ne]; exact her
      dsimp only [List.length] at HDd hl
      clear her HEd HNd
      go_wp2_with fail
      refine (HDd.out _).mono ?_
      rintro e w7 ⟨pv, pw, po, pp, qv, qw, qo, qp, rfl, -, -, -, -, hb7⟩
      have hB7 := (hB.trans (hb7.mono hB.size)).alloc (hB.trans (hb7.mono hB.size)).size (.cells #[.int .i64 0, .slice pv 0 qv, .slice pw 0 qw, .slice po 0 qo, .slice pp 0 qp] 26)
      go_wp2_with fail
      refine (HA.out _).mono ?_
      rintro e w8 ⟨rfl, hb8⟩
      go_wp2_with fail
      go_ret
      exact ⟨rfl, hB7.trans (hb8.mono hB7.size)⟩
    replace her := Decidable.not_not.1 her
    obtain ⟨hrd, hed⟩ := HEd.out her
    have hsd := rightM_sizes hrd
    have hmb : encMB ⟨kd, vecd, wantsd, opsd, pcsd⟩ = d := by
      unfold encMB
      rw [if_pos hrd, hed, ba_self]
    have hme : errM ⟨kd, vecd, wantsd, opsd, pcsd⟩ = 0 := by
      unfold errM
      rw [if_pos hrd]
    subst her
    have HEn := Lib.hid fun W pv pw po pp qv qw qo qp a b c e => mencode_any ⟨kd, vecd, wantsd, opsd, pcsd⟩ pv pw po pp qv qw qo qp W (by show vecd.length ≤ 1000; omega) (by show wantsd.length ≤ 1000; omega) (by show opsd.length ≤ 1000; omega) (by show pcsd.length ≤ 1000; omega) (fun x hx => by have := hsd x hx; omega) a b c e
    rw [hmb, hme] at HEn
    dsimp only at HEn
    clear HEd HNd hrd hed hsd hmb hme
    go_wp2_with fail
    refine (HDd.out _).mono ?_
    rintro e w7 ⟨pv, pw, po, pp, qv, qw, qo, qp, rfl, p1, p2, p3, p4, hb7⟩
    have hal7 := (Below.refl w7.heap.size w7).alloc (Nat.le_refl _) (.cells #[.int .i64 kd, .slice pv vecd.length qv, .slice pw wantsd.length qw, .slice po opsd.length qo, .slice pp pcsd.length qp] 26)
    have hB7 := (hB.trans (hb7.mono hB.size)).alloc (hB.trans (hb7.mono hB.size)).size (.cells #[.int .i64 kd, .slice pv vecd.length qv, .slice pw wantsd.length qw, .slice po opsd.length qo, .slice pp pcsd.length qp] 26)
    go_wp2_with fail
    refine (HEn.out _ _ _ _ _ _ _ _ _ (p1.keeps hal7) (p2.keeps hal7) (p3.keeps hal7) (p4.keeps hal7)).mono ?_
    rintro e w8 ⟨rfl, hb8⟩
    have hB8 := hB7.trans (hb8.mono hB7.size)
    go_wp2_with fail
    refine (HA.out _).mono ?_
    rintro e w9 ⟨rfl, hb9⟩
    go_wp2_with fail
    go_ret
    exact ⟨rfl, hB8.trans (hb9.mono hB8.size)⟩
  | true =>
    rw [hf] at HF
    have hsz := few_sizes hf
    obtain ⟨f1, f2, f3, f4, -⟩ := fewM_iff.1 hf
    dsimp only at hsz f1 f2 f3 f4
    have HE := Lib.hid fun W a b c d => mencode_any (⟨kind, vec, wants, ops, pcs⟩ : Msg) av aw ao ap cv cw co cp W (by show vec.length ≤ 1000; omega) (by show wants.length ≤ 1000; omega) (by show ops.length ≤ 1000; omega) (by show pcs.length ≤ 1000; omega) (fun x hx => by have := hsz x hx; omega) a b c d
    dsimp only at HE
    have HDs := Lib.hid fun W => mdecode_any (encMB (⟨kind, vec, wants, ops, pcs⟩ : Msg)) W (encMB_size _)
    unfold DecPost at HDs
    clear hf
    cases hr : rightM (⟨kind, vec, wants, ops, pcs⟩ : Msg) with
    | false =>
      have hmb : encMB (⟨kind, vec, wants, ops, pcs⟩ : Msg) = ⟨#[]⟩ := if_neg (by rw [hr]; simp)
      have hme : errM (⟨kind, vec, wants, ops, pcs⟩ : Msg) = 1 := if_neg (by rw [hr]; simp)
      rw [hmb, hme] at HE
      rw [hmb, show (⟨#[]⟩ : ByteArray).data.toList = [] from rfl, awD1] at HDs
      dsimp only [noMsg, List.length] at HDs
      clear hr hmb hme hsz
      go_enter Tryd.func5, Tryd.ntmps5
      go_wp2_with fail
      refine HF.out.mono ?_
      rintro e w1 ⟨rfl, hb1⟩
      have hB1 := hbx.trans (hb1.mono hbx.size)
      have hX1 := hX0.keeps hb1 hX0.1
      have x0 := hX1.2.2 0 _ rfl
      have x1 := hX1.2.2 1 _ rfl
      have x2 := hX1.2.2 2 _ rfl
      have x3 := hX1.2.2 3 _ rfl
      have x4 := hX1.2.2 4 _ rfl
      go_wp2_with fail
      refine (HE.out _ (hv.keeps hB1) (hw.keeps hB1) (hp.keeps hB1) (hc.keeps hB1)).mono ?_
      rintro e w2 ⟨rfl, hb2⟩
      have hB2 := hB1.trans (hb2.mono hB1.size)
      clear x0 x1 x2 x3 x4
      go_wp2_with fail
      refine (HDs.out _).mono ?_
      rintro e w3 ⟨bv, bw, bo, bp, ev, ew, eo, ep, rfl, -, -, -, -, hb3⟩
      have hB3 := (hB2.trans (hb3.mono hB2.size)).alloc (hB2.trans (hb3.mono hB2.size)).size (.cells #[.int .i64 0, .slice bv 0 ev, .slice bw 0 ew, .slice bo 0 eo, .slice bp 0 ep] 26)
      clear hX1 hX0
      go_wp2_with fail
      refine wp_region_quiet_below (by kernel_rfl) (by kernel_rfl) ?_
      repeat (go_big_quiet_step (fail))
      refine wpQuiet_nil ?_
      intro _ hw'
      obtain ⟨⟨dq, osq⟩, hw''⟩ := hw'
      subst hw''
      have hB := hB3.trans ((below_regrown _ dq osq).mono hB3.size)
      go_upto_region 6 with (fail)
      generalize «Sort».grow (redrawn _ dq) osq = wq at *
      by_cases hbig : 30000 < d.size
      · go_wp2_with fail
        refine (HA.out _).mono ?_
        rintro e w7 ⟨rfl, hb7⟩
        go_wp2_with fail
        go_ret
        exact ⟨rfl, hB.trans (hb7.mono hB.size)⟩
      have HDd := Lib.hid fun W => mdecode_any d W (by omega)
      unfold DecPost at HDd
      have hl := dec_lens (l := d.data.toList)
      have HEd := Lib.hid fun h => enc_decM (l := d.data.toList) (m := (decM d.data.toList).1) (Prod.ext rfl h)
      have HNd := Lib.hid fun h => dec_noneM (l := d.data.toList) (m := (decM d.data.toList).1) (e := (decM d.data.toList).2) rfl h
      generalize decM d.data.toList = dd at *
      obtain ⟨⟨kd, vecd, wantsd, opsd, pcsd⟩, er⟩ := dd
      dsimp only at HDd HEd HNd hl
      by_cases her : ¬ er = 0
      · have hno := HNd.out her
        simp only [noMsg, Msg.mk.injEq] at hno
        obtain ⟨rfl, rfl, rfl, rfl, rfl⟩ := hno
        have d1 : (er != 0) = true := by rw [bne_iff_ne]; exact her
        dsimp only [List.length] at HDd hl
        clear her HEd HNd
        go_wp2_with fail
        refine (HDd.out _).mono ?_
        rintro e w7 ⟨pv, pw, po, pp, qv, qw, qo, qp, rfl, -, -, -, -, hb7⟩
        have hB7 := (hB.trans (hb7.mono hB.size)).alloc (hB.trans (hb7.mono hB.size)).size (.cells #[.int .i64 0, .slice pv 0 qv, .slice pw 0 qw, .slice po 0 qo, .slice pp 0 qp] 26)
        go_wp2_with fail
        refine (HA.out _).mono ?_
        rintro e w8 ⟨rfl, hb8⟩
        go_wp2_with fail
        go_ret
        exact ⟨rfl, hB7.trans (hb8.mono hB7.size)⟩
      replace her := Decidable.not_not.1 her
      obtain ⟨hrd, hed⟩ := HEd.out her
      have hsd := rightM_sizes hrd
      have hmb : encMB ⟨kd, vecd, wantsd, opsd, pcsd⟩ = d := by
        unfold encMB
        rw [if_pos hrd, hed, ba_self]
      have hme : errM ⟨kd, vecd, wantsd, opsd, pcsd⟩ = 0 := by
        unfold errM
        rw [if_pos hrd]
      subst her
      have HEn := Lib.hid fun W pv pw po pp qv qw qo qp a b c e => mencode_any ⟨kd, vecd, wantsd, opsd, pcsd⟩ pv pw po pp qv qw qo qp W (by show vecd.length ≤ 1000; omega) (by show wantsd.length ≤ 1000; omega) (by show opsd.length ≤ 1000; omega) (by show pcsd.length ≤ 1000; omega) (fun x hx => by have := hsd x hx; omega) a b c e
      rw [hmb, hme] at HEn
      dsimp only at HEn
      clear HEd HNd hrd hed hsd hmb hme
      go_wp2_with fail
      refine (HDd.out _).mono ?_
      rintro e w7 ⟨pv, pw, po, pp, qv, qw, qo, qp, rfl, p1, p2, p3, p4, hb7⟩
      have hal7 := (Below.refl w7.heap.size w7).alloc (Nat.le_refl _) (.cells #[.int .i64 kd, .slice pv vecd.length qv, .slice pw wantsd.length qw, .slice po opsd.length qo, .slice pp pcsd.length qp] 26)
      have hB7 := (hB.trans (hb7.mono hB.size)).alloc (hB.trans (hb7.mono hB.size)).size (.cells #[.int .i64 kd, .slice pv vecd.length qv, .slice pw wantsd.length qw, .slice po opsd.length qo, .slice pp pcsd.length qp] 26)
      go_wp2_with fail
      refine (HEn.out _ _ _ _ _ _ _ _ _ (p1.keeps hal7) (p2.keeps hal7) (p3.keeps hal7) (p4.keeps hal7)).mono ?_
      rintro e w8 ⟨rfl, hb8⟩
      have hB8 := hB7.trans (hb8.mono hB7.size)
      go_wp2_with fail
      refine (HA.out _).mono ?_
      rintro e w9 ⟨rfl, hb9⟩
      go_wp2_with fail
      go_ret
      exact ⟨rfl, hB8.trans (hb9.mono hB8.size)⟩
    | true =>
      have hmb : encMB (⟨kind, vec, wants, ops, pcs⟩ : Msg) = ⟨(encM (⟨kind, vec, wants, ops, pcs⟩ : Msg)).toArray⟩ := if_pos hr
      have hme : errM (⟨kind, vec, wants, ops, pcs⟩ : Msg) = 0 := if_pos hr
      rw [hme] at HE
      rw [hmb, show (⟨(encM (⟨kind, vec, wants, ops, pcs⟩ : Msg)).toArray⟩ : ByteArray).data.toList = encM (⟨kind, vec, wants, ops, pcs⟩ : Msg) from rfl, dec_encM hr (fun x hx => by have := hsz x hx; omega)] at HDs
      dsimp only at HDs
      rw [hmb] at HE
      have HP := Lib.hid fun W bv bw bo bp ev ew eo ep => plain_any kind bv bw bo bp ev ew eo ep vec wants ops pcs W
      have HS := Lib.hid fun W bv bw bo bp ev ew eo ep a1 a2 a3 a4 b1 b2 b3 b4 => same_any kind av aw ao ap bv bw bo bp cv cw co cp ev ew eo ep vec wants ops pcs W (by omega) (by omega) (by omega) (by omega) a1 a2 a3 a4 b1 b2 b3 b4
      clear hr hmb hme hsz
      generalize (⟨(encM _).toArray⟩ : ByteArray) = eb at *
      go_enter Tryd.func5, Tryd.ntmps5
      go_wp2_with fail
      refine HF.out.mono ?_
      rintro e w1 ⟨rfl, hb1⟩
      have hB1 := hbx.trans (hb1.mono hbx.size)
      have hX1 := hX0.keeps hb1 hX0.1
      have x0 := hX1.2.2 0 _ rfl
      have x1 := hX1.2.2 1 _ rfl
      have x2 := hX1.2.2 2 _ rfl
      have x3 := hX1.2.2 3 _ rfl
      have x4 := hX1.2.2 4 _ rfl
      go_wp2_with fail
      refine (HE.out _ (hv.keeps hB1) (hw.keeps hB1) (hp.keeps hB1) (hc.keeps hB1)).mono ?_
      rintro e w2 ⟨rfl, hb2⟩
      have hB2 := hB1.trans (hb2.mono hB1.size)
      have hX2 := hX1.keeps hb2 hX1.1
      clear x0 x1 x2 x3 x4
      go_wp2_with fail
      refine (HDs.out _).mono ?_
      rintro e w3 ⟨bv, bw, bo, bp, ev, ew, eo, ep, rfl, k1, k2, k3, k4, hb3⟩
      have hal3 := (Below.refl w3.heap.size w3).alloc (Nat.le_refl _) (.cells #[.int .i64 kind, .slice bv vec.length ev, .slice bw wants.length ew, .slice bo ops.length eo, .slice bp pcs.length ep] 26)
      have hX3 := (hX2.keeps hb3 hX2.1).keeps hal3 (Nat.lt_of_lt_of_le hX2.1 hb3.size)
      have hY3 := VarAt.new w3 #[.int .i64 kind, .slice bv vec.length ev, .slice bw wants.length ew, .slice bo ops.length eo, .slice bp pcs.length ep] 26
      have hB3 := (hB2.trans (hb3.mono hB2.size)).alloc (hB2.trans (hb3.mono hB2.size)).size (.cells #[.int .i64 kind, .slice bv vec.length ev, .slice bw wants.length ew, .slice bo ops.length eo, .slice bp pcs.length ep] 26)
      have h1 := k1.keeps hal3
      have h2 := k2.keeps hal3
      have h3 := k3.keeps hal3
      have h4 := k4.keeps hal3
      obtain ⟨yb, hyb⟩ : ∃ yb, yb = w3.heap.size := ⟨_, rfl⟩
      rw [← hyb] at hY3
      go_upto_region 4 with (fail)
      rw [← hyb]
      generalize w3.alloc (.cells #[.int .i64 kind, .slice bv vec.length ev, .slice bw wants.length ew, .slice bo ops.length eo, .slice bp pcs.length ep] 26) = W3 at *
      clear hyb hX1 hX0 hX2 k1 k2 k3 k4 hal3
      have x0 := hX3.2.2 0 _ rfl
      have x1 := hX3.2.2 1 _ rfl
      have x2 := hX3.2.2 2 _ rfl
      have x3 := hX3.2.2 3 _ rfl
      have x4 := hX3.2.2 4 _ rfl
      have y0 := hY3.2.2 0 _ rfl
      have y1 := hY3.2.2 1 _ rfl
      have y2 := hY3.2.2 2 _ rfl
      have y3 := hY3.2.2 3 _ rfl
      have y4 := hY3.2.2 4 _ rfl
      have r0 := cell_regrown x0
      have r1 := cell_regrown x1
      have r2 := cell_regrown x2
      have r3 := cell_regrown x3
      have r4 := cell_regrown x4
      have s0 := cell_regrown y0
      have s1 := cell_regrown y1
      have s2 := cell_regrown y2
      have s3 := cell_regrown y3
      have s4 := cell_regrown y4
      refine wp_region_quiet_below (by kernel_rfl) (by kernel_rfl) ?_
      repeat (go_big_quiet_step (first | exact Calls.regrown_of (HP.out _ _ _ _ _ _ _ _ _) | exact Calls.regrown_of (HS.out _ _ _ _ _ _ _ _ _ ((hv.keeps hB3).keeps (below_regrown _ _ _)) ((hw.keeps hB3).keeps (below_regrown _ _ _)) ((hp.keeps hB3).keeps (below_regrown _ _ _)) ((hc.keeps hB3).keeps (below_regrown _ _ _)) (h1.keeps (below_regrown _ _ _)) (h2.keeps (below_regrown _ _ _)) (h3.keeps (below_regrown _ _ _)) (h4.keeps (below_regrown _ _ _)))))
      refine wpQuiet_nil ?_
      intro _ hw'
      obtain ⟨⟨dq, osq⟩, hw''⟩ := hw'
      subst hw''
      have hB := hB3.trans ((below_regrown W3 dq osq).mono hB3.size)
      clear r0 r1 r2 r3 r4 s0 s1 s2 s3 s4 hX3 hY3 x0 x1 x2 x3 x4 y0 y1 y2 y3 y4
      go_upto_region 6 with (fail)
      generalize «Sort».grow (redrawn W3 dq) osq = wq at *
      by_cases hbig : 30000 < d.size
      · go_wp2_with fail
        refine (HA.out _).mono ?_
        rintro e w7 ⟨rfl, hb7⟩
        go_wp2_with fail
        go_ret
        exact ⟨rfl, hB.trans (hb7.mono hB.size)⟩
      have HDd := Lib.hid fun W => mdecode_any d W (by omega)
      unfold DecPost at HDd
      have hl := dec_lens (l := d.data.toList)
      have HEd := Lib.hid fun h => enc_decM (l := d.data.toList) (m := (decM d.data.toList).1) (Prod.ext rfl h)
      have HNd := Lib.hid fun h => dec_noneM (l := d.data.toList) (m := (decM d.data.toList).1) (e := (decM d.data.toList).2) rfl h
      generalize decM d.data.toList = dd at *
      obtain ⟨⟨kd, vecd, wantsd, opsd, pcsd⟩, er⟩ := dd
      dsimp only at HDd HEd HNd hl
      by_cases her : ¬ er = 0
      · have hno := HNd.out her
        simp only [noMsg, Msg.mk.injEq] at hno
        obtain ⟨rfl, rfl, rfl, rfl, rfl⟩ := hno
        have d1 : (er != 0) = true := by rw [bne_iff_ne]; exact her
        dsimp only [List.length] at HDd hl
        clear her HEd HNd
        go_wp2_with fail
        refine (HDd.out _).mono ?_
        rintro e w7 ⟨pv, pw, po, pp, qv, qw, qo, qp, rfl, -, -, -, -, hb7⟩
        have hB7 := (hB.trans (hb7.mono hB.size)).alloc (hB.trans (hb7.mono hB.size)).size (.cells #[.int .i64 0, .slice pv 0 qv, .slice pw 0 qw, .slice po 0 qo, .slice pp 0 qp] 26)
        go_wp2_with fail
        refine (HA.out _).mono ?_
        rintro e w8 ⟨rfl, hb8⟩
        go_wp2_with fail
        go_ret
        exact ⟨rfl, hB7.trans (hb8.mono hB7.size)⟩
      replace her := Decidable.not_not.1 her
      obtain ⟨hrd, hed⟩ := HEd.out her
      have hsd := rightM_sizes hrd
      have hmb : encMB ⟨kd, vecd, wantsd, opsd, pcsd⟩ = d := by
        unfold encMB
        rw [if_pos hrd, hed, ba_self]
      have hme : errM ⟨kd, vecd, wantsd, opsd, pcsd⟩ = 0 := by
        unfold errM
        rw [if_pos hrd]
      subst her
      have HEn := Lib.hid fun W pv pw po pp qv qw qo qp a b c e => mencode_any ⟨kd, vecd, wantsd, opsd, pcsd⟩ pv pw po pp qv qw qo qp W (by show vecd.length ≤ 1000; omega) (by show wantsd.length ≤ 1000; omega) (by show opsd.length ≤ 1000; omega) (by show pcsd.length ≤ 1000; omega) (fun x hx => by have := hsd x hx; omega) a b c e
      rw [hmb, hme] at HEn
      dsimp only at HEn
      clear HEd HNd hrd hed hsd hmb hme
      go_wp2_with fail
      refine (HDd.out _).mono ?_
      rintro e w7 ⟨pv, pw, po, pp, qv, qw, qo, qp, rfl, p1, p2, p3, p4, hb7⟩
      have hal7 := (Below.refl w7.heap.size w7).alloc (Nat.le_refl _) (.cells #[.int .i64 kd, .slice pv vecd.length qv, .slice pw wantsd.length qw, .slice po opsd.length qo, .slice pp pcsd.length qp] 26)
      have hB7 := (hB.trans (hb7.mono hB.size)).alloc (hB.trans (hb7.mono hB.size)).size (.cells #[.int .i64 kd, .slice pv vecd.length qv, .slice pw wantsd.length qw, .slice po opsd.length qo, .slice pp pcsd.length qp] 26)
      go_wp2_with fail
      refine (HEn.out _ _ _ _ _ _ _ _ _ (p1.keeps hal7) (p2.keeps hal7) (p3.keeps hal7) (p4.keeps hal7)).mono ?_
      rintro e w8 ⟨rfl, hb8⟩
      have hB8 := hB7.trans (hb8.mono hB7.size)
      go_wp2_with fail
      refine (HA.out _).mono ?_
      rintro e w9 ⟨rfl, hb9⟩
      go_wp2_with fail
      go_ret
      exact ⟨rfl, hB8.trans (hb9.mono hB8.size)⟩
end Go.Proofs.YtaimbhphepopmaaDoor

