/-
  Operations that come in: one, or a slice of them. Operations that come in: with the reach of their numbers and the sizes of their names. Rules that came in.
-/
import Derived.Test.YtfbdbjookkogjaaGreatDoorOpsW1
import Derived.Test.YtfbdbjookkogjaaGreatDoorOpened2
import Derived.Test.YtfbdbjookkogjaaGreatDoorViewW3
import Derived.Test.YtfbdbjookkogjaaGreatDoorGlobPure
namespace Go.Proofs.YtfbdbjookkogjaaGreatDoor
open Go Go.RowKit Go.ChangeShapes Go.WideShapes Go.ChangeAt Go.Deep
section
variable {H : Type} {enc : TypeId × Value → H} {P : Program}
/-- A struct that came in by value: what each leaf reads as is the caller's to say (dec). -/
theorem arg_agg {α : Type} {L : Lay α} {W : World} {base : Nat} {t : TypeId} {fs : Array Field} {lv : List (Nat × TypeId)} {v : Value} {d : DataW H} {p : List MemPlace}
    (ht : P.underlying t = some (.struct fs)) (hlv : leaves P 4 t = lv) (hC : P.cellsOf t = L.sz)
    (dec : ∀ g : Nat → Value, (∀ q ∈ lv, ∃ n x, DataW.trod enc P W 0 (fun _ => true) true n q.2 [g q.1] = some x) → ∃ x, ∀ f v, (L.cells x)[f]? = some v → g f = v)
    (hv : Value.okWide P W .any base t v) (h : DataW.Trod enc P W 0 (fun _ => true) true t v d p) (hin : ∀ q ∈ lv, q.1 < L.sz) : ∃ x, v = .agg (L.cells x).toArray := by
  obtain ⟨cs, rfl, hcs⟩ := okWide_struct ht hv
  obtain ⟨fuel, hf⟩ := h
  have hlen : cs.toList.length = P.cellsOf t := by simpa using hcs
  obtain ⟨x, hx⟩ := dec (fun k => cs.toList.getD k default) (by
    intro q hq
    obtain ⟨n', y, hy⟩ := trod_leaf 4 t fuel cs.toList _ hlen hf q (by rw [hlv]; exact hq)
    have hq1 := hin q hq
    refine ⟨n', y, ?_⟩
    have e1 : (cs.toList.drop q.1).take 1 = [cs.toList.getD q.1 default] := by
      rw [List.drop_eq_getElem_cons (by omega)]
      rw [List.getD_eq_getElem?_getD, List.getElem?_eq_getElem (show q.1 < cs.toList.length by omega)]
      rfl
    rw [← e1]
    exact hy)
  refine ⟨x, ?_⟩
  congr 1
  apply Array.toList_inj.1
  apply List.ext_getElem?
  intro f
  by_cases hlt : f < L.sz
  · have h1 : (L.cells x)[f]? = some ((L.cells x)[f]'(by rw [L.len]; exact hlt)) := List.getElem?_eq_getElem _
    have h2 := hx f _ h1
    rw [List.getD_eq_getElem?_getD, List.getElem?_eq_getElem (by omega), Option.getD_some] at h2
    rw [List.getElem?_eq_getElem (by omega), h2]
    exact h1.symm
  · rw [List.getElem?_eq_none (by omega)]
    exact (List.getElem?_eq_none (by simp [L.len]; omega)).symm
theorem dec_op {W : World} {i b s : TypeId} (hus : P.underlying s = some .string) (hui : P.underlying i = some (.int .i64)) (hub : P.underlying b = some .bool)
    (g : Nat → Value) (hg : ∀ q ∈ [(0, i), (1, i), (2, i), (3, i), (4, i), (5, i), (6, b), (7, i), (8, i), (9, s), (10, s)], ∃ n x, DataW.trod enc P W 0 (fun _ => true) true n q.2 [g q.1] = some x) :
    ∃ x, ∀ f v, (oprLay.cells x)[f]? = some v → g f = v := by
  obtain ⟨n0, x0, h0⟩ := hg (0, i) (by simp)
  obtain ⟨n1, x1, h1⟩ := hg (1, i) (by simp)
  obtain ⟨n2, x2, h2⟩ := hg (2, i) (by simp)
  obtain ⟨n3, x3, h3⟩ := hg (3, i) (by simp)
  obtain ⟨n4, x4, h4⟩ := hg (4, i) (by simp)
  obtain ⟨n5, x5, h5⟩ := hg (5, i) (by simp)
  obtain ⟨n6, x6, h6⟩ := hg (6, b) (by simp)
  obtain ⟨n7, x7, h7⟩ := hg (7, i) (by simp)
  obtain ⟨n8, x8, h8⟩ := hg (8, i) (by simp)
  obtain ⟨n9, x9, h9⟩ := hg (9, s) (by simp)
  obtain ⟨n10, x10, h10⟩ := hg (10, s) (by simp)
  obtain ⟨v0, e0, _⟩ := DataW.trod_int hui h0
  obtain ⟨v1, e1, _⟩ := DataW.trod_int hui h1
  obtain ⟨v2, e2, _⟩ := DataW.trod_int hui h2
  obtain ⟨v3, e3, _⟩ := DataW.trod_int hui h3
  obtain ⟨v4, e4, _⟩ := DataW.trod_int hui h4
  obtain ⟨v5, e5, _⟩ := DataW.trod_int hui h5
  obtain ⟨v6, e6, _⟩ := DataW.trod_bool hub h6
  obtain ⟨v7, e7, _⟩ := DataW.trod_int hui h7
  obtain ⟨v8, e8, _⟩ := DataW.trod_int hui h8
  obtain ⟨v9, e9, _⟩ := DataW.trod_string hus h9
  obtain ⟨v10, e10, _⟩ := DataW.trod_string hus h10
  refine ⟨⟨v0, v1, v2, v3, v4, v5, v6, v7, v8, v9, v10⟩, fun f v hv => ?_⟩
  simp only [List.cons.injEq, and_true] at e0 e1 e2 e3 e4 e5 e6 e7 e8 e9 e10
  match f, hv with
  | 0, hv => rw [e0]; exact Option.some.inj hv
  | 1, hv => rw [e1]; exact Option.some.inj hv
  | 2, hv => rw [e2]; exact Option.some.inj hv
  | 3, hv => rw [e3]; exact Option.some.inj hv
  | 4, hv => rw [e4]; exact Option.some.inj hv
  | 5, hv => rw [e5]; exact Option.some.inj hv
  | 6, hv => rw [e6]; exact Option.some.inj hv
  | 7, hv => rw [e7]; exact Option.some.inj hv
  | 8, hv => rw [e8]; exact Option.some.inj hv
  | 9, hv => rw [e9]; exact Option.some.inj hv
  | 10, hv => rw [e10]; exact Option.some.inj hv
theorem arg_op {W : World} {base : Nat} {t i b s : TypeId} {fs : Array Field} {v : Value} {d : DataW H} {p : List MemPlace}
    (ht : P.underlying t = some (.struct fs)) (hlv : leaves P 4 t = [(0, i), (1, i), (2, i), (3, i), (4, i), (5, i), (6, b), (7, i), (8, i), (9, s), (10, s)]) (hC : P.cellsOf t = 11)
    (hus : P.underlying s = some .string) (hui : P.underlying i = some (.int .i64)) (hub : P.underlying b = some .bool)
    (hv : Value.okWide P W .any base t v) (h : DataW.Trod enc P W 0 (fun _ => true) true t v d p) : ∃ x : Opr, v = .agg (Opr.cells x).toArray :=
  arg_agg (L := oprLay) ht hlv hC (fun g hg => dec_op hus hui hub g hg) hv h (by simp [oprLay])
theorem arg_ops {W : World} {base : Nat} {ts : List TypeId} {ds : List (DataW H)} {j : Nat} {t e i b s : TypeId} {v : Value} {d : DataW H} {p : List MemPlace}
    (ht : P.underlying t = some (.slice e)) (hlv : leaves P 4 e = [(0, i), (1, i), (2, i), (3, i), (4, i), (5, i), (6, b), (7, i), (8, i), (9, s), (10, s)]) (hC : P.cellsOf e = 11)
    (hus : P.underlying s = some .string) (hui : P.underlying i = some (.int .i64)) (hub : P.underlying b = some .bool)
    (hv : Value.okWide P W .any base t v) (h : DataW.Trod enc P W 0 (fun _ => true) true t v d p) (hlt : ∀ x ∈ p, x.block < W.heap.size) (hsz : (DataW.weightsEach P ts ds).all (· ≤ reachBytes) = true) (h1 : ts[j]? = some t) (h2 : ds[j]? = some d) :
    ∃ (a : Option Addr) (cap : Nat) (xs : List Opr), v = .slice a xs.length cap ∧ RowsAt oprLay W a xs ∧ xs.length ≤ cap ∧ xs.length * P.bytesOf e ≤ 140737488351232 ∧ (a = none → cap = 0) :=
  arg_leaves (L := oprLay) (by decide) ht hlv hC (fun g hg => dec_op hus hui hub g hg) hv h hlt hsz h1 h2 (by simp [oprLay])
/-- Operations whose device's number is one of 64 bits. -/
def OprB := { x : Opr // -9223372036854775808 ≤ x.who ∧ x.who ≤ 9223372036854775807 }
def oprbLay : Lay OprB := { sz := 11, cells := fun x => Opr.cells x.1, len := fun _ => rfl, one := fun x v hv => oprLay.one x.1 v hv }
theorem arg_ops2 {W : World} {base : Nat} {ts : List TypeId} {ds : List (DataW H)} {j : Nat} {t e i b s : TypeId} {v : Value} {d : DataW H} {p : List MemPlace}
    (ht : P.underlying t = some (.slice e)) (hlv : leaves P 4 e = [(0, i), (1, i), (2, i), (3, i), (4, i), (5, i), (6, b), (7, i), (8, i), (9, s), (10, s)]) (hC : P.cellsOf e = 11) (hby : P.bytesOf e = 104)
    (hus : P.underlying s = some .string) (hui : P.underlying i = some (.int .i64)) (hub : P.underlying b = some .bool)
    (hv : Value.okWide P W .any base t v) (h : DataW.Trod enc P W 0 (fun _ => true) true t v d p) (hlt : ∀ x ∈ p, x.block < W.heap.size) (hsz : (DataW.weightsEach P ts ds).all (· ≤ reachBytes) = true) (h1 : ts[j]? = some t) (h2 : ds[j]? = some d) :
    ∃ (a : Option Addr) (cap : Nat) (xs : List Opr), v = .slice a xs.length cap ∧ RowsAt oprLay W a xs ∧ xs.length ≤ cap ∧ xs.length ≤ 140737488351232 ∧ (a = none → cap = 0) ∧ ∀ x ∈ xs, -9223372036854775808 ≤ x.who := by
  obtain ⟨a, cap, xs, rfl, hr, hc, hl, hn⟩ := arg_leaves (L := oprbLay) (by decide) ht hlv hC (fun g hg => by
    obtain ⟨x, hx⟩ := dec_op hus hui hub g hg
    obtain ⟨n1, y1, h1⟩ := hg (1, i) (by simp)
    obtain ⟨v1, e1, _, hwf⟩ := DataW.trod_int hui h1
    simp only [List.cons.injEq, and_true] at e1
    have h3 := hx 1 (.int .i64 x.who) rfl
    rw [e1] at h3
    cases h3
    have hb : -9223372036854775808 ≤ x.who ∧ x.who ≤ 9223372036854775807 := by
      simp [Lit.wf, IntKind.min, IntKind.max, IntKind.signed, IntKind.bits] at hwf
      omega
    exact ⟨⟨x, hb⟩, hx⟩) hv h hlt hsz h1 h2 (by simp [oprbLay])
  refine ⟨a, cap, xs.map (·.1), by rw [List.length_map], ?_, by rw [List.length_map]; exact hc, by rw [List.length_map]; rw [hby] at hl; omega, hn, ?_⟩
  · intro k x hk
    rw [List.getElem?_map, Option.map_eq_some_iff] at hk
    obtain ⟨y, hy, rfl⟩ := hk
    exact hr k y hy
  · intro x hx
    obtain ⟨y, _, rfl⟩ := List.mem_map.1 hx
    exact y.2.1
end
end Go.Proofs.YtfbdbjookkogjaaGreatDoor

namespace Go.Proofs.YtfbdbjookkogjaaGreatDoor
open Go Go.RowKit Go.ChangeShapes Go.WideShapes Go.ChangeAt Go.Deep
theorem weightsAll_memW {H : Type} {P : Program} {e : TypeId} : ∀ {l : List (DataW H)} {d : DataW H}, d ∈ l → ∀ n ∈ d.weights P e, n ∈ DataW.weightsAll P e l
  | d' :: r, d, hd, n, hn => by
    simp only [DataW.weightsAll, List.mem_append]
    rcases List.mem_cons.1 hd with rfl | h
    · exact .inl hn
    · exact .inr (weightsAll_memW h n hn)
section
variable {H : Type} {enc : TypeId × Value → H} {P : Program} {w : World} {base : Nat} {spare : Nat → Bool} {held : Bool}
theorem trod_leafW : ∀ (d : Nat) (t : TypeId) (fuel : Nat) (cs : List Value) (x : DataW H × List MemPlace), cs.length = P.cellsOf t → DataW.trod enc P w base spare held fuel t cs = some x →
    ∀ q ∈ leaves P d t, ∃ n y, DataW.trod enc P w base spare held n q.2 ((cs.drop q.1).take 1) = some y ∧ ∀ b ∈ y.1.weights P q.2, b ∈ x.1.weights P t := by
  intro d
  induction d with
  | zero => intro t fuel cs x _ _ q hq; simp [leaves] at hq
  | succ d ih =>
    intro t fuel cs x hlen h q hq
    unfold leaves at hq
    split at hq
    · rename_i fs hfs
      obtain ⟨ys, n, _, rfl, hl, hyl, hf⟩ := DataW.trod_struct hfs h
      simp only [List.mem_flatMap, List.mem_map, List.mem_filter, decide_eq_true_eq] at hq
      obtain ⟨f, hfm, q', ⟨hq', hlt, hfit⟩, rfl⟩ := hq
      obtain ⟨i, hi⟩ := List.getElem?_of_mem hfm
      have hi' : fs[i]? = some f := by simpa using hi
      have hil : i < ys.length := by rw [hyl]; exact (Array.getElem?_eq_some_iff.1 hi').1
      have h1 := hf i f hi'
      rw [List.getElem?_eq_getElem hil] at h1
      obtain ⟨n', y, hy, hyw⟩ := ih f.type n _ _ (by rw [List.length_take, List.length_drop]; omega) h1 q' hq'
      refine ⟨n', y, ?_, fun b hb => ?_⟩
      · rw [List.drop_take, List.take_take, List.drop_drop, Nat.min_eq_left (by omega)] at hy
        exact hy
      · simp only [DataW.weights, hfs]
        exact DataW.weights_mem_each (j := i) (by simp [hi]) (by rw [List.getElem?_map, List.getElem?_eq_getElem hil]; rfl) b (hyw b hb)
    · split at hq
      · rename_i h1
        simp only [List.mem_singleton] at hq
        subst hq
        refine ⟨fuel, x, ?_, fun b hb => hb⟩
        rw [h1] at hlen
        rw [List.drop_zero, List.take_of_length_le (by omega)]
        exact h
      · simp at hq

theorem arg_leavesW {α : Type} {L : Lay α} {W : World} {ts : List TypeId} {ds : List (DataW H)} {j : Nat} {t e : TypeId} {lv : List (Nat × TypeId)} {v : Value} {d : DataW H} {p : List MemPlace} (hL : 0 < L.sz)
    (ht : P.underlying t = some (.slice e)) (hlv : leaves P 4 e = lv) (hC : P.cellsOf e = L.sz)
    (dec : ∀ g : Nat → Value, (∀ q ∈ lv, ∃ n x, DataW.trod enc P W 0 (fun _ => true) true n q.2 [g q.1] = some x ∧ ∀ b ∈ x.1.weights P q.2, b ≤ 140737488351232) → ∃ x, ∀ f v, (L.cells x)[f]? = some v → g f = v)
    (hv : Value.okWide P W .any base t v) (h : DataW.Trod enc P W 0 (fun _ => true) true t v d p) (hlt : ∀ x ∈ p, x.block < W.heap.size) (hsz : (DataW.weightsEach P ts ds).all (· ≤ reachBytes) = true) (h1 : ts[j]? = some t) (h2 : ds[j]? = some d) (hin : ∀ q ∈ lv, q.1 < L.sz) :
    ∃ (a : Option Addr) (cap : Nat) (xs : List α), v = .slice a xs.length cap ∧ RowsAt L W a xs ∧ xs.length ≤ cap ∧ xs.length * P.bytesOf e ≤ 140737488351232 ∧ (a = none → cap = 0) := by
  obtain ⟨a0, len, cap, rfl⟩ := okWide_slice ht hv
  obtain ⟨fuel, hf⟩ := h
  rcases open_slice ht hf with ⟨hcs, hx⟩ | ⟨a, len', cap', m, n, D, Pl, hcs, _, hl, hm, hmm, hx, hi⟩
  · have hcs' : Value.slice a0 len cap = .slice none 0 0 := by simpa [Value.cells] using hcs
    cases hcs'
    exact ⟨none, 0, [], rfl, RowsAt.nil _ _ _, Nat.le_refl _, by simp, fun _ => rfl⟩
  · have hcs' : Value.slice a0 len cap = .slice (some a) len' cap' := by simpa [Value.cells] using hcs
    cases hcs'
    simp only [if_true] at hmm
    obtain rfl := hmm.symm
    obtain ⟨rfl, hp⟩ := Prod.mk.inj hx
    have hs := sized_slice hsz h1 h2 ht
    simp only [List.length_map, List.length_range, reachBytes] at hs
    rw [hC] at hp
    have hbd : ∀ i, i < len → ∀ b ∈ (D i).weights P e, b ≤ 140737488351232 := fun i hil b hb => by
      have h3 := List.all_eq_true.1 hsz b (DataW.weights_mem_each h1 h2 b (by
        simp only [DataW.weights, ht, List.mem_cons, List.mem_append]
        exact .inr (.inl (weightsAll_memW (List.mem_map.2 ⟨i, List.mem_range.2 hil, rfl⟩) b hb))))
      exact of_decide_eq_true h3
    obtain ⟨xs, hxl, hxs⟩ := list_of_choice (α := α) len (fun i x => ∀ f v, (L.cells x)[f]? = some v → W.cell? (a.add (i * L.sz + f)) = some v) (by
      intro i hil
      obtain ⟨cs', hc, htr⟩ := hi i (by omega)
      rw [hC] at hc
      obtain ⟨_, hcl, hat⟩ := World.cells?_some hc
      obtain ⟨x, hx⟩ := dec (fun k => cs'.getD k default) (by
        intro q hq
        obtain ⟨n', y, hy, hyw⟩ := trod_leafW 4 e n cs' _ (by rw [hcl, hC]) htr q (by rw [hlv]; exact hq)
        have hq1 := hin q hq
        refine ⟨n', y, ?_, fun b hb => hbd i hil b (hyw b hb)⟩
        have e1 : (cs'.drop q.1).take 1 = [cs'.getD q.1 default] := by
          rw [List.drop_eq_getElem_cons (by omega)]
          rw [List.getD_eq_getElem?_getD, List.getElem?_eq_getElem (show q.1 < cs'.length by omega)]
          rfl
        rw [← e1]
        exact hy)
      refine ⟨x, fun f v hv => ?_⟩
      have hfl : f < L.sz := by rw [← L.len x]; exact (List.getElem?_eq_some_iff.1 hv).1
      have hcell := hat f hfl
      have := hx f v hv
      rw [List.getD_eq_getElem?_getD, List.getElem?_eq_getElem (by omega), Option.getD_some] at this
      rw [← Go.Deep.add_add, hcell, List.getElem?_eq_getElem (by omega), this])
    refine ⟨some a, _, xs, by rw [hxl], ?_, by omega, ?_, fun h => by cases h⟩
    · intro k x hk
      have hkl := (List.getElem?_eq_some_iff.1 hk).1
      have h0 := hxs k x hk
      obtain ⟨x0, hx0⟩ : ∃ x0, xs[0]? = some x0 := ⟨_, List.getElem?_eq_getElem (by omega)⟩
      have hc0 : (L.cells x0)[0]? = some ((L.cells x0)[0]'(by rw [L.len]; omega)) := List.getElem?_eq_getElem (by rw [L.len]; omega)
      have hc0' := hxs 0 x0 hx0 0 _ hc0
      have hspot : a.spot = none := by
        cases hsp : a.spot with
        | none => rfl
        | some q =>
          exfalso
          have hq : (a.add (0 * L.sz + 0)).spot = some q := by unfold Addr.add; rw [if_pos (by omega)]; exact hsp
          generalize a.add (0 * L.sz + 0) = z at hc0' hq
          unfold World.cell? at hc0'
          rw [hq] at hc0'
          revert hc0'
          split <;> simp
      obtain ⟨b, off, sp⟩ := a
      simp only at hspot
      subst hspot
      refine ⟨b, off, rfl, ?_, fun f v hv => ?_⟩
      · have hin : MemPlace.cell b off ∈ p := by
          rw [hp]
          refine List.mem_append_left _ ?_
          simp only [MemPlace.row, List.mem_map, List.mem_range]
          refine ⟨0, ?_, by simp⟩
          exact Nat.mul_pos (by omega) hL
        exact hlt _ hin
      · have := h0 f v hv
        have e : ((⟨b, off, none⟩ : Addr).add (k * L.sz + f)) = ⟨b, off + k * L.sz + f, none⟩ := by
          unfold Addr.add
          split <;> simp_all <;> omega
        rwa [e] at this
    · rw [hxl]
      exact Nat.le_trans (Nat.mul_le_mul_right _ (Nat.le_add_right _ _)) hs
/-- Operations whose numbers are of 64 bits, whose names are no longer than a memory. -/
def OprW := { x : Opr // (idOK x.nc x.nw ∧ idOK x.pc x.pw) ∧ x.name.size ≤ 140737488351232 }
def oprwLay : Lay OprW := { sz := 11, cells := fun x => Opr.cells x.1, len := fun _ => rfl, one := fun x v hv => oprLay.one x.1 v hv }
theorem arg_opsW {W : World} {base : Nat} {ts : List TypeId} {ds : List (DataW H)} {j : Nat} {t e i b s : TypeId} {v : Value} {d : DataW H} {p : List MemPlace}
    (ht : P.underlying t = some (.slice e)) (hlv : leaves P 4 e = [(0, i), (1, i), (2, i), (3, i), (4, i), (5, i), (6, b), (7, i), (8, i), (9, s), (10, s)]) (hC : P.cellsOf e = 11) (hby : P.bytesOf e = 104)
    (hus : P.underlying s = some .string) (hui : P.underlying i = some (.int .i64)) (hub : P.underlying b = some .bool)
    (hv : Value.okWide P W .any base t v) (h : DataW.Trod enc P W 0 (fun _ => true) true t v d p) (hlt : ∀ x ∈ p, x.block < W.heap.size) (hsz : (DataW.weightsEach P ts ds).all (· ≤ reachBytes) = true) (h1 : ts[j]? = some t) (h2 : ds[j]? = some d) :
    ∃ (a : Option Addr) (cap : Nat) (xs : List Opr), v = .slice a xs.length cap ∧ RowsAt oprLay W a xs ∧ xs.length ≤ cap ∧ xs.length ≤ 140737488351232 ∧ (a = none → cap = 0) ∧ ∀ x ∈ xs, (idOK x.nc x.nw ∧ idOK x.pc x.pw) ∧ x.name.size ≤ 140737488351232 := by
  obtain ⟨a, cap, xs, rfl, hr, hc, hl, hn⟩ := arg_leavesW (L := oprwLay) (by decide) ht hlv hC (fun g hg => by
    obtain ⟨x, hx⟩ := dec_op hus hui hub g (fun q hq => by
      obtain ⟨n, y, hy, _⟩ := hg q hq
      exact ⟨n, y, hy⟩)
    have num : ∀ k : Nat, (k, i) ∈ [(0, i), (1, i), (2, i), (3, i), (4, i), (5, i), (6, b), (7, i), (8, i), (9, s), (10, s)] → ∀ z : Int, g k = .int .i64 z → -9223372036854775808 ≤ z ∧ z ≤ 9223372036854775807 := fun k hk z hz => by
      obtain ⟨n1, y1, h1, _⟩ := hg (k, i) hk
      obtain ⟨v1, e1, _, hwf⟩ := DataW.trod_int hui h1
      simp only [List.cons.injEq, and_true] at e1
      rw [hz] at e1
      cases e1
      simp [Lit.wf, IntKind.min, IntKind.max, IntKind.signed, IntKind.bits] at hwf
      omega
    have h4 := num 4 (by simp) _ (hx 4 _ rfl)
    have h5 := num 5 (by simp) _ (hx 5 _ rfl)
    have h7 := num 7 (by simp) _ (hx 7 _ rfl)
    have h8 := num 8 (by simp) _ (hx 8 _ rfl)
    obtain ⟨n9, y9, h9, hw9⟩ := hg (9, s) (by simp)
    obtain ⟨v9, e9, rfl, _⟩ := DataW.trod_string hus h9
    simp only [List.cons.injEq, and_true] at e9
    have h93 := hx 9 (.string x.name) rfl
    rw [e9] at h93
    cases h93
    have hs9 := hw9 x.name.data.toList.length (by simp [DataW.weights])
    rw [← Go.Lib.size_eq] at hs9
    exact ⟨⟨x, ⟨⟨h4, h5⟩, h7, h8⟩, hs9⟩, hx⟩) hv h hlt hsz h1 h2 (by simp [oprwLay])
  refine ⟨a, cap, xs.map (·.1), by rw [List.length_map], ?_, by rw [List.length_map]; exact hc, by rw [List.length_map]; rw [hby] at hl; omega, hn, ?_⟩
  · intro k x hk
    rw [List.getElem?_map, Option.map_eq_some_iff] at hk
    obtain ⟨y, hy, rfl⟩ := hk
    exact hr k y hy
  · intro x hx
    obtain ⟨y, _, rfl⟩ := List.mem_map.1 hx
    exact y.2
end
end Go.Proofs.YtfbdbjookkogjaaGreatDoor

namespace Go.Proofs.YtfbdbjookkogjaaGreatDoor
open Go Go.RowKit Go.ChangeShapes Go.WideShapes Go.ChangeAt
section
variable {H : Type} {enc : TypeId × Value → H} {P : Program}
theorem arg_rules {W : World} {base : Nat} {ts : List TypeId} {ds : List (DataW H)} {j : Nat} {t e s i : TypeId} {v : Value} {d : DataW H} {p : List MemPlace}
    (ht : P.underlying t = some (.slice e)) (hlv : leaves P 4 e = [(0, i), (1, s)]) (hC : P.cellsOf e = 2)
    (hus : P.underlying s = some .string) (hui : P.underlying i = some (.int .i64))
    (hv : Value.okWide P W .any base t v) (h : DataW.Trod enc P W 0 (fun _ => true) true t v d p) (hlt : ∀ x ∈ p, x.block < W.heap.size) (hsz : (DataW.weightsEach P ts ds).all (· ≤ reachBytes) = true) (h1 : ts[j]? = some t) (h2 : ds[j]? = some d) :
    ∃ (a : Option Addr) (cap : Nat) (xs : List Rul), v = .slice a xs.length cap ∧ RowsAt rulLay W a xs ∧ xs.length ≤ cap ∧ xs.length * P.bytesOf e ≤ 140737488351232 ∧ (a = none → cap = 0) := by
  refine arg_leaves (L := rulLay) (by decide) ht hlv hC ?_ hv h hlt hsz h1 h2 (by simp [rulLay])
  intro g hg
  obtain ⟨n0, x0, h0⟩ := hg (0, i) (by simp)
  obtain ⟨n1, x1, h1⟩ := hg (1, s) (by simp)
  obtain ⟨i0, e0, _⟩ := DataW.trod_int hui h0
  obtain ⟨s1, e1, _⟩ := DataW.trod_string hus h1
  refine ⟨⟨i0, s1⟩, fun f v hv => ?_⟩
  simp only [List.cons.injEq, and_true] at e0 e1
  match f, hv with
  | 0, hv => rw [e0]; exact Option.some.inj hv
  | 1, hv => rw [e1]; exact Option.some.inj hv
end
end Go.Proofs.YtfbdbjookkogjaaGreatDoor

