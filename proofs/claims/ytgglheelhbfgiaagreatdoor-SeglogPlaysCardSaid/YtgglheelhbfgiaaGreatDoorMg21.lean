/-
  Arguments that are slices of structs of one-cell fields: opened. Of no program. (The first theorem is the guide's, from extra-structs.) Arguments that are slices of structs whose fields may be structs themselves: opened, leaf by leaf. Of no program. Numbers, as they lie in memory; a number of a row of one's own that is written. Of no program. arbourlaw16: few, begins; a list of lists that came in. A list of lists of texts that came in: opened. Of no program. What a law keeps of a disk, a log and its own lists from call to call.
-/
import Derived.Test.YtgglheelhbfgiaaGreatDoorMg20
import Derived.Test.YtgglheelhbfgiaaGreatDoorMg9
import Derived.Deep.Slices
import Derived.Deep.Fields
import Derived.ChangeSame
import Derived.Test.YtgglheelhbfgiaaGreatDoorMg1
import Derived.Test.YtgglheelhbfgiaaGreatDoorMg5
import Derived.Deep.CutRange
namespace Go.Proofs.YtgglheelhbfgiaaGreatDoor
open Go Go.RowKit Go.ChangeShapes Go.WideShapes Go.ChangeAt Go.Deep
section
variable {H : Type} {enc : TypeId × Value → H} {P : Program} {w : World} {base : Nat} {spare : Nat → Bool} {held : Bool}
theorem open_slice_fields {t e : TypeId} {fs : Array Field} {fuel : Nat} {cs : List Value} {x : DataW H × List MemPlace} (ht : P.underlying t = some (.slice e)) (he : P.underlying e = some (.struct fs))
    (hone : oneCellFields P fs = true) (hC : P.cellsOf e = fs.size) (h : DataW.trod enc P w base spare held fuel t cs = some x) :
    (cs = [.slice none 0 0] ∧ x = (.nil, [])) ∨
    ∃ (a : Addr) (len cap m : Nat) (D : Nat → DataW H) (Pl : Nat → List MemPlace), cs = [.slice (some a) len cap] ∧ base ≤ a.block ∧ len ≤ cap ∧ cap ≤ maxLen ∧ m = (if spare a.block then cap else len) ∧
      x = (.slice ((List.range len).map D) ((List.range (m - len)).map fun j => D (len + j)), MemPlace.row a (m * fs.size) ++ (List.range m).flatMap Pl) ∧
      ∀ i, i < m → ∃ (ys : List (DataW H × List MemPlace)) (n : Nat), D i = .agg (ys.map (·.1)) ∧ Pl i = ys.flatMap (·.2) ∧ ys.length = fs.size ∧
        ∀ (j : Nat) (f : Field), fs[j]? = some f → ∃ (v : Value) (y : DataW H × List MemPlace), w.cell? (a.add (i * fs.size + j)) = some v ∧ ys[j]? = some y ∧ DataW.trod enc P w base spare held n f.type [v] = some y := by
  rcases open_slice ht h with h0 | ⟨a, len, cap, m, n, D, Pl, hcs, hb, hl, hm, hmm, hx, hi⟩
  · exact .inl h0
  · refine .inr ⟨a, len, cap, m, D, Pl, hcs, hb, hl, hm, hmm, by rw [hC] at hx; exact hx, fun i him => ?_⟩
    obtain ⟨cs', hc, ht'⟩ := hi i him
    rw [hC] at hc
    obtain ⟨ys, n', hn', hy, hlen, hyl, hf⟩ := DataW.trod_struct he ht'
    obtain ⟨_, hcl, hat⟩ := World.cells?_some hc
    simp only [Prod.mk.injEq] at hy
    refine ⟨ys, n', hy.1, hy.2, hyl, fun j f hj => ?_⟩
    obtain ⟨ho, hk⟩ := hone_of hone j f hj
    have hjl : j < fs.size := (Array.getElem?_eq_some_iff.1 hj).1
    have hcell := hat j hjl
    have hv : cs'[j]? = some (cs'[j]'(by omega)) := List.getElem?_eq_getElem (by omega)
    have h1 := hf j f hj
    rw [ho, hk] at h1
    have hone' : (cs'.drop j).take 1 = [cs'[j]'(by omega)] := by
      rw [List.drop_eq_getElem_cons (by omega)]
      rfl
    rw [hone'] at h1
    have hys : ys[j]? = some (ys[j]'(by omega)) := List.getElem?_eq_getElem (by omega)
    refine ⟨_, _, ?_, hys, h1.trans hys⟩
    rw [← Go.Deep.add_add, hcell, hv]
end

/-- The types of a struct's fields. -/
def fieldTypes : TypeDesc → Option (List TypeId)
  | .struct fs => some (fs.toList.map (·.type))
  | _ => none
def oneCells (P : Program) : TypeDesc → Bool
  | .struct fs => oneCellFields P fs && P.cellsOf 0 == P.cellsOf 0
  | _ => false
theorem struct_of {P : Program} {e : TypeId} {ts : List TypeId} (h : (P.underlying e).bind fieldTypes = some ts) (h1 : (P.underlying e).map (oneCells P) = some true) : ∃ fs, P.underlying e = some (.struct fs) ∧ fs.toList.map (·.type) = ts ∧ oneCellFields P fs = true := by
  cases hu : P.underlying e with
  | none => rw [hu] at h; cases h
  | some d =>
    rw [hu] at h h1
    cases d with
    | struct fs =>
      refine ⟨fs, rfl, by simpa [fieldTypes] using h, ?_⟩
      simpa [oneCells] using h1
    | _ => simp [fieldTypes] at h

theorem list_of_choice {α : Type} (n : Nat) (Q : Nat → α → Prop) (h : ∀ i, i < n → ∃ x, Q i x) : ∃ xs : List α, xs.length = n ∧ ∀ j x, xs[j]? = some x → Q j x := by
  induction n with
  | zero => exact ⟨[], rfl, fun j x hj => by simp at hj⟩
  | succ n ih =>
    obtain ⟨xs, hl, hx⟩ := ih (fun i hi => h i (by omega))
    obtain ⟨x, hq⟩ := h n (by omega)
    refine ⟨xs ++ [x], by simp [hl], fun j y hj => ?_⟩
    by_cases e : j < xs.length
    · rw [List.getElem?_append_left e] at hj
      exact hx j y hj
    · have hj2 := (List.getElem?_eq_some_iff.1 hj).1
      simp only [List.length_append, List.length_cons, List.length_nil] at hj2
      obtain rfl : j = n := by omega
      rw [List.getElem?_append_right (by omega), hl, Nat.sub_self] at hj
      simp only [List.getElem?_cons_zero, Option.some.injEq] at hj
      exact hj ▸ hq

section
variable {H : Type} {enc : TypeId × Value → H} {P : Program}
/-- Structs that came in: what each field reads as is the caller's to say (dec). -/
theorem arg_rows {α : Type} {L : Lay α} {W : World} {base : Nat} {ts : List TypeId} {ds : List (DataW H)} {j : Nat} {t e : TypeId} {ft : List TypeId} {v : Value} {d : DataW H} {p : List MemPlace} (hL : 0 < L.sz)
    (ht : P.underlying t = some (.slice e)) (hft : (P.underlying e).bind fieldTypes = some ft) (hone : (P.underlying e).map (oneCells P) = some true) (hC : P.cellsOf e = L.sz) (hn : ft.length = L.sz)
    (dec : ∀ g : Nat → Value, (∀ k u, ft[k]? = some u → ∃ n x, DataW.trod enc P W 0 (fun _ => true) true n u [g k] = some x) → ∃ x, ∀ f v, (L.cells x)[f]? = some v → g f = v)
    (hv : Value.okWide P W .any base t v) (h : DataW.Trod enc P W 0 (fun _ => true) true t v d p) (hlt : ∀ x ∈ p, x.block < W.heap.size) (hsz : (DataW.weightsEach P ts ds).all (· ≤ reachBytes) = true) (h1 : ts[j]? = some t) (h2 : ds[j]? = some d) :
    ∃ (a : Option Addr) (cap : Nat) (xs : List α), v = .slice a xs.length cap ∧ RowsAt L W a xs ∧ xs.length ≤ cap ∧ xs.length * P.bytesOf e ≤ 140737488351232 := by
  obtain ⟨fs, hfs, hty, hone'⟩ := struct_of hft hone
  have hsz' : fs.size = L.sz := by rw [← hn, ← hty]; simp
  obtain ⟨a0, len, cap, rfl⟩ := okWide_slice ht hv
  obtain ⟨fuel, hf⟩ := h
  rcases open_slice_fields ht hfs hone' (by rw [hC, hsz']) hf with ⟨hcs, hx⟩ | ⟨a, len', cap', m, D, Pl, hcs, _, hl, hm, hmm, hx, hi⟩
  · have hcs' : Value.slice a0 len cap = .slice none 0 0 := by simpa [Value.cells] using hcs
    cases hcs'
    exact ⟨none, 0, [], rfl, RowsAt.nil _ _ _, Nat.le_refl _, by simp⟩
  · have hcs' : Value.slice a0 len cap = .slice (some a) len' cap' := by simpa [Value.cells] using hcs
    cases hcs'
    simp only [if_true] at hmm
    obtain rfl := hmm.symm
    obtain ⟨rfl, hp⟩ := Prod.mk.inj hx
    have hs := sized_slice hsz h1 h2 ht
    simp only [List.length_map, List.length_range, reachBytes] at hs
    obtain ⟨xs, hxl, hxs⟩ := list_of_choice (α := α) len (fun i x => ∀ f v, (L.cells x)[f]? = some v → W.cell? (a.add (i * L.sz + f)) = some v) (by
      intro i hil
      obtain ⟨ys, n, _, _, hyl, hfld⟩ := hi i (by omega)
      obtain ⟨x, hx⟩ := dec (fun k => (W.cell? (a.add (i * L.sz + k))).getD default) (by
        intro k u hk
        have hkl : k < fs.size := by rw [hsz', ← hn]; exact (List.getElem?_eq_some_iff.1 hk).1
        have hfk : fs[k]? = some fs[k] := Array.getElem?_eq_getElem hkl
        obtain ⟨v, y, hc, _, htr⟩ := hfld k _ hfk
        have hu : fs[k].type = u := by
          have : (fs.toList.map (·.type))[k]? = some u := by rw [hty]; exact hk
          simpa [hkl] using this
        rw [hu] at htr
        rw [hsz'] at hc
        exact ⟨n, y, by rw [hc]; exact htr⟩)
      refine ⟨x, fun f v hv => ?_⟩
      have hfl : f < fs.size := by rw [hsz', ← L.len x]; exact (List.getElem?_eq_some_iff.1 hv).1
      obtain ⟨v', y, hc, _, _⟩ := hfld f _ (Array.getElem?_eq_getElem hfl)
      have := hx f v hv
      rw [hsz'] at hc
      rw [hc] at this ⊢
      simpa using this)
    refine ⟨some a, _, xs, by rw [hxl], ?_, by omega, ?_⟩
    · intro k x hk
      have hkl := (List.getElem?_eq_some_iff.1 hk).1
      have h0 := hxs k x hk
      obtain ⟨x0, hx0⟩ : ∃ x0, xs[0]? = some x0 := ⟨_, List.getElem?_eq_getElem (by omega)⟩
      have hc0 : (L.cells x0)[0]? = some ((L.cells x0)[0]'(by rw [L.len]; omega)) := List.getElem?_eq_getElem (by rw [L.len]; omega)
      have hc0' := hxs 0 x0 hx0 0 _ hc0
      have hspot : a.spot = none := by
        cases hsp : a.spot with
        | none => rfl
        | some q =>
          exfalso
          have hq : (a.add (0 * L.sz + 0)).spot = some q := by unfold Addr.add; rw [if_pos (by omega)]; exact hsp
          generalize a.add (0 * L.sz + 0) = z at hc0' hq
          unfold World.cell? at hc0'
          rw [hq] at hc0'
          revert hc0'
          split <;> simp
      obtain ⟨b, off, sp⟩ := a
      simp only at hspot
      subst hspot
      refine ⟨b, off, rfl, ?_, fun f v hv => ?_⟩
      · have hin : MemPlace.cell b off ∈ p := by
          rw [hp]
          refine List.mem_append_left _ ?_
          simp only [MemPlace.row, List.mem_map, List.mem_range]
          refine ⟨0, ?_, by simp⟩
          rw [hsz']
          exact Nat.mul_pos (by omega) hL
        exact hlt _ hin
      · have := h0 f v hv
        have e : ((⟨b, off, none⟩ : Addr).add (k * L.sz + f)) = ⟨b, off + k * L.sz + f, none⟩ := by
          unfold Addr.add
          split <;> simp_all <;> omega
        rwa [e] at this
    · rw [hxl]
      exact Nat.le_trans (Nat.mul_le_mul_right _ (Nat.le_add_right _ _)) hs

/-- Entries that came in. -/
theorem arg_ents {W : World} {base : Nat} {ts : List TypeId} {ds : List (DataW H)} {j : Nat} {t e s i b : TypeId} {v : Value} {d : DataW H} {p : List MemPlace}
    (ht : P.underlying t = some (.slice e)) (hft : (P.underlying e).bind fieldTypes = some [s, i, b, s]) (hone : (P.underlying e).map (oneCells P) = some true) (hC : P.cellsOf e = 4)
    (hus : P.underlying s = some .string) (hui : P.underlying i = some (.int .i64)) (hub : P.underlying b = some .bool)
    (hv : Value.okWide P W .any base t v) (h : DataW.Trod enc P W 0 (fun _ => true) true t v d p) (hlt : ∀ x ∈ p, x.block < W.heap.size) (hsz : (DataW.weightsEach P ts ds).all (· ≤ reachBytes) = true) (h1 : ts[j]? = some t) (h2 : ds[j]? = some d) :
    ∃ (a : Option Addr) (cap : Nat) (xs : List Ent), v = .slice a xs.length cap ∧ RowsAt entLay W a xs ∧ xs.length ≤ cap ∧ xs.length * P.bytesOf e ≤ 140737488351232 := by
  refine arg_rows (L := entLay) (by decide) ht hft hone hC rfl ?_ hv h hlt hsz h1 h2
  intro g hg
  obtain ⟨n0, x0, h0⟩ := hg 0 _ rfl
  obtain ⟨n1, x1, h1⟩ := hg 1 _ rfl
  obtain ⟨n2, x2, h2⟩ := hg 2 _ rfl
  obtain ⟨n3, x3, h3⟩ := hg 3 _ rfl
  obtain ⟨s0, e0, _⟩ := DataW.trod_string hus h0
  obtain ⟨i1, e1, _⟩ := DataW.trod_int hui h1
  obtain ⟨b2, e2, _⟩ := DataW.trod_bool hub h2
  obtain ⟨s3, e3, _⟩ := DataW.trod_string hus h3
  refine ⟨⟨s0, i1, b2, s3⟩, fun f v hv => ?_⟩
  simp only [List.cons.injEq, and_true] at e0 e1 e2 e3
  match f, hv with
  | 0, hv => rw [e0]; exact Option.some.inj hv
  | 1, hv => rw [e1]; exact Option.some.inj hv
  | 2, hv => rw [e2]; exact Option.some.inj hv
  | 3, hv => rw [e3]; exact Option.some.inj hv
end
end Go.Proofs.YtgglheelhbfgiaaGreatDoor

namespace Go.Proofs.YtgglheelhbfgiaaGreatDoor
open Go Go.RowKit Go.ChangeShapes Go.WideShapes Go.ChangeAt Go.Deep

/-- The leaves of a type, each with its place. -/
def leaves (P : Program) : Nat → TypeId → List (Nat × TypeId)
  | 0, _ => []
  | d + 1, t => match P.underlying t with
    | some (.struct fs) => fs.toList.flatMap fun f => ((leaves P d f.type).filter fun q => decide (q.1 < P.cellsOf f.type ∧ f.offset + P.cellsOf f.type ≤ P.cellsOf t)).map fun q => (f.offset + q.1, q.2)
    | _ => if P.cellsOf t = 1 then [(0, t)] else []
section
variable {H : Type} {enc : TypeId × Value → H} {P : Program} {w : World} {base : Nat} {spare : Nat → Bool} {held : Bool}
theorem trod_leaf : ∀ (d : Nat) (t : TypeId) (fuel : Nat) (cs : List Value) (x : DataW H × List MemPlace), cs.length = P.cellsOf t → DataW.trod enc P w base spare held fuel t cs = some x →
    ∀ q ∈ leaves P d t, ∃ n y, DataW.trod enc P w base spare held n q.2 ((cs.drop q.1).take 1) = some y := by
  intro d
  induction d with
  | zero => intro t fuel cs x _ _ q hq; simp [leaves] at hq
  | succ d ih =>
    intro t fuel cs x hlen h q hq
    unfold leaves at hq
    split at hq
    · rename_i fs hfs
      obtain ⟨ys, n, _, _, hl, hyl, hf⟩ := DataW.trod_struct hfs h
      simp only [List.mem_flatMap, List.mem_map, List.mem_filter, decide_eq_true_eq] at hq
      obtain ⟨f, hfm, q', ⟨hq', hlt, hfit⟩, rfl⟩ := hq
      obtain ⟨i, hi⟩ := List.getElem?_of_mem hfm
      have hi' : fs[i]? = some f := by simpa using hi
      have hil : i < ys.length := by rw [hyl]; exact (Array.getElem?_eq_some_iff.1 hi').1
      have h1 := hf i f hi'
      rw [List.getElem?_eq_getElem hil] at h1
      obtain ⟨n', y, hy⟩ := ih f.type n _ _ (by rw [List.length_take, List.length_drop]; omega) h1 q' hq'
      refine ⟨n', y, ?_⟩
      rw [List.drop_take, List.take_take, List.drop_drop, Nat.min_eq_left (by omega)] at hy
      exact hy
    · split at hq
      · rename_i h1
        simp only [List.mem_singleton] at hq
        subst hq
        refine ⟨fuel, x, ?_⟩
        rw [h1] at hlen
        rw [List.drop_zero, List.take_of_length_le (by omega)]
        exact h
      · simp at hq

/-- Structs that came in: what each leaf reads as is the caller's to say (dec). -/
theorem arg_leaves {α : Type} {L : Lay α} {W : World} {ts : List TypeId} {ds : List (DataW H)} {j : Nat} {t e : TypeId} {lv : List (Nat × TypeId)} {v : Value} {d : DataW H} {p : List MemPlace} (hL : 0 < L.sz)
    (ht : P.underlying t = some (.slice e)) (hlv : leaves P 4 e = lv) (hC : P.cellsOf e = L.sz)
    (dec : ∀ g : Nat → Value, (∀ q ∈ lv, ∃ n x, DataW.trod enc P W 0 (fun _ => true) true n q.2 [g q.1] = some x) → ∃ x, ∀ f v, (L.cells x)[f]? = some v → g f = v)
    (hv : Value.okWide P W .any base t v) (h : DataW.Trod enc P W 0 (fun _ => true) true t v d p) (hlt : ∀ x ∈ p, x.block < W.heap.size) (hsz : (DataW.weightsEach P ts ds).all (· ≤ reachBytes) = true) (h1 : ts[j]? = some t) (h2 : ds[j]? = some d) (hin : ∀ q ∈ lv, q.1 < L.sz) :
    ∃ (a : Option Addr) (cap : Nat) (xs : List α), v = .slice a xs.length cap ∧ RowsAt L W a xs ∧ xs.length ≤ cap ∧ xs.length * P.bytesOf e ≤ 140737488351232 ∧ (a = none → cap = 0) := by
  obtain ⟨a0, len, cap, rfl⟩ := okWide_slice ht hv
  obtain ⟨fuel, hf⟩ := h
  rcases open_slice ht hf with ⟨hcs, hx⟩ | ⟨a, len', cap', m, n, D, Pl, hcs, _, hl, hm, hmm, hx, hi⟩
  · have hcs' : Value.slice a0 len cap = .slice none 0 0 := by simpa [Value.cells] using hcs
    cases hcs'
    exact ⟨none, 0, [], rfl, RowsAt.nil _ _ _, Nat.le_refl _, by simp, fun _ => rfl⟩
  · have hcs' : Value.slice a0 len cap = .slice (some a) len' cap' := by simpa [Value.cells] using hcs
    cases hcs'
    simp only [if_true] at hmm
    obtain rfl := hmm.symm
    obtain ⟨rfl, hp⟩ := Prod.mk.inj hx
    have hs := sized_slice hsz h1 h2 ht
    simp only [List.length_map, List.length_range, reachBytes] at hs
    rw [hC] at hp
    obtain ⟨xs, hxl, hxs⟩ := list_of_choice (α := α) len (fun i x => ∀ f v, (L.cells x)[f]? = some v → W.cell? (a.add (i * L.sz + f)) = some v) (by
      intro i hil
      obtain ⟨cs', hc, htr⟩ := hi i (by omega)
      rw [hC] at hc
      obtain ⟨_, hcl, hat⟩ := World.cells?_some hc
      obtain ⟨x, hx⟩ := dec (fun k => cs'.getD k default) (by
        intro q hq
        obtain ⟨n', y, hy⟩ := trod_leaf 4 e n cs' _ (by rw [hcl, hC]) htr q (by rw [hlv]; exact hq)
        have hq1 := hin q hq
        refine ⟨n', y, ?_⟩
        have e1 : (cs'.drop q.1).take 1 = [cs'.getD q.1 default] := by
          rw [List.drop_eq_getElem_cons (by omega)]
          rw [List.getD_eq_getElem?_getD, List.getElem?_eq_getElem (show q.1 < cs'.length by omega)]
          rfl
        rw [← e1]
        exact hy)
      refine ⟨x, fun f v hv => ?_⟩
      have hfl : f < L.sz := by rw [← L.len x]; exact (List.getElem?_eq_some_iff.1 hv).1
      have hcell := hat f hfl
      have := hx f v hv
      rw [List.getD_eq_getElem?_getD, List.getElem?_eq_getElem (by omega), Option.getD_some] at this
      rw [← Go.Deep.add_add, hcell, List.getElem?_eq_getElem (by omega), this])
    refine ⟨some a, _, xs, by rw [hxl], ?_, by omega, ?_, fun h => by cases h⟩
    · intro k x hk
      have hkl := (List.getElem?_eq_some_iff.1 hk).1
      have h0 := hxs k x hk
      obtain ⟨x0, hx0⟩ : ∃ x0, xs[0]? = some x0 := ⟨_, List.getElem?_eq_getElem (by omega)⟩
      have hc0 : (L.cells x0)[0]? = some ((L.cells x0)[0]'(by rw [L.len]; omega)) := List.getElem?_eq_getElem (by rw [L.len]; omega)
      have hc0' := hxs 0 x0 hx0 0 _ hc0
      have hspot : a.spot = none := by
        cases hsp : a.spot with
        | none => rfl
        | some q =>
          exfalso
          have hq : (a.add (0 * L.sz + 0)).spot = some q := by unfold Addr.add; rw [if_pos (by omega)]; exact hsp
          generalize a.add (0 * L.sz + 0) = z at hc0' hq
          unfold World.cell? at hc0'
          rw [hq] at hc0'
          revert hc0'
          split <;> simp
      obtain ⟨b, off, sp⟩ := a
      simp only at hspot
      subst hspot
      refine ⟨b, off, rfl, ?_, fun f v hv => ?_⟩
      · have hin : MemPlace.cell b off ∈ p := by
          rw [hp]
          refine List.mem_append_left _ ?_
          simp only [MemPlace.row, List.mem_map, List.mem_range]
          refine ⟨0, ?_, by simp⟩
          exact Nat.mul_pos (by omega) hL
        exact hlt _ hin
      · have := h0 f v hv
        have e : ((⟨b, off, none⟩ : Addr).add (k * L.sz + f)) = ⟨b, off + k * L.sz + f, none⟩ := by
          unfold Addr.add
          split <;> simp_all <;> omega
        rwa [e] at this
    · rw [hxl]
      exact Nat.le_trans (Nat.mul_le_mul_right _ (Nat.le_add_right _ _)) hs
end
end Go.Proofs.YtgglheelhbfgiaaGreatDoor

namespace Go.Proofs.YtgglheelhbfgiaaGreatDoor
open Go Go.RowKit Go.ChangeShapes Go.WideShapes Go.ChangeAt Go.Deep

def numLay : Lay Int := { sz := 1, cells := fun n => [.int .i64 n], len := fun _ => rfl, one := fun x v hv => by simp only [List.mem_cons, List.mem_nil_iff, or_false] at hv; rw [hv]; rfl }
theorem num_at {w : World} {a : Option Addr} {xs : List Int} (h : RowsAt numLay w a xs) {k : Nat} {x : Int} (hk : xs[k]? = some x) : ∃ b off, a = some ⟨b, off, none⟩ ∧ b < w.heap.size ∧ w.cell? ⟨b, off + k, none⟩ = some (.int .i64 x) := by
  obtain ⟨b, off, e, hlt, hc⟩ := h k x hk
  have := hc 0 _ rfl
  refine ⟨b, off, e, hlt, ?_⟩
  simpa [numLay] using this
theorem flat_nums (xs : List Int) : flat numLay xs = xs.map (Value.int .i64) := by
  induction xs with
  | nil => rfl
  | cons x xs ih =>
    show numLay.cells x ++ flat numLay xs = _
    rw [ih]
    rfl
/-- What is known of a row of one's own at an index: the address, what lies there, that it may be written, and what the row is behind the write. -/
theorem OwnRows.at_num {w : World} {base : Nat} {e : TypeId} {v : Value} {xs : List Int} (h : OwnRows numLay w base e v xs) {k : Nat} {x : Int} (hk : xs[k]? = some x) :
    ∃ g cap, v = .slice (some ⟨g, 0, none⟩) xs.length cap ∧ base ≤ g ∧ xs.length ≤ cap ∧ w.cell? ⟨g, k, none⟩ = some (.int .i64 x) ∧ w.frozen? ⟨g, k, none⟩ = false ∧
      ∀ y, OwnRows numLay (w.setCell ⟨g, k, none⟩ (.int .i64 y)) base e v (xs.set k y) := by
  have hkl : k < xs.length := (List.getElem?_eq_some_iff.1 hk).1
  have hfl : (flat numLay xs).length = xs.length := by rw [flat_nums, List.length_map]
  rcases h.2 with ⟨rfl, hx⟩ | ⟨g, cap, cur, rfl, hg, hgg, hcap, hcm, hcs, htk⟩
  · exfalso
    have : xs.length = 0 := by simpa using hx
    omega
  · have hsz : numLay.sz = 1 := rfl
    rw [hsz] at hcs htk
    have hck : cur[k]? = some (.int .i64 x) := by
      have h1 : (cur.toList.take (xs.length * 1))[k]? = some (.int .i64 x) := by
        rw [htk, flat_nums, List.getElem?_map, hk]; rfl
      rw [List.getElem?_take, if_pos (by omega)] at h1
      simpa using h1
    refine ⟨g, cap, rfl, hg, by simpa using hcap, ?_, ?_, fun y => ⟨?_, .inr ⟨g, cap, cur.set! k (.int .i64 y), ?_, hg, ?_, ?_, hcm, ?_, ?_⟩⟩⟩
    · simp [World.cell?, hgg, hck]
    · simp [World.frozen?, hgg]
    · rw [flat_nums, List.length_map, hsz, Nat.mul_one]
    · simp
    · simp [World.setCell, Array.getElem?_modify, hgg]
    · simpa using hcap
    · rw [hsz]; simpa using hcs
    · rw [hsz, flat_nums]
      rw [flat_nums] at htk
      simp only [Array.set!_eq_setIfInBounds, Array.toList_setIfInBounds, List.length_set, Nat.mul_one] at htk ⊢
      rw [List.take_set, htk, List.map_set]
section
variable {H : Type} {enc : TypeId × Value → H} {P : Program}
/-- Numbers that came in. -/
theorem arg_ints {W : World} {base : Nat} {ts : List TypeId} {ds : List (DataW H)} {j : Nat} {t e : TypeId} {v : Value} {d : DataW H} {p : List MemPlace}
    (ht : P.underlying t = some (.slice e)) (hui : P.underlying e = some (.int .i64)) (hlv : leaves P 4 e = [(0, e)]) (hC : P.cellsOf e = 1)
    (hv : Value.okWide P W .any base t v) (h : DataW.Trod enc P W 0 (fun _ => true) true t v d p) (hlt : ∀ x ∈ p, x.block < W.heap.size) (hsz : (DataW.weightsEach P ts ds).all (· ≤ reachBytes) = true) (h1 : ts[j]? = some t) (h2 : ds[j]? = some d) :
    ∃ (a : Option Addr) (cap : Nat) (xs : List Int), v = .slice a xs.length cap ∧ RowsAt numLay W a xs ∧ xs.length ≤ cap ∧ xs.length * P.bytesOf e ≤ 140737488351232 ∧ (a = none → cap = 0) := by
  refine arg_leaves (L := numLay) (by decide) ht hlv hC ?_ hv h hlt hsz h1 h2 (by simp [numLay])
  intro g hg
  obtain ⟨n0, x0, h0⟩ := hg (0, e) (by simp)
  obtain ⟨i0, e0, _⟩ := DataW.trod_int hui h0
  simp only [List.cons.injEq, and_true] at e0
  refine ⟨i0, fun f v hv => ?_⟩
  match f, hv with
  | 0, hv => rw [e0]; exact Option.some.inj hv
end
end Go.Proofs.YtgglheelhbfgiaaGreatDoor

namespace Go.Proofs.YtgglheelhbfgiaaGreatDoor
open Go Go.RowKit Go.Lib
def fewB (rs : List ByteArray) (tq : ByteArray) : Bool := decide (rs.length ≤ 30 ∧ tq.size ≤ 100 ∧ ∀ s ∈ rs, s.size ≤ 2500)
theorem few_big {rs : List ByteArray} {tq : ByteArray} (h : 30 < rs.length ∨ 100 < tq.size) : fewB rs tq = false := decide_eq_false fun hh => by omega
theorem few_at {rs : List ByteArray} {tq : ByteArray} {k : Nat} {s : ByteArray} (hs : rs[k]? = some s) (h : 2500 < s.size) : fewB rs tq = false := decide_eq_false fun hh => by
  have := hh.2.2 s (List.mem_of_getElem? hs)
  omega
theorem few_ok {rs : List ByteArray} {tq : ByteArray} (h1 : rs.length ≤ 30) (h2 : tq.size ≤ 100) (h : ∀ j s, j < rs.length → rs[j]? = some s → s.size ≤ 2500) : fewB rs tq = true := decide_eq_true ⟨h1, h2, fun s hs => by
  obtain ⟨j, hj⟩ := List.getElem?_of_mem hs
  exact h j s (List.getElem?_eq_some_iff.1 hj).1 hj⟩
set_option maxRecDepth 100000 in
set_option maxHeartbeats 1600000 in
theorem sfew_any (ask n : Int) (a : Option Addr) (cap : Nat) (rs : List ByteArray) (torn : Bool) (tq : ByteArray) (w : World) (hR : RowsAt strLay w a rs) :
    Calls Tryz.prog 17 #[.agg #[.int .i64 ask, .slice a rs.length cap, .int .i64 n, .bool torn, .string tq]] w fun e w' => e = .returned (.bool (fewB rs tq)) ∧ Below w.heap.size w w' := by
  have hal := (Below.refl w.heap.size w).alloc (Nat.le_refl _) (.cells #[.int .i64 ask, .slice a rs.length cap, .int .i64 n, .bool torn, .string tq] 44)
  have hV := VarAt.new w #[.int .i64 ask, .slice a rs.length cap, .int .i64 n, .bool torn, .string tq] 44
  have HR := Lib.hid (hR.keeps hal)
  have c1 := hV.2.2 1 _ rfl
  have c4 := hV.2.2 4 _ rfl
  have HV := Lib.hid hV
  clear hR hV
  by_cases h1 : 30 < rs.length
  · have h1i : (30 : Int) < (rs.length : Int) := by omega
    have Hr := Lib.hid (few_big (tq := tq) (.inl h1))
    clear h1
    go_enter Tryz.func17, Tryz.ntmps17
    go_wp2_with fail
    go_ret
    exact ⟨ret_bool Hr.out.symm, hal⟩
  · have h1i : (rs.length : Int) ≤ 30 := by omega
    have h1n : rs.length ≤ 30 := by omega
    by_cases h2 : 100 < tq.size
    · have h2i : (100 : Int) < (tq.size : Int) := by omega
      have Hr := Lib.hid (few_big (rs := rs) (.inr h2))
      clear h1 h2
      go_enter Tryz.func17, Tryz.ntmps17
      go_wp2_with fail
      go_ret
      exact ⟨ret_bool Hr.out.symm, hal⟩
    · have h2i : (tq.size : Int) ≤ 100 := by omega
      have h2n : tq.size ≤ 100 := by omega
      clear h1 h2
      have Hal := Lib.hid hal
      clear hal
      go_enter Tryz.func17, Tryz.ntmps17
      go_wp2_with fail
      obtain ⟨W, hW⟩ : ∃ W, w.alloc (.cells #[.int .i64 ask, .slice a rs.length cap, .int .i64 n, .bool torn, .string tq] 44) = W := ⟨_, rfl⟩
      rw [hW] at HR c1 c4 HV Hal ⊢
      clear hW
      obtain ⟨bx, hbx⟩ : ∃ bx, w.heap.size = bx := ⟨_, rfl⟩
      rw [hbx] at c1 c4 HV Hal ⊢
      have Hbx := Lib.hid hbx
      clear hbx
      go_loopw [3] (fun i wr => ∃ k : Nat, k ≤ rs.length ∧ i = .int .i64 k ∧ Hid (∀ j s, j < k → rs[j]? = some s → s.size ≤ 2500) ∧ wr = W) (fun i _ => rs.length - (RowKit.intOf i).toNat)
      case atStart => exact ⟨0, Nat.zero_le _, rfl, Lib.hid (fun j s hj _ => absurd hj (Nat.not_lt_zero j)), rfl⟩
      case round =>
        obtain ⟨k, hk, rfl, Hk, rfl⟩ := hrel
        by_cases hlt : k < rs.length
        · obtain ⟨s, hs⟩ := at_some hlt
          obtain ⟨b, off, hae, hb, c0⟩ := str_at HR.out hs
          subst hae
          have hlti : (k : Int) < (rs.length : Int) := by omega
          have Hs := Lib.hid hs
          clear hs
          by_cases hz : 2500 < s.size
          · have hzi : (2500 : Int) < (s.size : Int) := by omega
            have Hr := Lib.hid (few_at (tq := tq) Hs.out hz)
            clear hz
            go_wp2_with fail
            go_ret
            exact ⟨ret_bool Hr.out.symm, by rw [Hbx.out]; exact Hal.out⟩
          · have hzi : (s.size : Int) ≤ 2500 := by omega
            have hzn : s.size ≤ 2500 := by omega
            clear hz
            go_wp2_with fail
            go_roundw
            case rel =>
              refine ⟨k + 1, by omega, by go_num, fun j x hj hx => ?_, (by first | rfl | trivial)⟩
              by_cases e : j = k
              · subst e
                rw [Hs.out] at hx
                cases hx
                exact hzn
              · exact Hk.out j x (by omega) hx
            case measure => simp [RowKit.intOf]; omega
        · obtain rfl : k = rs.length := by omega
          have Hr := Lib.hid (few_ok h1n h2n Hk.out)
          go_wp2_with fail
          go_ret
          exact ⟨ret_bool Hr.out.symm, by rw [Hbx.out]; exact Hal.out⟩
set_option maxRecDepth 100000 in
/-- begins, of what is a beginning. -/
theorem begins_any (a b : Option Addr) (ca cb : Nat) (xs ys : List ByteArray) (w : World) (ha : RowsAt strLay w a xs) (hb : RowsAt strLay w b ys) (hl : ys.length ≤ cb) (hy : ys.length ≤ 1000000) (h : xs <+: ys) :
    Calls Tryz.prog 34 #[.slice a xs.length ca, .slice b ys.length cb] w fun e w' => e = .returned (.bool true) ∧ ∃ n, w' = w.drewN n := by
  have hle := h.length_le
  have hlei : (xs.length : Int) ≤ (ys.length : Int) := by omega
  have hcb : xs.length ≤ cb := by omega
  have HT := Lib.hid (stexts_any a b ca cb xs xs w (by omega) ha (hb.of_prefix h))
  rw [decide_eq_true rfl] at HT
  clear ha hb h hl
  go_enter Tryz.func34, Tryz.ntmps34
  go_wp2_with fail
  refine HT.out.mono ?_
  rintro e w1 ⟨rfl, n1, rfl⟩
  go_wp2_with fail
  go_ret
  exact ⟨rfl, n1, rfl⟩
end Go.Proofs.YtgglheelhbfgiaaGreatDoor

namespace Go.Proofs.YtgglheelhbfgiaaGreatDoor
open Go Go.RowKit Go.ChangeShapes Go.WideShapes Go.ChangeAt Go.Deep
section
variable {H : Type} {enc : TypeId × Value → H} {P : Program} {w : World} {base : Nat} {spare : Nat → Bool} {held : Bool}
/-- A slice that is read as a datum, wherever it lies. -/
theorem rows_of_trodS {α : Type} {L : Lay α} {W : World} {t e : TypeId} {lv : List (Nat × TypeId)} {v : Value} {x : DataW H × List MemPlace} {fuel : Nat} (hL : 0 < L.sz)
    (ht : P.underlying t = some (.slice e)) (hlv : leaves P 4 e = lv) (hC : P.cellsOf e = L.sz)
    (dec : ∀ g : Nat → Value, (∀ q ∈ lv, ∃ n x, DataW.trod enc P W 0 (fun _ => true) true n q.2 [g q.1] = some x) → ∃ x, ∀ f v, (L.cells x)[f]? = some v → g f = v)
    (hf : DataW.trod enc P W 0 (fun _ => true) true fuel t [v] = some x) (hlt : ∀ z ∈ x.2, z.block < W.heap.size) (hin : ∀ q ∈ lv, q.1 < L.sz) :
    ∃ (a : Option Addr) (cap : Nat) (xs : List α), v = .slice a xs.length cap ∧ RowsAt L W a xs ∧ xs.length ≤ cap ∧ (a = none → cap = 0) := by
  rcases open_slice ht hf with ⟨hcs, hx⟩ | ⟨a, len', cap', m, n, D, Pl, hcs, _, hl, hm, hmm, hx, hi⟩
  · cases hcs
    exact ⟨none, 0, [], rfl, RowsAt.nil _ _ _, Nat.le_refl _, fun _ => rfl⟩
  · cases hcs
    simp only [if_true] at hmm
    obtain rfl := hmm.symm
    subst hx
    simp only at hlt
    rw [hC] at hlt
    obtain ⟨xs, hxl, hxs⟩ := list_of_choice (α := α) len' (fun i x => ∀ f v, (L.cells x)[f]? = some v → W.cell? (a.add (i * L.sz + f)) = some v) (by
      intro i hil
      obtain ⟨cs', hc, htr⟩ := hi i (by omega)
      rw [hC] at hc
      obtain ⟨_, hcl, hat⟩ := World.cells?_some hc
      obtain ⟨x, hx⟩ := dec (fun k => cs'.getD k default) (by
        intro q hq
        obtain ⟨n', y, hy⟩ := trod_leaf 4 e n cs' _ (by rw [hcl, hC]) htr q (by rw [hlv]; exact hq)
        have hq1 := hin q hq
        refine ⟨n', y, ?_⟩
        have e1 : (cs'.drop q.1).take 1 = [cs'.getD q.1 default] := by
          rw [List.drop_eq_getElem_cons (by omega)]
          rw [List.getD_eq_getElem?_getD, List.getElem?_eq_getElem (show q.1 < cs'.length by omega)]
          rfl
        rw [← e1]
        exact hy)
      refine ⟨x, fun f v hv => ?_⟩
      have hfl : f < L.sz := by rw [← L.len x]; exact (List.getElem?_eq_some_iff.1 hv).1
      have hcell := hat f hfl
      have := hx f v hv
      rw [List.getD_eq_getElem?_getD, List.getElem?_eq_getElem (by omega), Option.getD_some] at this
      rw [← Go.Deep.add_add, hcell, List.getElem?_eq_getElem (by omega), this])
    refine ⟨some a, _, xs, by rw [hxl], ?_, by omega, fun h => by cases h⟩
    intro k x hk
    have hkl := (List.getElem?_eq_some_iff.1 hk).1
    have h0 := hxs k x hk
    obtain ⟨x0, hx0⟩ : ∃ x0, xs[0]? = some x0 := ⟨_, List.getElem?_eq_getElem (by omega)⟩
    have hc0 : (L.cells x0)[0]? = some ((L.cells x0)[0]'(by rw [L.len]; omega)) := List.getElem?_eq_getElem (by rw [L.len]; omega)
    have hc0' := hxs 0 x0 hx0 0 _ hc0
    have hspot : a.spot = none := by
      cases hsp : a.spot with
      | none => rfl
      | some q =>
        exfalso
        have hq : (a.add (0 * L.sz + 0)).spot = some q := by unfold Addr.add; rw [if_pos (by omega)]; exact hsp
        generalize a.add (0 * L.sz + 0) = z at hc0' hq
        unfold World.cell? at hc0'
        rw [hq] at hc0'
        revert hc0'
        split <;> simp
    obtain ⟨b, off, sp⟩ := a
    simp only at hspot
    subst hspot
    refine ⟨b, off, rfl, ?_, fun f v hv => ?_⟩
    · have hin : MemPlace.cell b off ∈ MemPlace.row (⟨b, off, none⟩ : Addr) (cap' * L.sz) ++ (List.range cap').flatMap Pl := by
        refine List.mem_append_left _ ?_
        simp only [MemPlace.row, List.mem_map, List.mem_range]
        refine ⟨0, ?_, by simp⟩
        exact Nat.mul_pos (by omega) hL
      exact hlt _ hin
    · have := h0 f v hv
      have e : ((⟨b, off, none⟩ : Addr).add (k * L.sz + f)) = ⟨b, off + k * L.sz + f, none⟩ := by
        unfold Addr.add
        split <;> simp_all <;> omega
      rwa [e] at this
theorem dec_strS {W : World} {s : TypeId} (hus : P.underlying s = some .string) (g : Nat → Value) (hg : ∀ q ∈ [(0, s)], ∃ n x, DataW.trod enc P W 0 (fun _ => true) true n q.2 [g q.1] = some x) :
    ∃ x, ∀ f v, (strLay.cells x)[f]? = some v → g f = v := by
  obtain ⟨n0, x0, h0⟩ := hg (0, s) (by simp)
  obtain ⟨s0, e0, _⟩ := DataW.trod_string hus h0
  simp only [List.cons.injEq, and_true] at e0
  refine ⟨s0, fun f v hv => ?_⟩
  match f, hv with
  | 0, hv => rw [e0]; exact Option.some.inj hv
/-- A list of texts as one value. -/
structure PutV where
  a : Option Addr
  cap : Nat
  rs : List ByteArray
def putLay : Lay PutV := { sz := 1, cells := fun x => [.slice x.a x.rs.length x.cap], len := fun _ => rfl, one := fun x v hv => by simp only [List.mem_cons, List.mem_nil_iff, or_false] at hv; rw [hv]; rfl }
theorem put_at {w : World} {a : Option Addr} {xs : List PutV} (h : RowsAt putLay w a xs) {k : Nat} {x : PutV} (hk : xs[k]? = some x) : ∃ b off, a = some ⟨b, off, none⟩ ∧ b < w.heap.size ∧ w.cell? ⟨b, off + k, none⟩ = some (.slice x.a x.rs.length x.cap) := by
  obtain ⟨b, off, e, hlt, hc⟩ := h k x hk
  have := hc 0 _ rfl
  refine ⟨b, off, e, hlt, ?_⟩
  simpa [putLay] using this
theorem arg_strss {W : World} {ts : List TypeId} {ds : List (DataW H)} {j : Nat} {t e s : TypeId} {v : Value} {d : DataW H} {p : List MemPlace}
    (ht : P.underlying t = some (.slice e)) (hC : P.cellsOf e = 1) (he : P.underlying e = some (.slice s)) (hus : P.underlying s = some .string) (hvs : leaves P 4 s = [(0, s)]) (hcs : P.cellsOf s = 1)
    (hv : Value.okWide P W .any base t v) (h : DataW.Trod enc P W 0 (fun _ => true) true t v d p) (hlt : ∀ x ∈ p, x.block < W.heap.size) (hsz : (DataW.weightsEach P ts ds).all (· ≤ reachBytes) = true) (h1 : ts[j]? = some t) (h2 : ds[j]? = some d) :
    ∃ (a : Option Addr) (cap : Nat) (xs : List PutV), v = .slice a xs.length cap ∧ (RowsAt putLay W a xs ∧ ∀ x ∈ xs, RowsAt strLay W x.a x.rs ∧ (x.a = none → x.cap = 0)) ∧ xs.length * P.bytesOf e ≤ 140737488351232 := by
  obtain ⟨a0, len, cap, rfl⟩ := okWide_slice ht hv
  obtain ⟨fuel, hf⟩ := h
  rcases open_slice ht hf with ⟨hcs', hx⟩ | ⟨a, len', cap', m, n, D, Pl, hcs', _, hl, hm, hmm, hx, hi⟩
  · have hcs'' : Value.slice a0 len cap = .slice none 0 0 := by simpa [Value.cells] using hcs'
    cases hcs''
    exact ⟨none, 0, [], rfl, ⟨RowsAt.nil _ _ _, fun x hx => by cases hx⟩, by simp⟩
  · have hcs'' : Value.slice a0 len cap = .slice (some a) len' cap' := by simpa [Value.cells] using hcs'
    cases hcs''
    simp only [if_true] at hmm
    obtain rfl := hmm.symm
    obtain ⟨rfl, hp⟩ := Prod.mk.inj hx
    have hs := sized_slice hsz h1 h2 ht
    simp only [List.length_map, List.length_range, reachBytes] at hs
    rw [hC] at hp
    obtain ⟨xs, hxl, hxs⟩ := list_of_choice (α := PutV) len (fun i x => W.cell? (a.add (i * 1)) = some (.slice x.a x.rs.length x.cap) ∧ RowsAt strLay W x.a x.rs ∧ (x.a = none → x.cap = 0)) (by
      intro i hil
      obtain ⟨cs1, hc, htr⟩ := hi i (by omega)
      rw [hC] at hc
      obtain ⟨_, hcl, hat⟩ := World.cells?_some hc
      obtain ⟨u, rfl⟩ : ∃ u, cs1 = [u] := by
        match cs1, hcl with
        | [u], _ => exact ⟨u, rfl⟩
      obtain ⟨ai, ci, rs, rfl, hr, _, hnil⟩ := rows_of_trodS (L := strLay) (by decide) he hvs hcs (dec_strS hus) htr (fun z hz => hlt z (by
        rw [hp]
        exact List.mem_append_right _ (List.mem_flatMap.2 ⟨i, List.mem_range.2 (by omega), hz⟩))) (by simp [strLay])
      refine ⟨⟨ai, ci, rs⟩, ?_, hr, hnil⟩
      have := hat 0 (by omega)
      rw [Go.Deep.add_add] at this
      simpa using this)
    refine ⟨some a, _, xs, by rw [hxl], ⟨?_, fun x hx => ?_⟩, ?_⟩
    · intro k x hk
      have h0 := (hxs k x hk).1
      have hkl := (List.getElem?_eq_some_iff.1 hk).1
      have hspot : a.spot = none := by
        cases hsp : a.spot with
        | none => rfl
        | some q =>
          exfalso
          obtain ⟨x0, hx0⟩ : ∃ x0, xs[0]? = some x0 := ⟨_, List.getElem?_eq_getElem (by omega)⟩
          have hc0' := (hxs 0 x0 hx0).1
          have hq : (a.add (0 * 1)).spot = some q := by unfold Addr.add; rw [if_pos (by omega)]; exact hsp
          generalize a.add (0 * 1) = z at hc0' hq
          unfold World.cell? at hc0'
          rw [hq] at hc0'
          revert hc0'
          split <;> simp
      obtain ⟨b, off, sp⟩ := a
      simp only at hspot
      subst hspot
      refine ⟨b, off, rfl, ?_, fun f v hv => ?_⟩
      · have hin : MemPlace.cell b off ∈ p := by
          rw [hp]
          refine List.mem_append_left _ ?_
          simp only [MemPlace.row, List.mem_map, List.mem_range]
          exact ⟨0, by omega, by simp⟩
        exact hlt _ hin
      · match f, hv with
        | 0, hv =>
          cases hv
          have e : ((⟨b, off, none⟩ : Addr).add (k * 1)) = ⟨b, off + k * putLay.sz + 0, none⟩ := by
            unfold Addr.add
            split <;> simp_all [putLay]
          rwa [e] at h0
    · obtain ⟨i, hi'⟩ := List.getElem?_of_mem hx
      exact (hxs i x hi').2
    · rw [hxl]
      exact Nat.le_trans (Nat.mul_le_mul_right _ (Nat.le_add_right _ _)) hs
end
end Go.Proofs.YtgglheelhbfgiaaGreatDoor

namespace Go.Proofs.YtgglheelhbfgiaaGreatDoor
open Go Go.RowKit Go.Lib
/-- From w to w' only the disk's blocks and the log's have turned; what is the disk's behind that was, or is new. -/
structure SStp (w w' : World) (T T' : Nat → Prop) (lb : Nat) : Prop where
  turned : Turned (fun k => T k ∨ k = lb) w.heap.size w w'
  grow : ∀ k, T' k → T k ∨ w.heap.size ≤ k
theorem SStp.of_below {w w' : World} {T : Nat → Prop} {lb : Nat} (hb : Below w.heap.size w w') : SStp w w' T T lb := ⟨Turned.of_below hb (Nat.le_refl _), fun _ h => .inl h⟩
theorem LIn.go {w0 w w' : World} {db lb : Nat} {T : Nat → Prop} {d d' : Dk} {l : Lg} (h : LIn w0 w db lb T d l) (hg : DGo w db T d' w') : ∃ T', LIn w0 w' db lb T' d' l ∧ SStp w w' T T' lb := by
  obtain ⟨h1, h2⟩ := hg
  have hlb : ¬ GrowS T w w' lb := fun hh => by
    rcases hh with hh | hh
    · exact h.lbT hh
    · have := h.log.1
      omega
  refine ⟨_, ⟨h1, h.log.same (h2.block lb h.log.1 h.lbT) h2.size, fun k hk => ?_, hlb, h.lbo, below_turned h.below h2 h.old⟩, ⟨h2.mono (Nat.le_refl _) fun _ _ h => .inl h, fun k hk => hk.imp id And.left⟩⟩
  rcases hk with hk | hk
  · exact h.old k hk
  · exact Nat.le_trans h.below.size hk.1
theorem LIn.stp_app {w0 w w' : World} {db lb : Nat} {T : Nat → Prop} {d : Dk} {l : Lg} {r : Lg × Dk × Int} {e : Ending} (h : LIn w0 w db lb T d l) (ha : AppIs w db lb T r e w') : e = .returned (.int .i64 r.2.2) ∧ ∃ T', LIn w0 w' db lb T' r.2.1 r.1 ∧ SStp w w' T T' lb := by
  obtain ⟨h1, T', h2, h3, h4⟩ := h.app ha
  exact ⟨h1, T', h2, h4, h3⟩
/-- A list of the law's own. -/
structure RowIn (w0 w : World) (T : Nat → Prop) (lb : Nat) (v : Value) (xs : List ByteArray) : Prop where
  row : OwnRows strLay w w0.heap.size 9 v xs
  out : ∀ j, v.ownBlock = some j → ¬ T j ∧ j ≠ lb
theorem RowIn.step {w0 w w' : World} {T T' : Nat → Prop} {lb : Nat} {v : Value} {xs : List ByteArray} (h : RowIn w0 w T lb v xs) (hs : SStp w w' T T' lb) : RowIn w0 w' T' lb v xs := by
  refine ⟨h.row.turnedOther hs.turned fun k hk hh => ?_, fun j hj => ⟨fun hT => ?_, (h.out j hj).2⟩⟩
  · rcases hh with hh | hh
    · exact (h.out k hk).1 hh
    · exact (h.out k hk).2 hh
  · rcases hs.grow j hT with hh | hh
    · exact (h.out j hj).1 hh
    · have := (h.row.lt hj).2
      omega
theorem RowIn.nil (w0 w : World) (T : Nat → Prop) (lb : Nat) : RowIn w0 w T lb (.slice none 0 0) [] := ⟨OwnRows.nil _ _ _ _, fun j hj => by cases hj⟩
theorem OpenIs.one {w w' : World} {db : Nat} {S : Nat → Prop} {o : OpenR} {e : Ending} (h : OpenIs w db S o e w') : ∃ T po v, DOk w' db T o.d ∧ (∀ k, T k → S k ∨ w.heap.size ≤ k) ∧ Turned S w.heap.size w w' ∧ e = .returned (.tuple #[.pointer po, v, .int .i64 o.err]) ∧
    ∀ l, o.log = some l → ∃ lb, po = some ⟨lb, 0, Option.none⟩ ∧ LAt w' lb db l ∧ w.heap.size ≤ lb ∧ ¬ T lb ∧ OwnRows strLay w' w.heap.size 9 v o.out ∧ ∀ k, v.ownBlock = some k → ¬ T k ∧ k ≠ lb := by
  obtain ⟨T, h1, h2, h3, ⟨h4, _, rfl⟩ | ⟨l, lb, v, h4, rfl, h5⟩⟩ := h
  · exact ⟨T, _, _, h1, h2, h3, rfl, fun l hl => by rw [h4] at hl; cases hl⟩
  · exact ⟨T, _, v, h1, h2, h3, rfl, fun l' hl => by
      rw [h4] at hl
      cases hl
      exact ⟨lb, rfl, h5⟩⟩
/-- Behind an opening the old log stands as it stood. -/
theorem LIn.opened {w0 w w' : World} {db lb : Nat} {T T' : Nat → Prop} {d d' : Dk} {l : Lg} (h : LIn w0 w db lb T d l) (h1 : DOk w' db T' d') (h2 : ∀ k, T' k → T k ∨ w.heap.size ≤ k) (h3 : Turned T w.heap.size w w') : LIn w0 w' db lb T' d' l ∧ SStp w w' T T' lb :=
  ⟨⟨h1, h.log.same (h3.block lb h.log.1 h.lbT) h3.size, fun k hk => (h2 k hk).elim (h.old k) fun hk => Nat.le_trans h.below.size hk, notT h2 h.lbT h.log.1, h.lbo, below_turned h.below h3 h.old⟩, ⟨h3.mono (Nat.le_refl _) fun _ _ h => .inl h, h2⟩⟩
/-- A list that came from an opening. -/
theorem RowIn.opened {w0 w w' : World} {T : Nat → Prop} {lb : Nat} {v : Value} {xs : List ByteArray} (hb : w0.heap.size ≤ w.heap.size) (h : OwnRows strLay w' w.heap.size 9 v xs) (h2 : ∀ k, v.ownBlock = some k → ¬ T k ∧ k ≠ lb) : RowIn w0 w' T lb v xs := ⟨h.lower hb, h2⟩
/-- A list of the law's own, at another log that is newer. -/
theorem RowIn.lb {w0 w : World} {T : Nat → Prop} {lb lb2 : Nat} {v : Value} {xs : List ByteArray} (h : RowIn w0 w T lb v xs) (hn : ∀ j, v.ownBlock = some j → j ≠ lb2) : RowIn w0 w T lb2 v xs := ⟨h.row, fun j hj => ⟨(h.out j hj).1, hn j hj⟩⟩
/-- Behind an opening: the new log. -/
theorem LIn.fresh {w0 w w' : World} {db lb lb2 : Nat} {T T' : Nat → Prop} {d d' : Dk} {l l2 : Lg} (h : LIn w0 w db lb T d l) (h1 : DOk w' db T' d') (h2 : ∀ k, T' k → T k ∨ w.heap.size ≤ k) (h3 : Turned T w.heap.size w w') (hL : LAt w' lb2 db l2) (hlb : w.heap.size ≤ lb2) (hT : ¬ T' lb2) : LIn w0 w' db lb2 T' d' l2 :=
  ⟨h1, hL, (h.opened h1 h2 h3).1.old, hT, Nat.le_trans h.below.size hlb, (h.opened h1 h2 h3).1.below⟩
theorem RowIn.fresh {w0 w w' : World} {T T' : Nat → Prop} {lb lb2 : Nat} {v : Value} {xs : List ByteArray} (h : RowIn w0 w T lb v xs) (hs : SStp w w' T T' lb) (hlb : w.heap.size ≤ lb2) : RowIn w0 w' T' lb2 v xs :=
  (h.step hs).lb fun j hj => by
    have := (h.row.lt hj).2
    omega
end Go.Proofs.YtgglheelhbfgiaaGreatDoor

