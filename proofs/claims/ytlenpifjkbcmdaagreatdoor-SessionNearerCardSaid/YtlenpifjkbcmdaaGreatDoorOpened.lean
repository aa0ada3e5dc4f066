/-
  Arguments that are slices of structs of one-cell fields: opened. Of no program. (The first theorem is the guide's, from extra-structs.)
-/
import Derived.Test.YtlenpifjkbcmdaaGreatDoorFrame
import Derived.Test.YtlenpifjkbcmdaaGreatDoorEntry
import Derived.Deep.Slices
import Derived.Deep.Fields
import Derived.ChangeSame
namespace Go.Proofs.YtlenpifjkbcmdaaGreatDoor
open Go Go.RowKit Go.ChangeShapes Go.WideShapes Go.ChangeAt Go.Deep
section
variable {H : Type} {enc : TypeId × Value → H} {P : Program} {w : World} {base : Nat} {spare : Nat → Bool} {held : Bool}
theorem open_slice_fields {t e : TypeId} {fs : Array Field} {fuel : Nat} {cs : List Value} {x : DataW H × List MemPlace} (ht : P.underlying t = some (.slice e)) (he : P.underlying e = some (.struct fs))
    (hone : oneCellFields P fs = true) (hC : P.cellsOf e = fs.size) (h : DataW.trod enc P w base spare held fuel t cs = some x) :
    (cs = [.slice none 0 0] ∧ x = (.nil, [])) ∨
    ∃ (a : Addr) (len cap m : Nat) (D : Nat → DataW H) (Pl : Nat → List MemPlace), cs = [.slice (some a) len cap] ∧ base ≤ a.block ∧ len ≤ cap ∧ cap ≤ maxLen ∧ m = (if spare a.block then cap else len) ∧
      x = (.slice ((List.range len).map D) ((List.range (m - len)).map fun j => D (len + j)), MemPlace.row a (m * fs.size) ++ (List.range m).flatMap Pl) ∧
      ∀ i, i < m → ∃ (ys : List (DataW H × List MemPlace)) (n : Nat), D i = .agg (ys.map (·.1)) ∧ Pl i = ys.flatMap (·.2) ∧ ys.length = fs.size ∧
        ∀ (j : Nat) (f : Field), fs[j]? = some f → ∃ (v : Value) (y : DataW H × List MemPlace), w.cell? (a.add (i * fs.size + j)) = some v ∧ ys[j]? = some y ∧ DataW.trod enc P w base spare held n f.type [v] = some y := by
  rcases open_slice ht h with h0 | ⟨a, len, cap, m, n, D, Pl, hcs, hb, hl, hm, hmm, hx, hi⟩
  · exact .inl h0
  · refine .inr ⟨a, len, cap, m, D, Pl, hcs, hb, hl, hm, hmm, by rw [hC] at hx; exact hx, fun i him => ?_⟩
    obtain ⟨cs', hc, ht'⟩ := hi i him
    rw [hC] at hc
    obtain ⟨ys, n', hn', hy, hlen, hyl, hf⟩ := DataW.trod_struct he ht'
    obtain ⟨_, hcl, hat⟩ := World.cells?_some hc
    simp only [Prod.mk.injEq] at hy
    refine ⟨ys, n', hy.1, hy.2, hyl, fun j f hj => ?_⟩
    obtain ⟨ho, hk⟩ := hone_of hone j f hj
    have hjl : j < fs.size := (Array.getElem?_eq_some_iff.1 hj).1
    have hcell := hat j hjl
    have hv : cs'[j]? = some (cs'[j]'(by omega)) := List.getElem?_eq_getElem (by omega)
    have h1 := hf j f hj
    rw [ho, hk] at h1
    have hone' : (cs'.drop j).take 1 = [cs'[j]'(by omega)] := by
      rw [List.drop_eq_getElem_cons (by omega)]
      rfl
    rw [hone'] at h1
    have hys : ys[j]? = some (ys[j]'(by omega)) := List.getElem?_eq_getElem (by omega)
    refine ⟨_, _, ?_, hys, h1.trans hys⟩
    rw [← Go.Deep.add_add, hcell, hv]
end

/-- The types of a struct's fields. -/
def fieldTypes : TypeDesc → Option (List TypeId)
  | .struct fs => some (fs.toList.map (·.type))
  | _ => none
def oneCells (P : Program) : TypeDesc → Bool
  | .struct fs => oneCellFields P fs && P.cellsOf 0 == P.cellsOf 0
  | _ => false
theorem struct_of {P : Program} {e : TypeId} {ts : List TypeId} (h : (P.underlying e).bind fieldTypes = some ts) (h1 : (P.underlying e).map (oneCells P) = some true) : ∃ fs, P.underlying e = some (.struct fs) ∧ fs.toList.map (·.type) = ts ∧ oneCellFields P fs = true := by
  cases hu : P.underlying e with
  | none => rw [hu] at h; cases h
  | some d =>
    rw [hu] at h h1
    cases d with
    | struct fs =>
      refine ⟨fs, rfl, by simpa [fieldTypes] using h, ?_⟩
      simpa [oneCells] using h1
    | _ => simp [fieldTypes] at h

theorem list_of_choice {α : Type} (n : Nat) (Q : Nat → α → Prop) (h : ∀ i, i < n → ∃ x, Q i x) : ∃ xs : List α, xs.length = n ∧ ∀ j x, xs[j]? = some x → Q j x := by
  induction n with
  | zero => exact ⟨[], rfl, fun j x hj => by simp at hj⟩
  | succ n ih =>
    obtain ⟨xs, hl, hx⟩ := ih (fun i hi => h i (by omega))
    obtain ⟨x, hq⟩ := h n (by omega)
    refine ⟨xs ++ [x], by simp [hl], fun j y hj => ?_⟩
    by_cases e : j < xs.length
    · rw [List.getElem?_append_left e] at hj
      exact hx j y hj
    · have hj2 := (List.getElem?_eq_some_iff.1 hj).1
      simp only [List.length_append, List.length_cons, List.length_nil] at hj2
      obtain rfl : j = n := by omega
      rw [List.getElem?_append_right (by omega), hl, Nat.sub_self] at hj
      simp only [List.getElem?_cons_zero, Option.some.injEq] at hj
      exact hj ▸ hq

section
variable {H : Type} {enc : TypeId × Value → H} {P : Program}
/-- Structs that came in: what each field reads as is the caller's to say (dec). -/
theorem arg_rows {α : Type} {L : Lay α} {W : World} {base : Nat} {ts : List TypeId} {ds : List (DataW H)} {j : Nat} {t e : TypeId} {ft : List TypeId} {v : Value} {d : DataW H} {p : List MemPlace} (hL : 0 < L.sz)
    (ht : P.underlying t = some (.slice e)) (hft : (P.underlying e).bind fieldTypes = some ft) (hone : (P.underlying e).map (oneCells P) = some true) (hC : P.cellsOf e = L.sz) (hn : ft.length = L.sz)
    (dec : ∀ g : Nat → Value, (∀ k u, ft[k]? = some u → ∃ n x, DataW.trod enc P W 0 (fun _ => true) true n u [g k] = some x) → ∃ x, ∀ f v, (L.cells x)[f]? = some v → g f = v)
    (hv : Value.okWide P W .any base t v) (h : DataW.Trod enc P W 0 (fun _ => true) true t v d p) (hlt : ∀ x ∈ p, x.block < W.heap.size) (hsz : (DataW.weightsEach P ts ds).all (· ≤ reachBytes) = true) (h1 : ts[j]? = some t) (h2 : ds[j]? = some d) :
    ∃ (a : Option Addr) (cap : Nat) (xs : List α), v = .slice a xs.length cap ∧ RowsAt L W a xs ∧ xs.length ≤ cap ∧ xs.length * P.bytesOf e ≤ 140737488351232 := by
  obtain ⟨fs, hfs, hty, hone'⟩ := struct_of hft hone
  have hsz' : fs.size = L.sz := by rw [← hn, ← hty]; simp
  obtain ⟨a0, len, cap, rfl⟩ := okWide_slice ht hv
  obtain ⟨fuel, hf⟩ := h
  rcases open_slice_fields ht hfs hone' (by rw [hC, hsz']) hf with ⟨hcs, hx⟩ | ⟨a, len', cap', m, D, Pl, hcs, _, hl, hm, hmm, hx, hi⟩
  · have hcs' : Value.slice a0 len cap = .slice none 0 0 := by simpa [Value.cells] using hcs
    cases hcs'
    exact ⟨none, 0, [], rfl, RowsAt.nil _ _ _, Nat.le_refl _, by simp⟩
  · have hcs' : Value.slice a0 len cap = .slice (some a) len' cap' := by simpa [Value.cells] using hcs
    cases hcs'
    simp only [if_true] at hmm
    obtain rfl := hmm.symm
    obtain ⟨rfl, hp⟩ := Prod.mk.inj hx
    have hs := sized_slice hsz h1 h2 ht
    simp only [List.length_map, List.length_range, reachBytes] at hs
    obtain ⟨xs, hxl, hxs⟩ := list_of_choice (α := α) len (fun i x => ∀ f v, (L.cells x)[f]? = some v → W.cell? (a.add (i * L.sz + f)) = some v) (by
      intro i hil
      obtain ⟨ys, n, _, _, hyl, hfld⟩ := hi i (by omega)
      obtain ⟨x, hx⟩ := dec (fun k => (W.cell? (a.add (i * L.sz + k))).getD default) (by
        intro k u hk
        have hkl : k < fs.size := by rw [hsz', ← hn]; exact (List.getElem?_eq_some_iff.1 hk).1
        have hfk : fs[k]? = some fs[k] := Array.getElem?_eq_getElem hkl
        obtain ⟨v, y, hc, _, htr⟩ := hfld k _ hfk
        have hu : fs[k].type = u := by
          have : (fs.toList.map (·.type))[k]? = some u := by rw [hty]; exact hk
          simpa [hkl] using this
        rw [hu] at htr
        rw [hsz'] at hc
        exact ⟨n, y, by rw [hc]; exact htr⟩)
      refine ⟨x, fun f v hv => ?_⟩
      have hfl : f < fs.size := by rw [hsz', ← L.len x]; exact (List.getElem?_eq_some_iff.1 hv).1
      obtain ⟨v', y, hc, _, _⟩ := hfld f _ (Array.getElem?_eq_getElem hfl)
      have := hx f v hv
      rw [hsz'] at hc
      rw [hc] at this ⊢
      simpa using this)
    refine ⟨some a, _, xs, by rw [hxl], ?_, by omega, ?_⟩
    · intro k x hk
      have hkl := (List.getElem?_eq_some_iff.1 hk).1
      have h0 := hxs k x hk
      obtain ⟨x0, hx0⟩ : ∃ x0, xs[0]? = some x0 := ⟨_, List.getElem?_eq_getElem (by omega)⟩
      have hc0 : (L.cells x0)[0]? = some ((L.cells x0)[0]'(by rw [L.len]; omega)) := List.getElem?_eq_getElem (by rw [L.len]; omega)
      have hc0' := hxs 0 x0 hx0 0 _ hc0
      have hspot : a.spot = none := by
        cases hsp : a.spot with
        | none => rfl
        | some q =>
          exfalso
          have hq : (a.add (0 * L.sz + 0)).spot = some q := by unfold Addr.add; rw [if_pos (by omega)]; exact hsp
          generalize a.add (0 * L.sz + 0) = z at hc0' hq
          unfold World.cell? at hc0'
          rw [hq] at hc0'
          revert hc0'
          split <;> simp
      obtain ⟨b, off, sp⟩ := a
      simp only at hspot
      subst hspot
      refine ⟨b, off, rfl, ?_, fun f v hv => ?_⟩
      · have hin : MemPlace.cell b off ∈ p := by
          rw [hp]
          refine List.mem_append_left _ ?_
          simp only [MemPlace.row, List.mem_map, List.mem_range]
          refine ⟨0, ?_, by simp⟩
          rw [hsz']
          exact Nat.mul_pos (by omega) hL
        exact hlt _ hin
      · have := h0 f v hv
        have e : ((⟨b, off, none⟩ : Addr).add (k * L.sz + f)) = ⟨b, off + k * L.sz + f, none⟩ := by
          unfold Addr.add
          split <;> simp_all <;> omega
        rwa [e] at this
    · rw [hxl]
      exact Nat.le_trans (Nat.mul_le_mul_right _ (Nat.le_add_right _ _)) hs

/-- Entries that came in. -/
theorem arg_ents {W : World} {base : Nat} {ts : List TypeId} {ds : List (DataW H)} {j : Nat} {t e s i b : TypeId} {v : Value} {d : DataW H} {p : List MemPlace}
    (ht : P.underlying t = some (.slice e)) (hft : (P.underlying e).bind fieldTypes = some [s, i, b, s]) (hone : (P.underlying e).map (oneCells P) = some true) (hC : P.cellsOf e = 4)
    (hus : P.underlying s = some .string) (hui : P.underlying i = some (.int .i64)) (hub : P.underlying b = some .bool)
    (hv : Value.okWide P W .any base t v) (h : DataW.Trod enc P W 0 (fun _ => true) true t v d p) (hlt : ∀ x ∈ p, x.block < W.heap.size) (hsz : (DataW.weightsEach P ts ds).all (· ≤ reachBytes) = true) (h1 : ts[j]? = some t) (h2 : ds[j]? = some d) :
    ∃ (a : Option Addr) (cap : Nat) (xs : List Ent), v = .slice a xs.length cap ∧ RowsAt entLay W a xs ∧ xs.length ≤ cap ∧ xs.length * P.bytesOf e ≤ 140737488351232 := by
  refine arg_rows (L := entLay) (by decide) ht hft hone hC rfl ?_ hv h hlt hsz h1 h2
  intro g hg
  obtain ⟨n0, x0, h0⟩ := hg 0 _ rfl
  obtain ⟨n1, x1, h1⟩ := hg 1 _ rfl
  obtain ⟨n2, x2, h2⟩ := hg 2 _ rfl
  obtain ⟨n3, x3, h3⟩ := hg 3 _ rfl
  obtain ⟨s0, e0, _⟩ := DataW.trod_string hus h0
  obtain ⟨i1, e1, _⟩ := DataW.trod_int hui h1
  obtain ⟨b2, e2, _⟩ := DataW.trod_bool hub h2
  obtain ⟨s3, e3, _⟩ := DataW.trod_string hus h3
  refine ⟨⟨s0, i1, b2, s3⟩, fun f v hv => ?_⟩
  simp only [List.cons.injEq, and_true] at e0 e1 e2 e3
  match f, hv with
  | 0, hv => rw [e0]; exact Option.some.inj hv
  | 1, hv => rw [e1]; exact Option.some.inj hv
  | 2, hv => rw [e2]; exact Option.some.inj hv
  | 3, hv => rw [e3]; exact Option.some.inj hv
end
end Go.Proofs.YtlenpifjkbcmdaaGreatDoor
