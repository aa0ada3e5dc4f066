/-
  A file system's entries by their paths, and what a map that holds them reads as: plain law.
-/
import Derived.Test.YtgjgeojhhglidaaDoorLayPure
import Derived.Maps.OwnSet
import Derived.Maps.Ext
import Derived.Sort.KeysCollected
namespace Go.Proofs.YtgjgeojhhglidaaDoor
open Go Go.RowKit Go.Maps

theorem before_lt : ∀ x y : List UInt8, bytesBefore x y = decide (x < y)
  | [], [] => by simp [bytesBefore]
  | _ :: _, [] => by simp [bytesBefore]
  | [], _ :: _ => by simp [bytesBefore]
  | a :: x, b :: y => by
    rw [bytesBefore, before_lt x y]
    simp only [List.cons_lt_cons_iff]
    by_cases h1 : a < b <;> by_cases h2 : a = b <;> by_cases h3 : x < y <;> simp [h1, h2, h3]
theorem less_before : ∀ x y : List UInt8, Op.bytesLess x y = bytesBefore x y
  | [], [] => rfl
  | _ :: _, [] => rfl
  | [], _ :: _ => rfl
  | a :: x, b :: y => by rw [Op.bytesLess, bytesBefore, less_before x y]
def pB (x : Ent) : List UInt8 := x.path.data.toList
theorem pB_inj {p q : ByteArray} : p.data.toList = q.data.toList ↔ p = q := by
  constructor
  · intro h
    obtain ⟨⟨p⟩⟩ := p
    obtain ⟨⟨q⟩⟩ := q
    simpa using h
  · intro h
    rw [h]
def befE (x y : Ent) : Bool := bytesBefore (pB x) (pB y)
theorem befE_irr (x : Ent) : befE x x = false := WideAt.bytes_irrefl _
theorem befE_trans {x y z : Ent} (h1 : befE x y = true) (h2 : befE y z = true) : befE x z = true := by
  unfold befE at *
  rw [before_lt, decide_eq_true_eq] at *
  exact List.lt_trans h1 h2
theorem befE_ne {x y : Ent} (h : befE x y = true) : x.path ≠ y.path := fun e => by
  unfold befE pB at h
  rw [e, WideAt.bytes_irrefl] at h
  cases h
theorem befE_total {x y : Ent} (h : x.path ≠ y.path) : befE x y = true ∨ befE y x = true := WideAt.bytes_total _ _ (fun e => h (pB_inj.1 e))
theorem befE_asym {x y : Ent} (h : befE x y = true) : befE y x = false := by
  cases h2 : befE y x with
  | false => rfl
  | true =>
    have := befE_trans h h2
    rw [befE_irr] at this
    cases this

/-! ### what an entry reads as -/
def encEnt (x : Ent) : DataW Unit := .agg [.lit (.string (pB x)), .lit (.int .i64 x.id), .lit (.bool x.dir), .lit (.string x.data.data.toList)]
def rowE : Value → Option (DataW Unit × List MemPlace)
  | .agg cs => match cs.toList with
    | [.string p, .int .i64 i, .bool d, .string s] => some (encEnt ⟨p, i, d, s⟩, [])
    | _ => none
  | _ => none
theorem rowE_val (x : Ent) : rowE x.val = some (encEnt x, []) := rfl
theorem rowE_inv {v : Value} {z : DataW Unit × List MemPlace} (h : rowE v = some z) : ∃ x : Ent, v = x.val ∧ z = (encEnt x, []) := by
  unfold rowE at h
  split at h
  · rename_i cs
    split at h
    · rename_i p i d s hc
      cases h
      refine ⟨⟨p, i, d, s⟩, ?_, rfl⟩
      show Value.agg cs = Value.agg _
      congr 1
      rw [← Array.toList_inj, hc]
    · cases h
  · cases h
theorem encEnt_inj {x y : Ent} (h : encEnt x = encEnt y) : x = y := by
  unfold encEnt at h
  simp only [DataW.agg.injEq, List.cons.injEq, DataW.lit.injEq, Lit.string.injEq, Lit.int.injEq, Lit.bool.injEq, true_and, and_true] at h
  obtain ⟨h1, h2, h3, h4⟩ := h
  replace h1 := pB_inj.1 h1
  replace h4 := pB_inj.1 h4
  cases x
  cases y
  simp only at h1 h2 h3 h4
  rw [h1, h2, h3, h4]

/-! ### lists of entries, by rising path -/
def insE (x : Ent) : List Ent → List Ent
  | [] => [x]
  | y :: r => if befE x y then x :: y :: r else y :: insE x r
def delE (es : List Ent) (p : ByteArray) : List Ent := es.filter fun y => !decide (y.path = p)
def putE (es : List Ent) (x : Ent) : List Ent := insE x (delE es x.path)
def Rising (es : List Ent) : Prop := es.Pairwise fun x y => befE x y = true
def prE (x : Ent) : Lit × DataW Unit := (.string (pB x), encEnt x)
def datE (es : List Ent) : DataW Unit := .map (es.map prE)
theorem ins_map (x : Ent) : ∀ es, (insE x es).map prE = DataW.insert (prE x) (es.map prE)
  | [] => rfl
  | y :: r => by
    have e : (prE x).1.before (prE y).1 = befE x y := rfl
    rw [insE, List.map_cons, DataW.insert, e]
    split
    · rfl
    · rw [List.map_cons, ins_map x r]
theorem same_path (y : Ent) (p : ByteArray) : (prE y).1.sameKey (.string p.data.toList) = decide (y.path = p) := by
  show (pB y == p.data.toList) = _
  by_cases h : y.path = p
  · rw [decide_eq_true h, ← h]
    exact beq_self_eq_true _
  · rw [decide_eq_false h, beq_eq_false_iff_ne]
    exact fun e => h (pB_inj.1 e)
theorem del_map (es : List Ent) (p : ByteArray) : (es.map prE).filter (fun q => !q.1.sameKey (.string p.data.toList)) = (delE es p).map prE := by
  rw [List.filter_map, delE]
  congr 1
  refine List.filter_congr fun y _ => ?_
  show (!(prE y).1.sameKey _) = _
  rw [same_path]
theorem dat_put (es : List Ent) (x : Ent) : (datE es).put (.string (pB x)) (encEnt x) = datE (putE es x) := by
  show DataW.map (DataW.insert (prE x) ((es.map prE).filter fun q => !q.1.sameKey (.string x.path.data.toList))) = _
  rw [del_map, ← ins_map]
  rfl
theorem dat_del (es : List Ent) (p : ByteArray) : (datE es).del (.string p.data.toList) = datE (delE es p) := by
  show DataW.map ((es.map prE).filter fun q => !q.1.sameKey (.string p.data.toList)) = _
  rw [del_map]
  rfl
theorem find_map (es : List Ent) (p : ByteArray) : (es.map prE).find? (fun q => q.1.sameKey (.string p.data.toList)) = (findE es p).map prE := by
  rw [List.find?_map, findE]
  congr 2
  funext y
  exact same_path y p
theorem dat_at (es : List Ent) (p : ByteArray) (zd : DataW Unit) : (datE es).atKey (.string p.data.toList) zd = ((findE es p).map encEnt).getD zd := by
  unfold datE DataW.atKey
  dsimp only
  rw [find_map]
  cases findE es p <;> rfl
theorem dat_has (es : List Ent) (p : ByteArray) : Maps.has (datE es) (.string p.data.toList) = (findE es p).isSome := by
  have h : ((es.map prE).find? fun q => q.1.sameKey (.string p.data.toList)).isSome = (es.map prE).any fun q => q.1.sameKey (.string p.data.toList) := List.isSome_find? ..
  show (es.map prE).any (fun q => q.1.sameKey (.string p.data.toList)) = _
  rw [← h, find_map]
  cases findE es p <;> rfl
theorem dat_size (es : List Ent) : Maps.size (datE es) = es.length := by
  show (es.map prE).length = _
  rw [List.length_map]
theorem dat_keys (es : List Ent) : strKeys (datE es) = es.map pB := by
  show (es.map prE).map (fun p => strOf p.1) = _
  rw [List.map_map]
  rfl
theorem mem_insE {x z : Ent} : ∀ {es}, z ∈ insE x es ↔ z = x ∨ z ∈ es
  | [] => by simp [insE]
  | y :: r => by
    unfold insE
    split
    · exact List.mem_cons
    · rw [List.mem_cons, mem_insE, List.mem_cons]
      constructor
      · rintro (h | h | h)
        · exact .inr (.inl h)
        · exact .inl h
        · exact .inr (.inr h)
      · rintro (h | h | h)
        · exact .inr (.inl h)
        · exact .inl h
        · exact .inr (.inr h)
theorem mem_delE {es : List Ent} {p : ByteArray} {z : Ent} : z ∈ delE es p ↔ z ∈ es ∧ z.path ≠ p := by
  unfold delE
  rw [List.mem_filter, Bool.not_eq_true', decide_eq_false_iff_not]
theorem mem_putE {es : List Ent} {x z : Ent} : z ∈ putE es x ↔ z = x ∨ (z ∈ es ∧ z.path ≠ x.path) := by
  unfold putE
  rw [mem_insE, mem_delE]
theorem rising_ins {x : Ent} : ∀ {es}, Rising es → (∀ y ∈ es, y.path ≠ x.path) → Rising (insE x es)
  | [], _, _ => List.pairwise_singleton _ _
  | y :: r, h, hx => by
    unfold insE
    split
    · rename_i hb
      refine List.pairwise_cons.2 ⟨fun z hz => ?_, h⟩
      rcases List.mem_cons.1 hz with rfl | hz
      · exact hb
      · exact befE_trans hb ((List.pairwise_cons.1 h).1 z hz)
    · rename_i hb
      have hyx : befE y x = true := (befE_total (hx y List.mem_cons_self)).resolve_right hb
      refine List.pairwise_cons.2 ⟨fun z hz => ?_, rising_ins (List.pairwise_cons.1 h).2 (fun z hz => hx z (List.mem_cons_of_mem _ hz))⟩
      rcases mem_insE.1 hz with rfl | hz
      · exact hyx
      · exact (List.pairwise_cons.1 h).1 z hz
theorem rising_filter {es : List Ent} (h : Rising es) (f : Ent → Bool) : Rising (es.filter f) := List.Pairwise.filter f h
theorem rising_put {es : List Ent} (h : Rising es) (x : Ent) : Rising (putE es x) := rising_ins (rising_filter h _) (fun _ hy => (mem_delE.1 hy).2)
theorem rising_one {es : List Ent} (h : Rising es) {x y : Ent} (hx : x ∈ es) (hy : y ∈ es) (e : x.path = y.path) : x = y := by
  induction es with
  | nil => cases hx
  | cons z r ih =>
    obtain ⟨h1, h2⟩ := List.pairwise_cons.1 h
    rcases List.mem_cons.1 hx with hx1 | hx1 <;> rcases List.mem_cons.1 hy with hy1 | hy1
    · rw [hx1, hy1]
    · subst hx1
      exact absurd e (befE_ne (h1 y hy1))
    · subst hy1
      exact absurd e.symm (befE_ne (h1 x hx1))
    · exact ih h2 hx1 hy1
theorem rising_nodup {es : List Ent} (h : Rising es) : es.Nodup := h.imp fun {x y} hb e => by
  rw [e, befE_irr] at hb
  cases hb
/-- Two rising lists with the same entries are one. -/
theorem rising_ext {as bs : List Ent} (ha : Rising as) (hb : Rising bs) (h : ∀ x, x ∈ as ↔ x ∈ bs) : as = bs :=
  List.Perm.eq_of_pairwise (le := fun x y => befE x y = true) (fun x y _ _ h1 h2 => by rw [befE_asym h1] at h2; cases h2) ha hb ((List.perm_ext_iff_of_nodup (rising_nodup ha) (rising_nodup hb)).2 h)
theorem find_some {es : List Ent} {p : ByteArray} {x : Ent} (h : findE es p = some x) : x ∈ es ∧ x.path = p := by
  unfold findE at h
  exact ⟨List.mem_of_find?_eq_some h, by simpa using List.find?_some h⟩
theorem find_none {es : List Ent} {p : ByteArray} (h : findE es p = none) : ∀ x ∈ es, x.path ≠ p := by
  intro x hx e
  unfold findE at h
  have := List.find?_eq_none.1 h x hx
  simp [e] at this
theorem find_of {es : List Ent} (hr : Rising es) {x : Ent} (hx : x ∈ es) : findE es x.path = some x := by
  cases h : findE es x.path with
  | none => exact absurd rfl (find_none h x hx)
  | some y =>
    obtain ⟨h1, h2⟩ := find_some h
    rw [rising_one hr h1 hx h2]
theorem keys_sorted {es : List Ent} (h : Rising es) : (es.map pB).mergeSort leB = es.map pB := by
  refine List.mergeSort_of_pairwise ?_
  rw [List.pairwise_map]
  refine h.imp fun {x y} hb => ?_
  unfold befE at hb
  rw [before_lt, decide_eq_true_eq] at hb
  simp only [leB, decide_eq_true_eq]
  exact List.le_of_lt hb
theorem delE_none {es : List Ent} {p : ByteArray} (h : findE es p = none) : delE es p = es := by
  unfold delE
  refine List.filter_eq_self.2 fun x hx => ?_
  rw [decide_eq_false (find_none h x hx)]
  rfl
theorem len_ins (x : Ent) : ∀ es, (insE x es).length = es.length + 1
  | [] => rfl
  | y :: r => by
    unfold insE
    split
    · rfl
    · rw [List.length_cons, len_ins x r, List.length_cons]
theorem len_put_new {es : List Ent} {x : Ent} (h : findE es x.path = none) : (putE es x).length = es.length + 1 := by
  unfold putE
  rw [len_ins, delE_none h]

/-! ### the map that holds them -/
section
variable {P : Program} {k : TypeId} {w : World} {b n : Nat}
/-- Block b is a map that holds these entries by their paths. -/
def MapE (P : Program) (k : TypeId) (w : World) (b : Nat) (es : List Ent) : Prop := w.ownsMap P k rowE b es.length (datE es)
theorem MapE.of {es : List Ent} (h : w.ownsMap P k rowE b n (datE es)) : MapE P k w b es := by
  obtain ⟨xs, clock, hb, F, _, hD⟩ := h
  refine ⟨xs, clock, hb, F, ?_, hD⟩
  have h1 : (es.map prE).length = ((xs.toList.map (WideElems.rg P k rowE)).foldr DataW.insert []).length := by
    have : DataW.map (es.map prE) = DataW.map _ := hD
    rw [DataW.map.inj this]
  rw [length_sorted, List.length_map, List.length_map, Array.length_toList] at h1
  exact Nat.le_of_eq h1.symm
theorem MapE.lt {es : List Ent} (h : MapE P k w b es) : b < w.heap.size := World.ownsMap.lt h
theorem MapE.same {w' : World} {es : List Ent} (h : MapE P k w b es) (e : w'.heap[b]? = w.heap[b]?) : MapE P k w' b es := by
  obtain ⟨xs, clock, hb, r⟩ := h
  exact ⟨xs, clock, e.trans hb, r⟩
theorem MapE.keeps {w' : World} {B : Nat} {es : List Ent} (h : MapE P k w b es) (hb : Below B w w') (hlt : b < B) : MapE P k w' b es := h.same (hb.block b hlt)
theorem MapE.grown {w' : World} {row : Option Nat} {es : List Ent} (h : MapE P k w b es) (hg : w.grownBy w' row) (hne : some b ≠ row) : MapE P k w' b es := World.ownsMap.kept h hg hne
theorem MapE.made (w : World) : MapE P k (w.alloc (.map #[] 0)) w.heap.size [] := World.ownsMap_made w P k rowE
end
end Go.Proofs.YtgjgeojhhglidaaDoor
