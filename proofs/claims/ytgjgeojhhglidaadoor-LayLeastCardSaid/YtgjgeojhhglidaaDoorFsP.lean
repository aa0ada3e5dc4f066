/-
  A file system's entries by their paths, and what a map that holds them reads as: plain law. What the calls of a file system do: plain law. Paths and what is in them; that a Remove and a Rename leave a file system in order: plain law. A Rename: plain law. What the calls of a file system keep: plain law.
-/
import Derived.Test.YtgjgeojhhglidaaDoorLayPure
import Derived.Maps.OwnSet
import Derived.Maps.Ext
import Derived.Sort.KeysCollected
import Derived.Test.YtgjgeojhhglidaaDoorPathW1
import Derived.Test.YtgjgeojhhglidaaDoorCells
import Derived.Test.YtgjgeojhhglidaaDoorTurned
import Derived.Test.YtgjgeojhhglidaaDoorUnder
namespace Go.Proofs.YtgjgeojhhglidaaDoor
open Go Go.RowKit Go.Maps

theorem before_lt : ∀ x y : List UInt8, bytesBefore x y = decide (x < y)
  | [], [] => by simp [bytesBefore]
  | _ :: _, [] => by simp [bytesBefore]
  | [], _ :: _ => by simp [bytesBefore]
  | a :: x, b :: y => by
    rw [bytesBefore, before_lt x y]
    simp only [List.cons_lt_cons_iff]
    by_cases h1 : a < b <;> by_cases h2 : a = b <;> by_cases h3 : x < y <;> simp [h1, h2, h3]
theorem less_before : ∀ x y : List UInt8, Op.bytesLess x y = bytesBefore x y
  | [], [] => rfl
  | _ :: _, [] => rfl
  | [], _ :: _ => rfl
  | a :: x, b :: y => by rw [Op.bytesLess, bytesBefore, less_before x y]
def pB (x : Ent) : List UInt8 := x.path.data.toList
theorem pB_inj {p q : ByteArray} : p.data.toList = q.data.toList ↔ p = q := by
  constructor
  · intro h
    obtain ⟨⟨p⟩⟩ := p
    obtain ⟨⟨q⟩⟩ := q
    simpa using h
  · intro h
    rw [h]
def befE (x y : Ent) : Bool := bytesBefore (pB x) (pB y)
theorem befE_irr (x : Ent) : befE x x = false := WideAt.bytes_irrefl _
theorem befE_trans {x y z : Ent} (h1 : befE x y = true) (h2 : befE y z = true) : befE x z = true := by
  unfold befE at *
  rw [before_lt, decide_eq_true_eq] at *
  exact List.lt_trans h1 h2
theorem befE_ne {x y : Ent} (h : befE x y = true) : x.path ≠ y.path := fun e => by
  unfold befE pB at h
  rw [e, WideAt.bytes_irrefl] at h
  cases h
theorem befE_total {x y : Ent} (h : x.path ≠ y.path) : befE x y = true ∨ befE y x = true := WideAt.bytes_total _ _ (fun e => h (pB_inj.1 e))
theorem befE_asym {x y : Ent} (h : befE x y = true) : befE y x = false := by
  cases h2 : befE y x with
  | false => rfl
  | true =>
    have := befE_trans h h2
    rw [befE_irr] at this
    cases this

/-! ### what an entry reads as -/
def encEnt (x : Ent) : DataW Unit := .agg [.lit (.string (pB x)), .lit (.int .i64 x.id), .lit (.bool x.dir), .lit (.string x.data.data.toList)]
def rowE : Value → Option (DataW Unit × List MemPlace)
  | .agg cs => match cs.toList with
    | [.string p, .int .i64 i, .bool d, .string s] => some (encEnt ⟨p, i, d, s⟩, [])
    | _ => none
  | _ => none
theorem rowE_val (x : Ent) : rowE x.val = some (encEnt x, []) := rfl
theorem rowE_inv {v : Value} {z : DataW Unit × List MemPlace} (h : rowE v = some z) : ∃ x : Ent, v = x.val ∧ z = (encEnt x, []) := by
  unfold rowE at h
  split at h
  · rename_i cs
    split at h
    · rename_i p i d s hc
      cases h
      refine ⟨⟨p, i, d, s⟩, ?_, rfl⟩
      show Value.agg cs = Value.agg _
      congr 1
      rw [← Array.toList_inj, hc]
    · cases h
  · cases h
theorem encEnt_inj {x y : Ent} (h : encEnt x = encEnt y) : x = y := by
  unfold encEnt at h
  simp only [DataW.agg.injEq, List.cons.injEq, DataW.lit.injEq, Lit.string.injEq, Lit.int.injEq, Lit.bool.injEq, true_and, and_true] at h
  obtain ⟨h1, h2, h3, h4⟩ := h
  replace h1 := pB_inj.1 h1
  replace h4 := pB_inj.1 h4
  cases x
  cases y
  simp only at h1 h2 h3 h4
  rw [h1, h2, h3, h4]

/-! ### lists of entries, by rising path -/
def insE (x : Ent) : List Ent → List Ent
  | [] => [x]
  | y :: r => if befE x y then x :: y :: r else y :: insE x r
def delE (es : List Ent) (p : ByteArray) : List Ent := es.filter fun y => !decide (y.path = p)
def putE (es : List Ent) (x : Ent) : List Ent := insE x (delE es x.path)
def Rising (es : List Ent) : Prop := es.Pairwise fun x y => befE x y = true
def prE (x : Ent) : Lit × DataW Unit := (.string (pB x), encEnt x)
def datE (es : List Ent) : DataW Unit := .map (es.map prE)
theorem ins_map (x : Ent) : ∀ es, (insE x es).map prE = DataW.insert (prE x) (es.map prE)
  | [] => rfl
  | y :: r => by
    have e : (prE x).1.before (prE y).1 = befE x y := rfl
    rw [insE, List.map_cons, DataW.insert, e]
    split
    · rfl
    · rw [List.map_cons, ins_map x r]
theorem same_path (y : Ent) (p : ByteArray) : (prE y).1.sameKey (.string p.data.toList) = decide (y.path = p) := by
  show (pB y == p.data.toList) = _
  by_cases h : y.path = p
  · rw [decide_eq_true h, ← h]
    exact beq_self_eq_true _
  · rw [decide_eq_false h, beq_eq_false_iff_ne]
    exact fun e => h (pB_inj.1 e)
theorem del_map (es : List Ent) (p : ByteArray) : (es.map prE).filter (fun q => !q.1.sameKey (.string p.data.toList)) = (delE es p).map prE := by
  rw [List.filter_map, delE]
  congr 1
  refine List.filter_congr fun y _ => ?_
  show (!(prE y).1.sameKey _) = _
  rw [same_path]
theorem dat_put (es : List Ent) (x : Ent) : (datE es).put (.string (pB x)) (encEnt x) = datE (putE es x) := by
  show DataW.map (DataW.insert (prE x) ((es.map prE).filter fun q => !q.1.sameKey (.string x.path.data.toList))) = _
  rw [del_map, ← ins_map]
  rfl
theorem dat_del (es : List Ent) (p : ByteArray) : (datE es).del (.string p.data.toList) = datE (delE es p) := by
  show DataW.map ((es.map prE).filter fun q => !q.1.sameKey (.string p.data.toList)) = _
  rw [del_map]
  rfl
theorem find_map (es : List Ent) (p : ByteArray) : (es.map prE).find? (fun q => q.1.sameKey (.string p.data.toList)) = (findE es p).map prE := by
  rw [List.find?_map, findE]
  congr 2
  funext y
  exact same_path y p
theorem dat_at (es : List Ent) (p : ByteArray) (zd : DataW Unit) : (datE es).atKey (.string p.data.toList) zd = ((findE es p).map encEnt).getD zd := by
  unfold datE DataW.atKey
  dsimp only
  rw [find_map]
  cases findE es p <;> rfl
theorem dat_has (es : List Ent) (p : ByteArray) : Maps.has (datE es) (.string p.data.toList) = (findE es p).isSome := by
  have h : ((es.map prE).find? fun q => q.1.sameKey (.string p.data.toList)).isSome = (es.map prE).any fun q => q.1.sameKey (.string p.data.toList) := List.isSome_find? ..
  show (es.map prE).any (fun q => q.1.sameKey (.string p.data.toList)) = _
  rw [← h, find_map]
  cases findE es p <;> rfl
theorem dat_size (es : List Ent) : Maps.size (datE es) = es.length := by
  show (es.map prE).length = _
  rw [List.length_map]
theorem dat_keys (es : List Ent) : strKeys (datE es) = es.map pB := by
  show (es.map prE).map (fun p => strOf p.1) = _
  rw [List.map_map]
  rfl
theorem mem_insE {x z : Ent} : ∀ {es}, z ∈ insE x es ↔ z = x ∨ z ∈ es
  | [] => by simp [insE]
  | y :: r => by
    unfold insE
    split
    · exact List.mem_cons
    · rw [List.mem_cons, mem_insE, List.mem_cons]
      constructor
      · rintro (h | h | h)
        · exact .inr (.inl h)
        · exact .inl h
        · exact .inr (.inr h)
      · rintro (h | h | h)
        · exact .inr (.inl h)
        · exact .inl h
        · exact .inr (.inr h)
theorem mem_delE {es : List Ent} {p : ByteArray} {z : Ent} : z ∈ delE es p ↔ z ∈ es ∧ z.path ≠ p := by
  unfold delE
  rw [List.mem_filter, Bool.not_eq_true', decide_eq_false_iff_not]
theorem mem_putE {es : List Ent} {x z : Ent} : z ∈ putE es x ↔ z = x ∨ (z ∈ es ∧ z.path ≠ x.path) := by
  unfold putE
  rw [mem_insE, mem_delE]
theorem rising_ins {x : Ent} : ∀ {es}, Rising es → (∀ y ∈ es, y.path ≠ x.path) → Rising (insE x es)
  | [], _, _ => List.pairwise_singleton _ _
  | y :: r, h, hx => by
    unfold insE
    split
    · rename_i hb
      refine List.pairwise_cons.2 ⟨fun z hz => ?_, h⟩
      rcases List.mem_cons.1 hz with rfl | hz
      · exact hb
      · exact befE_trans hb ((List.pairwise_cons.1 h).1 z hz)
    · rename_i hb
      have hyx : befE y x = true := (befE_total (hx y List.mem_cons_self)).resolve_right hb
      refine List.pairwise_cons.2 ⟨fun z hz => ?_, rising_ins (List.pairwise_cons.1 h).2 (fun z hz => hx z (List.mem_cons_of_mem _ hz))⟩
      rcases mem_insE.1 hz with rfl | hz
      · exact hyx
      · exact (List.pairwise_cons.1 h).1 z hz
theorem rising_filter {es : List Ent} (h : Rising es) (f : Ent → Bool) : Rising (es.filter f) := List.Pairwise.filter f h
theorem rising_put {es : List Ent} (h : Rising es) (x : Ent) : Rising (putE es x) := rising_ins (rising_filter h _) (fun _ hy => (mem_delE.1 hy).2)
theorem rising_one {es : List Ent} (h : Rising es) {x y : Ent} (hx : x ∈ es) (hy : y ∈ es) (e : x.path = y.path) : x = y := by
  induction es with
  | nil => cases hx
  | cons z r ih =>
    obtain ⟨h1, h2⟩ := List.pairwise_cons.1 h
    rcases List.mem_cons.1 hx with hx1 | hx1 <;> rcases List.mem_cons.1 hy with hy1 | hy1
    · rw [hx1, hy1]
    · subst hx1
      exact absurd e (befE_ne (h1 y hy1))
    · subst hy1
      exact absurd e.symm (befE_ne (h1 x hx1))
    · exact ih h2 hx1 hy1
theorem rising_nodup {es : List Ent} (h : Rising es) : es.Nodup := h.imp fun {x y} hb e => by
  rw [e, befE_irr] at hb
  cases hb
/-- Two rising lists with the same entries are one. -/
theorem rising_ext {us vs : List Ent} (ha : Rising us) (hb : Rising vs) (h : ∀ x, x ∈ us ↔ x ∈ vs) : us = vs :=
  List.Perm.eq_of_pairwise (le := fun x y => befE x y = true) (fun x y _ _ h1 h2 => by rw [befE_asym h1] at h2; cases h2) ha hb ((List.perm_ext_iff_of_nodup (rising_nodup ha) (rising_nodup hb)).2 h)
theorem find_some {es : List Ent} {p : ByteArray} {x : Ent} (h : findE es p = some x) : x ∈ es ∧ x.path = p := by
  unfold findE at h
  exact ⟨List.mem_of_find?_eq_some h, by simpa using List.find?_some h⟩
theorem find_none {es : List Ent} {p : ByteArray} (h : findE es p = none) : ∀ x ∈ es, x.path ≠ p := by
  intro x hx e
  unfold findE at h
  have := List.find?_eq_none.1 h x hx
  simp [e] at this
theorem find_of {es : List Ent} (hr : Rising es) {x : Ent} (hx : x ∈ es) : findE es x.path = some x := by
  cases h : findE es x.path with
  | none => exact absurd rfl (find_none h x hx)
  | some y =>
    obtain ⟨h1, h2⟩ := find_some h
    rw [rising_one hr h1 hx h2]
theorem keys_sorted {es : List Ent} (h : Rising es) : (es.map pB).mergeSort leB = es.map pB := by
  refine List.mergeSort_of_pairwise ?_
  rw [List.pairwise_map]
  refine h.imp fun {x y} hb => ?_
  unfold befE at hb
  rw [before_lt, decide_eq_true_eq] at hb
  simp only [leB, decide_eq_true_eq]
  exact List.le_of_lt hb
theorem delE_none {es : List Ent} {p : ByteArray} (h : findE es p = none) : delE es p = es := by
  unfold delE
  refine List.filter_eq_self.2 fun x hx => ?_
  rw [decide_eq_false (find_none h x hx)]
  rfl
theorem len_ins (x : Ent) : ∀ es, (insE x es).length = es.length + 1
  | [] => rfl
  | y :: r => by
    unfold insE
    split
    · rfl
    · rw [List.length_cons, len_ins x r, List.length_cons]
theorem len_put_new {es : List Ent} {x : Ent} (h : findE es x.path = none) : (putE es x).length = es.length + 1 := by
  unfold putE
  rw [len_ins, delE_none h]

/-! ### the map that holds them -/
section
variable {P : Program} {k : TypeId} {w : World} {b n : Nat}
/-- Block b is a map that holds these entries by their paths. -/
def MapE (P : Program) (k : TypeId) (w : World) (b : Nat) (es : List Ent) : Prop := w.ownsMap P k rowE b es.length (datE es)
theorem MapE.of {es : List Ent} (h : w.ownsMap P k rowE b n (datE es)) : MapE P k w b es := by
  obtain ⟨xs, clock, hb, F, _, hD⟩ := h
  refine ⟨xs, clock, hb, F, ?_, hD⟩
  have h1 : (es.map prE).length = ((xs.toList.map (WideElems.rg P k rowE)).foldr DataW.insert []).length := by
    have : DataW.map (es.map prE) = DataW.map _ := hD
    rw [DataW.map.inj this]
  rw [length_sorted, List.length_map, List.length_map, Array.length_toList] at h1
  exact Nat.le_of_eq h1.symm
theorem MapE.lt {es : List Ent} (h : MapE P k w b es) : b < w.heap.size := World.ownsMap.lt h
theorem MapE.same {w' : World} {es : List Ent} (h : MapE P k w b es) (e : w'.heap[b]? = w.heap[b]?) : MapE P k w' b es := by
  obtain ⟨xs, clock, hb, r⟩ := h
  exact ⟨xs, clock, e.trans hb, r⟩
theorem MapE.keeps {w' : World} {B : Nat} {es : List Ent} (h : MapE P k w b es) (hb : Below B w w') (hlt : b < B) : MapE P k w' b es := h.same (hb.block b hlt)
theorem MapE.grown {w' : World} {row : Option Nat} {es : List Ent} (h : MapE P k w b es) (hg : w.grownBy w' row) (hne : some b ≠ row) : MapE P k w' b es := World.ownsMap.kept h hg hne
theorem MapE.made (w : World) : MapE P k (w.alloc (.map #[] 0)) w.heap.size [] := World.ownsMap_made w P k rowE
end
end Go.Proofs.YtgjgeojhhglidaaDoor

namespace Go.Proofs.YtgjgeojhhglidaaDoor
open Go Go.RowKit Go.Maps Go.Lib

structure Fs where
  n : Nat
  es : List Ent
def noBa : ByteArray := ⟨#[]⟩
def slashI (p : ByteArray) : Int := Lib.lastIndexByte p 47
def isDirE (es : List Ent) (p : ByteArray) : Bool := ((findE es p).map (·.dir)).getD false
/-- Does the directory of a path stand? -/
def standsE (es : List Ent) (p : ByteArray) : Bool := decide (slashI p < 0) || isDirE es (p.extract 0 (slashI p).toNat)
def madeF (f : Fs) (x : Ent) : Fs × Int :=
  if standsE f.es x.path = false then (f, 44) else if 300 ≤ f.es.length then (f, 41) else (⟨f.n + 1, putE f.es ⟨x.path, (f.n : Int) + 1, x.dir, x.data⟩⟩, 0)
def mkdirF (f : Fs) (p : ByteArray) : Fs × Int :=
  if pathG p.data.toList = false then (f, 23) else if (findE f.es p).isSome then (f, 24) else madeF f ⟨p, 0, true, noBa⟩
def writeF (f : Fs) (p d : ByteArray) : Fs × Int :=
  if pathG p.data.toList = false then (f, 23) else if 4096 < d.size then (f, 40) else match findE f.es p with
    | none => madeF f ⟨p, 0, false, d⟩
    | some x => if x.dir then (f, 44) else (⟨f.n, putE f.es ⟨x.path, x.id, x.dir, d⟩⟩, 0)
/-- Is a path another one, or in it? -/
def inE (d q : ByteArray) : Bool := decide (q = d) || underB q d
def newP (a b q : ByteArray) : ByteArray := b ++ q.extract a.size q.size
def movE (a b : ByteArray) (x : Ent) : Ent := if inE a x.path then ⟨newP a b x.path, x.id, x.dir, x.data⟩ else x
def sortE (l : List Ent) : List Ent := l.foldr insE []
def renameF (f : Fs) (a b : ByteArray) : Fs × Int :=
  if (findE f.es a).isNone then (f, 25) else if pathG b.data.toList = false then (f, 23) else if (findE f.es b).isSome then (f, 24) else
  if standsE f.es b = false ∨ underB b a = true then (f, 44) else
  if f.es.any (fun x => inE a x.path && !pathG (newP a b x.path).data.toList) then (f, 23) else (⟨f.n, sortE (f.es.map (movE a b))⟩, 0)
def removeF (f : Fs) (p : ByteArray) : Fs × Int :=
  if (findE f.es p).isNone then (f, 25) else (⟨f.n, f.es.filter fun x => !inE p x.path⟩, 0)
def getF (f : Fs) (p : ByteArray) : Ent × Int := match findE f.es p with
  | none => (noEnt, 25)
  | some x => (x, 0)

/-! ### what always holds -/
structure FsOK (f : Fs) : Prop where
  rise : Rising f.es
  path : ∀ x ∈ f.es, pathG x.path.data.toList = true
  up : ∀ x ∈ f.es, standsE f.es x.path = true
  few : f.es.length ≤ 300
theorem ok_new : FsOK ⟨0, []⟩ := ⟨List.Pairwise.nil, (fun _ h => nomatch h), (fun _ h => nomatch h), Nat.zero_le _⟩
theorem isDir_of {es : List Ent} (hr : Rising es) {p : ByteArray} : isDirE es p = true ↔ ∃ x ∈ es, x.path = p ∧ x.dir = true := by
  unfold isDirE
  constructor
  · intro h
    cases hf : findE es p with
    | none => rw [hf] at h; cases h
    | some x =>
      rw [hf] at h
      obtain ⟨h1, h2⟩ := find_some hf
      exact ⟨x, h1, h2, h⟩
  · rintro ⟨x, hx, rfl, hd⟩
    rw [find_of hr hx]
    exact hd
theorem stands_of {es : List Ent} (hr : Rising es) {p : ByteArray} : standsE es p = true ↔ slashI p < 0 ∨ ∃ x ∈ es, x.path = p.extract 0 (slashI p).toNat ∧ x.dir = true := by
  unfold standsE
  rw [Bool.or_eq_true, decide_eq_true_eq, isDir_of hr]
theorem ok_made {f : Fs} (h : FsOK f) {x : Ent} (hp : pathG x.path.data.toList = true) (hn : findE f.es x.path = none) : FsOK (madeF f x).1 := by
  unfold madeF
  split
  · exact h
  rename_i hs
  split
  · exact h
  rename_i hl
  have hs' : standsE f.es x.path = true := by
    cases hx : standsE f.es x.path with
    | true => rfl
    | false => exact absurd hx hs
  have hr := rising_put h.rise ⟨x.path, (f.n : Int) + 1, x.dir, x.data⟩
  have hkeep : ∀ y ∈ f.es, y ∈ putE f.es ⟨x.path, (f.n : Int) + 1, x.dir, x.data⟩ := fun y hy => mem_putE.2 (.inr ⟨hy, find_none hn y hy⟩)
  refine ⟨hr, fun y hy => ?_, fun y hy => ?_, ?_⟩
  · rcases mem_putE.1 hy with rfl | ⟨hy, _⟩
    · exact hp
    · exact h.path y hy
  · have key : standsE f.es y.path = true := by
      rcases mem_putE.1 hy with rfl | ⟨hy, _⟩
      · exact hs'
      · exact h.up y hy
    rw [stands_of hr]
    rcases (stands_of h.rise).1 key with h1 | ⟨z, hz, h1⟩
    · exact .inl h1
    · exact .inr ⟨z, hkeep z hz, h1⟩
  · show (putE f.es ⟨x.path, (f.n : Int) + 1, x.dir, x.data⟩).length ≤ 300
    rw [len_put_new (x := ⟨x.path, (f.n : Int) + 1, x.dir, x.data⟩) hn]
    omega
theorem ok_mkdir {f : Fs} (h : FsOK f) (p : ByteArray) : FsOK (mkdirF f p).1 := by
  unfold mkdirF
  split
  · exact h
  rename_i hp
  split
  · exact h
  rename_i hn
  refine ok_made h ?_ ?_
  · cases hx : pathG p.data.toList with
    | true => rfl
    | false => exact absurd hx hp
  · cases hx : findE f.es p with
    | none => rfl
    | some y => rw [hx] at hn; exact absurd rfl hn
theorem ok_write {f : Fs} (h : FsOK f) (p d : ByteArray) : FsOK (writeF f p d).1 := by
  unfold writeF
  split
  · exact h
  rename_i hp
  split
  · exact h
  have hp' : pathG p.data.toList = true := by
    cases hx : pathG p.data.toList with
    | true => rfl
    | false => exact absurd hx hp
  cases hf : findE f.es p with
  | none => exact ok_made (x := ⟨p, 0, false, d⟩) h hp' hf
  | some x =>
    obtain ⟨hx, rfl⟩ := find_some hf
    dsimp only
    split
    · exact h
    rename_i hd
    have hr := rising_put h.rise ⟨x.path, x.id, x.dir, d⟩
    have hdir : ∀ y ∈ f.es, y.dir = true → y ∈ putE f.es ⟨x.path, x.id, x.dir, d⟩ := fun y hy hyd => mem_putE.2 (.inr ⟨hy, fun e => by
      have := rising_one h.rise hy hx e
      rw [this] at hyd
      exact hd hyd⟩)
    refine ⟨hr, fun y hy => ?_, fun y hy => ?_, ?_⟩
    · rcases mem_putE.1 hy with rfl | ⟨hy, _⟩
      · exact hp'
      · exact h.path y hy
    · have key : standsE f.es y.path = true := by
        rcases mem_putE.1 hy with rfl | ⟨hy, _⟩
        · exact h.up x hx
        · exact h.up y hy
      rw [stands_of hr]
      rcases (stands_of h.rise).1 key with h1 | ⟨z, hz, h1, h2⟩
      · exact .inl h1
      · exact .inr ⟨z, hdir z hz h2, h1, h2⟩
    · show (putE f.es ⟨x.path, x.id, x.dir, d⟩).length ≤ 300
      unfold putE
      rw [len_ins]
      have h1 : (delE f.es x.path).length < f.es.length := by
        unfold delE
        refine List.length_filter_lt_length_iff_exists.2 ⟨x, hx, ?_⟩
        simp
      have := h.few
      dsimp only
      omega
end Go.Proofs.YtgjgeojhhglidaaDoor

namespace Go.Proofs.YtgjgeojhhglidaaDoor
open Go Go.RowKit Go.Lib

theorem slash_spec (p : ByteArray) : (slashI p < 0 ∧ ∀ x ∈ p.data.toList, x ≠ 47) ∨ ∃ a b, p.data.toList = a ++ 47 :: b ∧ (∀ x ∈ b, x ≠ 47) ∧ slashI p = (a.length : Nat) := by
  have hb : ∀ j (hj : j < p.data.toList.length), p.data[j]! = p.data.toList[j] := fun j hj => by
    rw [getElem!_pos p.data j (by simpa using hj)]
    simp
  unfold slashI
  rcases lastIndexByte_spec p 47 with ⟨e, hn⟩ | ⟨i, hi, e, hc, hn⟩
  · refine .inl ⟨by omega, fun x hx => ?_⟩
    obtain ⟨j, hj, rfl⟩ := List.mem_iff_getElem.1 hx
    have := hn j (by rw [size_eq]; exact hj)
    rw [hb j hj] at this
    intro e2
    rw [e2] at this
    exact this rfl
  · rw [size_eq] at hi hn
    rw [hb i hi] at hc
    have hc' : p.data.toList[i] = 47 := by
      rw [← UInt8.toNat_inj]
      exact Int.ofNat.inj hc
    refine .inr ⟨p.data.toList.take i, p.data.toList.drop (i + 1), ?_, fun x hx => ?_, ?_⟩
    · rw [← hc', ← List.drop_eq_getElem_cons hi, List.take_append_drop]
    · obtain ⟨j, hj, rfl⟩ := List.mem_iff_getElem.1 hx
      rw [List.length_drop] at hj
      have := hn (i + 1 + j) (by omega) (by omega)
      rw [hb (i + 1 + j) (by omega)] at this
      rw [List.getElem_drop]
      intro e2
      rw [e2] at this
      exact this rfl
    · rw [e, List.length_take, Nat.min_eq_left (by omega)]
theorem slash_split {p : ByteArray} {a b : List UInt8} (h : p.data.toList = a ++ 47 :: b) (hb : ∀ x ∈ b, x ≠ 47) : slashI p = (a.length : Nat) := by
  rcases slash_spec p with ⟨_, h2⟩ | ⟨a', b', h1, h2, h3⟩
  · exact absurd rfl (h2 47 (by rw [h]; simp))
  · rw [h3]
    rw [h] at h1
    have : a = a' := by
      rcases List.append_eq_append_iff.1 h1 with ⟨c, h4, h5⟩ | ⟨c, h4, h5⟩
      · cases c with
        | nil => simpa using h4.symm
        | cons y c =>
          simp only [List.cons_append, List.cons.injEq] at h5
          exact absurd rfl (hb 47 (by rw [h5.2]; simp))
      · cases c with
        | nil => simpa using h4
        | cons y c =>
          simp only [List.cons_append, List.cons.injEq] at h5
          exact absurd rfl (h2 47 (by rw [h5.2]; simp))
    rw [this]
theorem slash_neg {p : ByteArray} (h : ∀ x ∈ p.data.toList, x ≠ 47) : slashI p < 0 := by
  rcases slash_spec p with ⟨h1, _⟩ | ⟨a, b, h1, _, _⟩
  · exact h1
  · exact absurd rfl (h 47 (by rw [h1]; simp))
theorem dir_list {p : ByteArray} {a b : List UInt8} (h : p.data.toList = a ++ 47 :: b) (hs : slashI p = (a.length : Nat)) : (p.extract 0 (slashI p).toNat).data.toList = a := by
  rw [hs, Int.toNat_natCast, ← toList_data, extract_toList, h]
  simp

/-! ### right paths -/
def rightsL (l : List UInt8) : Bool := (splitL 47 l).all rightL
theorem path_parts (l : List UInt8) : pathG l = (decide ((splitL 47 l).length ≤ 16) && rightsL l) := by
  unfold pathG rightsL
  congr 1
  rw [Bool.eq_iff_iff, Bool.not_eq_true', List.any_eq_false, List.all_eq_true]
  constructor
  · intro h p hp
    have := h (ba p) (List.mem_map.2 ⟨p, hp, rfl⟩)
    unfold wrongP at this
    rw [ba_data] at this
    simpa using this
  · intro h q hq
    obtain ⟨p, hp, rfl⟩ := List.mem_map.1 hq
    unfold wrongP
    rw [ba_data, h p hp]
    simp
theorem splitL_join (c : UInt8) (b : List UInt8) : ∀ a, splitL c (a ++ c :: b) = splitL c a ++ splitL c b
  | [] => by simp [splitL]
  | x :: a => by
    rw [List.cons_append, splitL, splitL, splitL_join c b a]
    split
    · rfl
    · cases hs : splitL c a with
      | nil => exact absurd hs (splitL_ne c a)
      | cons p ps => rfl
theorem rights_join (a b : List UInt8) : rightsL (a ++ 47 :: b) = (rightsL a && rightsL b) := by
  unfold rightsL
  rw [splitL_join, List.all_append]
theorem rights_nil : rightsL [] = false := rfl
theorem rights_ne {l : List UInt8} (h : rightsL l = true) : l ≠ [] := fun e => by
  rw [e, rights_nil] at h
  cases h
theorem path_rights {l : List UInt8} (h : pathG l = true) : rightsL l = true := by
  rw [path_parts, Bool.and_eq_true] at h
  exact h.2
theorem right_size {l : List UInt8} (h : rightL l = true) : l.length ≤ 24 := by
  unfold rightL at h
  simp only [Bool.and_eq_true, decide_eq_true_eq] at h
  exact h.1.1.1.1.1.2
theorem split_size (c : UInt8) : ∀ l : List UInt8, (∀ p ∈ splitL c l, p.length ≤ 24) → l.length + 1 ≤ 25 * (splitL c l).length
  | [], _ => by simp [splitL]
  | x :: l, h => by
    by_cases hx : x = c
    · rw [splitL, if_pos hx] at h ⊢
      have := split_size c l (fun p hp => h p (List.mem_cons_of_mem _ hp))
      simp only [List.length_cons]
      omega
    · rw [splitL, if_neg hx] at h ⊢
      cases hs : splitL c l with
      | nil => exact absurd hs (splitL_ne c l)
      | cons p ps =>
        rw [hs] at h
        dsimp only at h ⊢
        have h1 := h (x :: p) List.mem_cons_self
        have key : ∀ (l : List UInt8) (p : List UInt8) (ps : List (List UInt8)), splitL c l = p :: ps → l.length = p.length + (ps.map fun q => q.length + 1).sum := by
          intro l
          induction l with
          | nil =>
            intro p ps e
            simp only [splitL, List.cons.injEq] at e
            obtain ⟨rfl, rfl⟩ := e
            rfl
          | cons y l ih =>
            intro p ps e
            rw [splitL] at e
            split at e
            · simp only [List.cons.injEq] at e
              obtain ⟨rfl, e⟩ := e
              cases hl : splitL c l with
              | nil => exact absurd hl (splitL_ne c l)
              | cons q qs =>
                rw [hl] at e
                subst e
                have := ih q qs hl
                simp only [List.length_cons, List.length_nil, List.map_cons, List.sum_cons]
                omega
            · cases hl : splitL c l with
              | nil => exact absurd hl (splitL_ne c l)
              | cons q qs =>
                rw [hl] at e
                simp only [List.cons.injEq] at e
                obtain ⟨rfl, rfl⟩ := e
                have := ih q qs hl
                simp only [List.length_cons]
                omega
        have h2 := key l p ps hs
        have h3 : ∀ ps : List (List UInt8), (∀ q ∈ ps, q.length ≤ 24) → (ps.map fun q => q.length + 1).sum ≤ 25 * ps.length := by
          intro ps
          induction ps with
          | nil => intro _; exact Nat.le_refl _
          | cons q qs ih =>
            intro hq
            have a1 := ih (fun r hr => hq r (List.mem_cons_of_mem _ hr))
            have a2 := hq q List.mem_cons_self
            simp only [List.map_cons, List.sum_cons, List.length_cons]
            omega
        have h4 := h3 ps (fun q hq => h q (List.mem_cons_of_mem _ hq))
        simp only [List.length_cons] at h1 ⊢
        omega
theorem path_size {p : ByteArray} (h : pathG p.data.toList = true) : p.size ≤ 400 := by
  rw [path_parts, Bool.and_eq_true, decide_eq_true_eq] at h
  have := split_size 47 p.data.toList (fun q hq => right_size (List.all_eq_true.1 h.2 q hq))
  rw [size_eq]
  omega
theorem underE_iff {p d : ByteArray} : underB p d = true ↔ ∃ r, r ≠ [] ∧ p.data.toList = d.data.toList ++ 47 :: r := by
  unfold underB
  simp only [Bool.and_eq_true, decide_eq_true_eq]
  constructor
  · rintro ⟨⟨h1, h2⟩, h3⟩
    rw [size_eq, size_eq] at h1
    rw [size_eq] at h2 h3
    refine ⟨p.data.toList.drop (d.data.toList.length + 1), ?_, ?_⟩
    · intro e
      have := List.drop_eq_nil_iff.1 e
      omega
    · have h4 := (List.take_append_drop d.data.toList.length p.data.toList).symm
      rw [h2] at h4
      obtain ⟨hk, e⟩ := List.getElem?_eq_some_iff.1 h3
      rw [List.drop_eq_getElem_cons hk, e] at h4
      exact h4
  · rintro ⟨r, hr, e⟩
    rw [size_eq, size_eq, e]
    have := List.length_pos_iff.2 hr
    refine ⟨⟨?_, ?_⟩, ?_⟩
    · simp only [List.length_append, List.length_cons]
      omega
    · rw [List.take_left]
    · simp
theorem inE_iff {d q : ByteArray} : inE d q = true ↔ q = d ∨ ∃ r, r ≠ [] ∧ q.data.toList = d.data.toList ++ 47 :: r := by
  unfold inE
  rw [Bool.or_eq_true, decide_eq_true_eq, underE_iff]
/-- A right path whose directory is in another is in it. -/
theorem in_up {d q z : ByteArray} (hq : rightsL q.data.toList = true) {b : List UInt8} (h : q.data.toList = z.data.toList ++ 47 :: b) (hz : inE d z = true) : inE d q = true := by
  have hb : b ≠ [] := by
    rw [h, rights_join, Bool.and_eq_true] at hq
    exact rights_ne hq.2
  rw [inE_iff] at hz ⊢
  rcases hz with rfl | ⟨r, hr, e⟩
  · exact .inr ⟨b, hb, h⟩
  · refine .inr ⟨r ++ 47 :: b, by simp, ?_⟩
    rw [h, e]
    simp
/-- A right path's directory, where it has one. -/
theorem up_split {es : List Ent} (hr : Rising es) {p : ByteArray} (h : standsE es p = true) : (∀ x ∈ p.data.toList, x ≠ 47) ∨ ∃ z ∈ es, z.dir = true ∧ ∃ b, p.data.toList = z.path.data.toList ++ 47 :: b ∧ ∀ x ∈ b, x ≠ 47 := by
  rcases (stands_of hr).1 h with h1 | ⟨z, hz, h1, h2⟩
  · rcases slash_spec p with ⟨_, h3⟩ | ⟨a, b, h3, h4, h5⟩
    · exact .inl h3
    · omega
  · rcases slash_spec p with ⟨_, h3⟩ | ⟨a, b, h3, h4, h5⟩
    · exact .inl h3
    · refine .inr ⟨z, hz, h2, b, ?_, h4⟩
      rw [h1, dir_list h3 h5]
      exact h3
theorem up_of {es : List Ent} (hr : Rising es) {p : ByteArray} (h : (∀ x ∈ p.data.toList, x ≠ 47) ∨ ∃ z ∈ es, z.dir = true ∧ ∃ b, p.data.toList = z.path.data.toList ++ 47 :: b ∧ ∀ x ∈ b, x ≠ 47) : standsE es p = true := by
  rw [stands_of hr]
  rcases h with h | ⟨z, hz, hd, b, h1, h2⟩
  · exact .inl (slash_neg h)
  · refine .inr ⟨z, hz, ?_, hd⟩
    rw [← pB_inj, dir_list h1 (slash_split h1 h2)]
theorem ok_remove {f : Fs} (h : FsOK f) (p : ByteArray) : FsOK (removeF f p).1 := by
  unfold removeF
  split
  · exact h
  have hr := rising_filter h.rise fun x => !inE p x.path
  refine ⟨hr, fun x hx => h.path x (List.mem_filter.1 hx).1, fun y hy => ?_, Nat.le_trans (List.length_filter_le _ _) h.few⟩
  obtain ⟨hy1, hy2⟩ := List.mem_filter.1 hy
  refine up_of hr ?_
  rcases up_split h.rise (h.up y hy1) with h1 | ⟨z, hz, hd, b, h1, h2⟩
  · exact .inl h1
  · refine .inr ⟨z, List.mem_filter.2 ⟨hz, ?_⟩, hd, b, h1, h2⟩
    cases hi : inE p z.path with
    | false => rfl
    | true =>
      rw [in_up (path_rights (h.path y hy1)) h1 hi] at hy2
      cases hy2
/-- What a path is within stands. -/
theorem anc {f : Fs} (h : FsOK f) {d : ByteArray} (hd : rightsL d.data.toList = true) : ∀ (n : Nat) (y : Ent), y ∈ f.es → ∀ r, r.length ≤ n → y.path.data.toList = d.data.toList ++ 47 :: r → ∃ z ∈ f.es, z.path = d
  | n, y, hy, r, hn, e => by
    rcases up_split h.rise (h.up y hy) with h1 | ⟨z, hz, _, b, h1, h2⟩
    · exact absurd rfl (h1 47 (by rw [e]; simp))
    · rw [e] at h1
      rcases List.append_eq_append_iff.1 h1 with ⟨c, h4, h5⟩ | ⟨c, h4, h5⟩
      · cases c with
        | nil => exact ⟨z, hz, pB_inj.1 (by simpa using h4)⟩
        | cons x c =>
          simp only [List.cons_append, List.cons.injEq] at h5
          obtain ⟨rfl, h5⟩ := h5
          cases n with
          | zero =>
            rw [h5] at hn
            simp at hn
          | succ n =>
            refine anc h hd n z hz c ?_ h4
            rw [h5] at hn
            simp only [List.length_append, List.length_cons] at hn
            omega
      · cases c with
        | nil => exact ⟨z, hz, pB_inj.1 (by simpa using h4.symm)⟩
        | cons x c =>
          simp only [List.cons_append, List.cons.injEq] at h5
          exact absurd rfl (h2 47 (by rw [h5.2]; simp))
end Go.Proofs.YtgjgeojhhglidaaDoor

namespace Go.Proofs.YtgjgeojhhglidaaDoor
open Go Go.RowKit Go.Lib

theorem in_tail {a q : ByteArray} : inE a q = true ↔ ∃ t, (t = [] ∨ ∃ r, r ≠ [] ∧ t = 47 :: r) ∧ q.data.toList = a.data.toList ++ t := by
  rw [inE_iff]
  constructor
  · rintro (rfl | ⟨r, hr, e⟩)
    · exact ⟨[], .inl rfl, (List.append_nil _).symm⟩
    · exact ⟨47 :: r, .inr ⟨r, hr, rfl⟩, e⟩
  · rintro ⟨t, rfl | ⟨r, hr, rfl⟩, e⟩
    · exact .inl (pB_inj.1 (by rw [e, List.append_nil]))
    · exact .inr ⟨r, hr, e⟩
theorem newP_tail {a b q : ByteArray} {t : List UInt8} (h : q.data.toList = a.data.toList ++ t) : (newP a b q).data.toList = b.data.toList ++ t := by
  unfold newP
  have h1 : (q.extract a.size q.size).data.toList = t := by
    rw [← toList_data, extract_toList, size_eq, size_eq, h]
    simp
  rw [ByteArray.data_append, Array.toList_append, h1]
theorem movE_in {a b : ByteArray} {x : Ent} (h : inE a x.path = true) : movE a b x = ⟨newP a b x.path, x.id, x.dir, x.data⟩ := if_pos h
theorem movE_out {a b : ByteArray} {x : Ent} (h : inE a x.path = false) : movE a b x = x := if_neg (by rw [h]; exact Bool.false_ne_true)
theorem new_inj {a b p q : ByteArray} (hp : inE a p = true) (hq : inE a q = true) (e : newP a b p = newP a b q) : p = q := by
  obtain ⟨t, _, h1⟩ := in_tail.1 hp
  obtain ⟨u, _, h2⟩ := in_tail.1 hq
  have h3 := newP_tail (b := b) h1
  rw [e, newP_tail (b := b) h2] at h3
  rw [← pB_inj, h1, h2, List.append_cancel_left h3]
theorem new_apart {f : Fs} (h : FsOK f) {a b : ByteArray} (hb : pathG b.data.toList = true) (hn : findE f.es b = none) {q : ByteArray} (hq : inE a q = true) {y : Ent} (hy : y ∈ f.es) : y.path ≠ newP a b q := by
  intro e
  obtain ⟨t, ht, h1⟩ := in_tail.1 hq
  have h2 := newP_tail (b := b) h1
  rw [← e] at h2
  rcases ht with rfl | ⟨r, hr, rfl⟩
  · exact find_none hn y hy (pB_inj.1 (by rw [h2, List.append_nil]))
  · obtain ⟨z, hz, hzb⟩ := anc h (path_rights hb) r.length y hy r (Nat.le_refl _) h2
    exact find_none hn z hz hzb
theorem mov_one {f : Fs} (h : FsOK f) {a b : ByteArray} (hb : pathG b.data.toList = true) (hn : findE f.es b = none) {x y : Ent} (hx : x ∈ f.es) (hy : y ∈ f.es) (e : (movE a b x).path = (movE a b y).path) : x = y := by
  cases h1 : inE a x.path with
  | true =>
    rw [movE_in h1] at e
    cases h2 : inE a y.path with
    | true =>
      rw [movE_in h2] at e
      exact rising_one h.rise hx hy (new_inj h1 h2 e)
    | false =>
      rw [movE_out h2] at e
      exact absurd e.symm (new_apart h hb hn h1 hy)
  | false =>
    rw [movE_out h1] at e
    cases h2 : inE a y.path with
    | true =>
      rw [movE_in h2] at e
      exact absurd e (new_apart h hb hn h2 hx)
    | false =>
      rw [movE_out h2] at e
      exact rising_one h.rise hx hy e
theorem mem_sortE {z : Ent} : ∀ {l : List Ent}, z ∈ sortE l ↔ z ∈ l
  | [] => Iff.rfl
  | x :: l => by
    show z ∈ insE x (sortE l) ↔ _
    rw [mem_insE, mem_sortE, List.mem_cons]
theorem len_sortE : ∀ l : List Ent, (sortE l).length = l.length
  | [] => rfl
  | x :: l => by
    show (insE x (sortE l)).length = _
    rw [len_ins, len_sortE l, List.length_cons]
theorem rising_sort : ∀ {l : List Ent}, l.Pairwise (fun x y => x.path ≠ y.path) → Rising (sortE l)
  | [], _ => List.Pairwise.nil
  | x :: l, h => by
    obtain ⟨h1, h2⟩ := List.pairwise_cons.1 h
    exact rising_ins (rising_sort h2) (fun y hy => (h1 y (mem_sortE.1 hy)).symm)
theorem mov_apart {f : Fs} (h : FsOK f) {a b : ByteArray} (hb : pathG b.data.toList = true) (hn : findE f.es b = none) : (f.es.map (movE a b)).Pairwise (fun x y => x.path ≠ y.path) := by
  rw [List.pairwise_map]
  refine (rising_nodup h.rise).imp_of_mem fun {x y} hx hy hne e => hne (mov_one h hb hn hx hy e)
/-- The entries behind a Rename, whatever the order. -/
theorem renamed_ext {f : Fs} (h : FsOK f) {a b : ByteArray} (hb : pathG b.data.toList = true) (hn : findE f.es b = none) {l : List Ent} (hr : Rising l) (hm : ∀ z, z ∈ l ↔ ∃ x ∈ f.es, z = movE a b x) : l = sortE (f.es.map (movE a b)) := by
  refine rising_ext hr (rising_sort (mov_apart h hb hn)) fun z => ?_
  rw [hm z, mem_sortE, List.mem_map]
  constructor
  · rintro ⟨x, hx, rfl⟩
    exact ⟨x, hx, rfl⟩
  · rintro ⟨x, hx, rfl⟩
    exact ⟨x, hx, rfl⟩
theorem bool_f {b : Bool} (h : ¬ b = true) : b = false := by
  cases b
  · rfl
  · exact absurd rfl h
theorem bool_t {b : Bool} (h : ¬ b = false) : b = true := by
  cases b
  · exact absurd rfl h
  · rfl
theorem opt_n {α : Type} {o : Option α} (h : ¬ o.isSome = true) : o = none := by
  cases o
  · rfl
  · exact absurd rfl h
theorem opt_s {α : Type} {o : Option α} (h : ¬ o.isNone = true) : ∃ x, o = some x := by
  cases o with
  | none => exact absurd rfl h
  | some x => exact ⟨x, rfl⟩
/-- What lets a Rename be done. -/
structure MayRen (f : Fs) (a b : ByteArray) : Prop where
  there : ∃ x, findE f.es a = some x
  path : pathG b.data.toList = true
  free : findE f.es b = none
  up : standsE f.es b = true
  out : underB b a = false
  all : ∀ x ∈ f.es, inE a x.path = true → pathG (newP a b x.path).data.toList = true
theorem rename_does {f : Fs} {a b : ByteArray} (h : MayRen f a b) : renameF f a b = (⟨f.n, sortE (f.es.map (movE a b))⟩, 0) := by
  unfold renameF
  obtain ⟨x, hx⟩ := h.there
  rw [hx, if_neg (by simp), if_neg (by rw [h.path]; simp), h.free, if_neg (by simp), if_neg (by rw [h.up, h.out]; simp), if_neg]
  intro ha
  obtain ⟨y, hy, h1⟩ := List.any_eq_true.1 ha
  rw [Bool.and_eq_true, Bool.not_eq_true'] at h1
  rw [h.all y hy h1.1] at h1
  cases h1.2
theorem rename_may {f : Fs} {a b : ByteArray} : (∃ e, e ≠ 0 ∧ renameF f a b = (f, e)) ∨ MayRen f a b := by
  unfold renameF
  split
  · exact .inl ⟨25, by decide, rfl⟩
  rename_i h1
  split
  · exact .inl ⟨23, by decide, rfl⟩
  rename_i h2
  split
  · exact .inl ⟨24, by decide, rfl⟩
  rename_i h3
  split
  · exact .inl ⟨44, by decide, rfl⟩
  rename_i h4
  split
  · exact .inl ⟨23, by decide, rfl⟩
  rename_i h5
  refine .inr ⟨opt_s h1, bool_t h2, opt_n h3, bool_t (fun e => h4 (.inl e)), bool_f (fun e => h4 (.inr e)), fun x hx hi => ?_⟩
  have := List.any_eq_false.1 (bool_f h5) x hx
  rw [hi, Bool.true_and, Bool.not_eq_true'] at this
  exact bool_t this
theorem ok_rename {f : Fs} (h : FsOK f) (a b : ByteArray) : FsOK (renameF f a b).1 := by
  rcases rename_may (f := f) (a := a) (b := b) with ⟨e, _, h1⟩ | hm
  · rw [h1]
    exact h
  rw [rename_does hm]
  have hr := rising_sort (mov_apart (a := a) h hm.path hm.free)
  refine ⟨hr, fun z hz => ?_, fun z hz => ?_, ?_⟩
  · obtain ⟨x, hx, rfl⟩ := List.mem_map.1 (mem_sortE.1 hz)
    cases hi : inE a x.path with
    | true =>
      rw [movE_in hi]
      exact hm.all x hx hi
    | false =>
      rw [movE_out hi]
      exact h.path x hx
  · obtain ⟨x, hx, rfl⟩ := List.mem_map.1 (mem_sortE.1 hz)
    have keep : ∀ y ∈ f.es, inE a y.path = false → y ∈ sortE (f.es.map (movE a b)) := fun y hy hi => mem_sortE.2 (List.mem_map.2 ⟨y, hy, movE_out hi⟩)
    refine up_of hr ?_
    cases hi : inE a x.path with
    | false =>
      rw [movE_out hi]
      rcases up_split h.rise (h.up x hx) with h1 | ⟨y, hy, hd, c, h1, h2⟩
      · exact .inl h1
      · refine .inr ⟨y, keep y hy ?_, hd, c, h1, h2⟩
        cases hy2 : inE a y.path with
        | false => rfl
        | true =>
          rw [in_up (path_rights (h.path x hx)) h1 hy2] at hi
          cases hi
    | true =>
      rw [movE_in hi]
      obtain ⟨t, ht, h1⟩ := in_tail.1 hi
      have h2 := newP_tail (b := b) h1
      rcases ht with rfl | ⟨r, hr0, rfl⟩
      · rw [List.append_nil] at h2
        rw [pB_inj.1 h2]
        rcases up_split h.rise hm.up with h3 | ⟨y, hy, hd, c, h3, h4⟩
        · exact .inl h3
        · refine .inr ⟨y, keep y hy ?_, hd, c, h3, h4⟩
          cases hy2 : inE a y.path with
          | false => rfl
          | true =>
            have hb := in_up (path_rights hm.path) h3 hy2
            unfold inE at hb
            rw [hm.out, Bool.or_false, decide_eq_true_eq] at hb
            obtain ⟨u, hu⟩ := hm.there
            obtain ⟨hu1, hu2⟩ := find_some hu
            rw [hb] at hm
            exact absurd hu2 (find_none hm.free u hu1)
      · rcases up_split h.rise (h.up x hx) with h3 | ⟨y, hy, hd, c, h3, h4⟩
        · exact absurd rfl (h3 47 (by rw [h1]; simp))
        · rw [h1] at h3
          have hy2 : inE a y.path = true ∧ ∃ u, y.path.data.toList = a.data.toList ++ u ∧ 47 :: r = u ++ 47 :: c := by
            rcases List.append_eq_append_iff.1 h3 with ⟨u, h5, h6⟩ | ⟨u, h5, h6⟩
            · refine ⟨?_, u, h5, h6⟩
              cases u with
              | nil => exact inE_iff.2 (.inl (pB_inj.1 (by simpa using h5)))
              | cons v u =>
                simp only [List.cons_append, List.cons.injEq] at h6
                obtain ⟨rfl, h6⟩ := h6
                refine inE_iff.2 (.inr ⟨u, ?_, h5⟩)
                rintro rfl
                have h7 := path_rights (h.path y hy)
                rw [h5, rights_join, Bool.and_eq_true] at h7
                exact absurd rfl (rights_ne h7.2)
            · cases u with
              | nil => exact ⟨inE_iff.2 (.inl (pB_inj.1 (by simpa using h5.symm))), [], by simpa using h5.symm, by simpa using h6.symm⟩
              | cons v u =>
                simp only [List.cons_append, List.cons.injEq] at h6
                exact absurd rfl (h4 47 (by rw [h6.2]; simp))
          obtain ⟨hy2, u, h5, h6⟩ := hy2
          refine .inr ⟨movE a b y, mem_sortE.2 (List.mem_map.2 ⟨y, hy, rfl⟩), ?_, c, ?_, h4⟩
          · rw [movE_in hy2]
            exact hd
          · rw [movE_in hy2]
            show (newP a b x.path).data.toList = (newP a b y.path).data.toList ++ 47 :: c
            rw [h2, newP_tail (b := b) h5, h6, List.append_assoc]
  · show (sortE (f.es.map (movE a b))).length ≤ 300
    rw [len_sortE, List.length_map]
    exact h.few
end Go.Proofs.YtgjgeojhhglidaaDoor

namespace Go.Proofs.YtgjgeojhhglidaaDoor
open Go Go.RowKit Go.Lib

structure Ask where
  ask : Int
  path : ByteArray
  dest : ByteArray
  data : ByteArray
/-- What a call does. -/
def opF (f : Fs) (x : Ask) : Fs × Int :=
  if x.ask = 0 then mkdirF f x.path else if x.ask = 1 then writeF f x.path x.data else if x.ask = 2 then renameF f x.path x.dest else removeF f x.path
theorem ok_op {f : Fs} (h : FsOK f) (x : Ask) : FsOK (opF f x).1 := by
  unfold opF
  split
  · exact ok_mkdir h _
  split
  · exact ok_write h _ _
  split
  · exact ok_rename h _ _
  · exact ok_remove h _
/-- The numbers of entries. -/
structure IdsOK (f : Fs) : Prop where
  low : ∀ x ∈ f.es, 1 ≤ x.id ∧ x.id ≤ f.n
  one : ∀ x ∈ f.es, ∀ y ∈ f.es, x.id = y.id → x = y
  bare : ∀ x ∈ f.es, x.dir = true → x.data = noBa
theorem ids_new : IdsOK ⟨0, []⟩ := ⟨(fun _ h => nomatch h), (fun _ h => nomatch h), (fun _ h => nomatch h)⟩
/-- What a call keeps. -/
structure StepOK (f : Fs) (r : Fs × Int) : Prop where
  same : r.2 ≠ 0 → r.1 = f
  ids : IdsOK r.1
  num : r.1.n = f.n ∨ (r.1.n = f.n + 1 ∧ ∃ y ∈ r.1.es, y.id = (f.n : Int) + 1)
  fresh : ∀ y ∈ r.1.es, (∃ x ∈ f.es, x.id = y.id) ∨ y.id = (f.n : Int) + 1
theorem step_stay {f : Fs} (h : IdsOK f) (e : Int) : StepOK f (f, e) := ⟨fun _ => rfl, h, .inl rfl, fun y hy => .inl ⟨y, hy, rfl⟩⟩
theorem step_made {f : Fs} (h : IdsOK f) {x : Ent} (hx : x.dir = true → x.data = noBa) : StepOK f (madeF f x) := by
  unfold madeF
  split
  · exact step_stay h _
  split
  · exact step_stay h _
  refine ⟨fun e => absurd rfl e, ⟨fun z hz => ?_, fun y hy z hz e => ?_, fun z hz hd => ?_⟩, .inr ⟨rfl, _, mem_putE.2 (.inl rfl), rfl⟩, fun z hz => ?_⟩
  · rcases mem_putE.1 hz with rfl | ⟨hz, _⟩
    · show 1 ≤ (f.n : Int) + 1 ∧ (f.n : Int) + 1 ≤ ((f.n + 1 : Nat) : Int)
      omega
    · have := h.low z hz
      show 1 ≤ z.id ∧ z.id ≤ ((f.n + 1 : Nat) : Int)
      omega
  · rcases mem_putE.1 hy with rfl | ⟨hy, _⟩ <;> rcases mem_putE.1 hz with rfl | ⟨hz, _⟩
    · rfl
    · have h1 := (h.low z hz).2
      have h2 : (f.n : Int) + 1 = z.id := e
      omega
    · have h1 := (h.low y hy).2
      have h2 : y.id = (f.n : Int) + 1 := e
      omega
    · exact h.one y hy z hz e
  · rcases mem_putE.1 hz with rfl | ⟨hz, _⟩
    · exact hx hd
    · exact h.bare z hz hd
  · rcases mem_putE.1 hz with rfl | ⟨hz, _⟩
    · exact .inr rfl
    · exact .inl ⟨z, hz, rfl⟩
theorem mov_id (a b : ByteArray) (x : Ent) : (movE a b x).id = x.id ∧ (movE a b x).dir = x.dir ∧ (movE a b x).data = x.data := by
  unfold movE
  split <;> exact ⟨rfl, rfl, rfl⟩
theorem step_op {f : Fs} (h : IdsOK f) (x : Ask) : StepOK f (opF f x) := by
  unfold opF
  split
  · unfold mkdirF
    split
    · exact step_stay h _
    split
    · exact step_stay h _
    exact step_made h fun _ => rfl
  split
  · unfold writeF
    split
    · exact step_stay h _
    split
    · exact step_stay h _
    split
    · exact step_made h fun e => by cases e
    rename_i y hf
    split
    · exact step_stay h _
    rename_i hd
    obtain ⟨hy, _⟩ := find_some hf
    refine ⟨fun e => absurd rfl e, ⟨fun z hz => ?_, fun u hu z hz e => ?_, fun z hz hz2 => ?_⟩, .inl rfl, fun z hz => ?_⟩
    · rcases mem_putE.1 hz with rfl | ⟨hz, _⟩
      · exact h.low y hy
      · exact h.low z hz
    · rcases mem_putE.1 hu with rfl | ⟨hu, h1⟩ <;> rcases mem_putE.1 hz with rfl | ⟨hz, h2⟩
      · rfl
      · have := h.one y hy z hz e
        rw [this] at h2
        exact absurd rfl h2
      · have := h.one u hu y hy e
        rw [this] at h1
        exact absurd rfl h1
      · exact h.one u hu z hz e
    · rcases mem_putE.1 hz with rfl | ⟨hz, _⟩
      · exact absurd hz2 hd
      · exact h.bare z hz hz2
    · rcases mem_putE.1 hz with rfl | ⟨hz, _⟩
      · exact .inl ⟨y, hy, rfl⟩
      · exact .inl ⟨z, hz, rfl⟩
  split
  · rcases rename_may (f := f) (a := x.path) (b := x.dest) with ⟨e, _, h1⟩ | hm
    · rw [h1]
      exact step_stay h _
    rw [rename_does hm]
    have key : ∀ z ∈ sortE (f.es.map (movE x.path x.dest)), ∃ y ∈ f.es, z = movE x.path x.dest y := fun z hz => by
      obtain ⟨y, hy, e⟩ := List.mem_map.1 (mem_sortE.1 hz)
      exact ⟨y, hy, e.symm⟩
    refine ⟨fun e => absurd rfl e, ⟨fun z hz => ?_, fun u hu z hz e => ?_, fun z hz hz2 => ?_⟩, .inl rfl, fun z hz => ?_⟩
    · obtain ⟨y, hy, rfl⟩ := key z hz
      rw [(mov_id _ _ y).1]
      exact h.low y hy
    · obtain ⟨y, hy, rfl⟩ := key z hz
      obtain ⟨v, hv, rfl⟩ := key u hu
      rw [(mov_id _ _ y).1, (mov_id _ _ v).1] at e
      rw [h.one v hv y hy e]
    · obtain ⟨y, hy, rfl⟩ := key z hz
      rw [(mov_id _ _ y).2.1] at hz2
      rw [(mov_id _ _ y).2.2]
      exact h.bare y hy hz2
    · obtain ⟨y, hy, rfl⟩ := key z hz
      exact .inl ⟨y, hy, (mov_id _ _ y).1.symm⟩
  · unfold removeF
    split
    · exact step_stay h _
    refine ⟨fun e => absurd rfl e, ⟨fun z hz => h.low z (List.mem_filter.1 hz).1, fun u hu z hz e => h.one u (List.mem_filter.1 hu).1 z (List.mem_filter.1 hz).1 e, fun z hz hz2 => h.bare z (List.mem_filter.1 hz).1 hz2⟩, .inl rfl, fun z hz => .inl ⟨z, (List.mem_filter.1 hz).1, rfl⟩⟩
theorem op_n {f : Fs} (h : IdsOK f) (x : Ask) : (opF f x).1.n ≤ f.n + 1 := by
  rcases (step_op h x).num with h1 | ⟨h1, _⟩ <;> omega

/-! ### a Rename there and back -/
theorem none_in {f : Fs} (h : FsOK f) {b : ByteArray} (hb : pathG b.data.toList = true) (hn : findE f.es b = none) {x : Ent} (hx : x ∈ f.es) : inE b x.path = false := by
  refine bool_f fun e => ?_
  rcases inE_iff.1 e with e | ⟨r, hr, e⟩
  · exact find_none hn x hx e
  · obtain ⟨z, hz, e2⟩ := anc h (path_rights hb) r.length x hx r (Nat.le_refl _) e
    exact find_none hn z hz e2
theorem in_new {a q : ByteArray} (b : ByteArray) (h : inE a q = true) : inE b (newP a b q) = true := by
  obtain ⟨t, ht, e⟩ := in_tail.1 h
  exact in_tail.2 ⟨t, ht, newP_tail e⟩
theorem new_back {a q : ByteArray} (b : ByteArray) (h : inE a q = true) : newP b a (newP a b q) = q := by
  obtain ⟨t, ht, e⟩ := in_tail.1 h
  rw [← pB_inj, newP_tail (newP_tail e), e]
theorem new_self (a b : ByteArray) : newP a b a = b := by
  rw [← pB_inj, newP_tail (t := []) (List.append_nil _).symm, List.append_nil]
theorem in_self (a : ByteArray) : inE a a = true := inE_iff.2 (.inl rfl)
theorem mem_ren {f : Fs} {a b : ByteArray} (hm : MayRen f a b) {z : Ent} : z ∈ (renameF f a b).1.es ↔ ∃ x ∈ f.es, z = movE a b x := by
  rw [rename_does hm]
  show z ∈ sortE _ ↔ _
  rw [mem_sortE, List.mem_map]
  constructor
  · rintro ⟨x, hx, e⟩
    exact ⟨x, hx, e.symm⟩
  · rintro ⟨x, hx, e⟩
    exact ⟨x, hx, e.symm⟩
theorem ren_gone {f : Fs} (h : FsOK f) {a b : ByteArray} (hm : MayRen f a b) : findE (renameF f a b).1.es a = none := by
  cases hf : findE (renameF f a b).1.es a with
  | none => rfl
  | some z =>
    exfalso
    obtain ⟨hz, e⟩ := find_some hf
    obtain ⟨x, hx, rfl⟩ := (mem_ren hm).1 hz
    obtain ⟨x0, h0⟩ := hm.there
    obtain ⟨h1, h2⟩ := find_some h0
    have h3 := none_in h hm.path hm.free h1
    rw [h2] at h3
    cases hi : inE a x.path with
    | true =>
      rw [movE_in hi] at e
      have e2 : newP a b x.path = a := e
      have h4 := in_new b hi
      rw [e2, h3] at h4
      cases h4
    | false =>
      rw [movE_out hi] at e
      rw [e, in_self] at hi
      cases hi
theorem ren_there {f : Fs} (h : FsOK f) {a b : ByteArray} (hm : MayRen f a b) : (findE (renameF f a b).1.es b).isSome = true := by
  obtain ⟨x0, h0⟩ := hm.there
  obtain ⟨h1, h2⟩ := find_some h0
  have h3 : movE a b x0 ∈ (renameF f a b).1.es := (mem_ren hm).2 ⟨x0, h1, rfl⟩
  have h4 := find_of (ok_rename h a b).rise h3
  rw [movE_in (by rw [h2]; exact in_self a)] at h4
  have h5 : newP a b x0.path = b := by rw [h2, new_self]
  dsimp only at h4
  rw [h5] at h4
  rw [h4]
  rfl
theorem ren_len {f : Fs} {a b : ByteArray} (hm : MayRen f a b) : (renameF f a b).1.es.length = f.es.length := by
  rw [rename_does hm]
  show (sortE _).length = _
  rw [len_sortE, List.length_map]
theorem ren_may {f : Fs} (h : FsOK f) {a b : ByteArray} (hm : MayRen f a b) : MayRen (renameF f a b).1 b a := by
  obtain ⟨x0, h0⟩ := hm.there
  obtain ⟨h1, h2⟩ := find_some h0
  have h3 := none_in h hm.path hm.free h1
  rw [h2] at h3
  refine ⟨Option.isSome_iff_exists.1 (ren_there h hm), by rw [← h2]; exact h.path x0 h1, ren_gone h hm, ?_, ?_, fun z hz hi => ?_⟩
  · refine up_of (ok_rename h a b).rise ?_
    have hu := h.up x0 h1
    rw [h2] at hu
    rcases up_split h.rise hu with h4 | ⟨z, hz, hd, c, h4, h5⟩
    · exact .inl h4
    · refine .inr ⟨z, (mem_ren hm).2 ⟨z, hz, (movE_out ?_).symm⟩, hd, c, h4, h5⟩
      refine bool_f fun e => ?_
      obtain ⟨t, _, e2⟩ := in_tail.1 e
      have := congrArg List.length h4
      rw [e2] at this
      simp only [List.length_append, List.length_cons] at this
      omega
  · refine bool_f fun e => ?_
    have : inE b a = true := by
      unfold inE
      rw [e, Bool.or_true]
    rw [h3] at this
    cases this
  · obtain ⟨y, hy, rfl⟩ := (mem_ren hm).1 hz
    cases hj : inE a y.path with
    | true =>
      rw [movE_in hj]
      show pathG (newP b a (newP a b y.path)).data.toList = true
      rw [new_back b hj]
      exact h.path y hy
    | false =>
      rw [movE_out hj, none_in h hm.path hm.free hy] at hi
      cases hi
theorem ren_back {f : Fs} (h : FsOK f) {a b : ByteArray} (hm : MayRen f a b) : renameF (renameF f a b).1 b a = (f, 0) := by
  have hm2 := ren_may h hm
  rw [rename_does hm2]
  have e1 : f.es = sortE ((renameF f a b).1.es.map (movE b a)) := by
    refine renamed_ext (ok_rename h a b) hm2.path hm2.free h.rise fun z => ?_
    constructor
    · intro hz
      refine ⟨movE a b z, (mem_ren hm).2 ⟨z, hz, rfl⟩, ?_⟩
      cases hi : inE a z.path with
      | true =>
        rw [movE_in hi, movE_in (in_new b hi)]
        show z = ⟨newP b a (newP a b z.path), z.id, z.dir, z.data⟩
        rw [new_back b hi]
      | false => rw [movE_out hi, movE_out (none_in h hm.path hm.free hz)]
    · rintro ⟨y, hy, rfl⟩
      obtain ⟨z, hz, rfl⟩ := (mem_ren hm).1 hy
      cases hi : inE a z.path with
      | true =>
        rw [movE_in hi, movE_in (in_new b hi)]
        show (⟨newP b a (newP a b z.path), z.id, z.dir, z.data⟩ : Ent) ∈ f.es
        rw [new_back b hi]
        exact hz
      | false =>
        rw [movE_out hi, movE_out (none_in h hm.path hm.free hz)]
        exact hz
  rw [← e1, rename_does hm]

/-! ### a Remove -/
theorem remove_err {f : Fs} {p : ByteArray} (h : (removeF f p).2 ≠ 0) : findE f.es p = none ∧ (removeF f p).1 = f := by
  unfold removeF at *
  split at h
  · rename_i h1
    rw [if_pos h1]
    refine ⟨?_, rfl⟩
    cases hf : findE f.es p with
    | none => rfl
    | some x => rw [hf] at h1; cases h1
  · exact absurd rfl h
theorem remove_ok {f : Fs} {p : ByteArray} (h : (removeF f p).2 = 0) : (∃ x ∈ f.es, x.path = p) ∧ (removeF f p).1 = ⟨f.n, f.es.filter fun x => !inE p x.path⟩ := by
  unfold removeF at *
  split at h
  · cases h
  · rename_i h1
    rw [if_neg h1]
    obtain ⟨x, hx⟩ := opt_s h1
    obtain ⟨h2, h3⟩ := find_some hx
    exact ⟨⟨x, h2, h3⟩, rfl⟩
theorem remove_none (f : Fs) (p : ByteArray) : findE (removeF f p).1.es p = none := by
  by_cases h : (removeF f p).2 = 0
  · rw [(remove_ok h).2]
    cases hf : findE (f.es.filter fun x => !inE p x.path) p with
    | none => rfl
    | some x =>
      obtain ⟨h1, h2⟩ := find_some hf
      have h3 := (List.mem_filter.1 h1).2
      rw [h2, in_self] at h3
      cases h3
  · rw [(remove_err h).2]
    exact (remove_err h).1
theorem remove_less {f : Fs} {p : ByteArray} (h : (removeF f p).2 = 0) : (f.es.filter fun x => !inE p x.path).length < f.es.length := by
  obtain ⟨⟨x, hx, e⟩, _⟩ := remove_ok h
  refine Nat.lt_of_le_of_ne (List.length_filter_le _ _) fun e2 => ?_
  have h1 := (List.filter_eq_self (p := fun x : Ent => !inE p x.path) (l := f.es)).1 (List.filter_sublist.eq_of_length e2) x hx
  rw [e, in_self] at h1
  cases h1
end Go.Proofs.YtgjgeojhhglidaaDoor

