/-
  A map of the call's own from texts to things of one cell, as a list of pairs; of no program but for the type of its keys.
-/
import Derived.Test.YtgglheelhbfgiaaGreatDoorSlices
import Derived.Test.YtgglheelhbfgiaaGreatDoorStructs
import Derived.Test.YtgglheelhbfgiaaGreatDoorShelf
import Derived.Maps.OwnSet
import Derived.Maps.Ext
import Derived.Maps.RangeWalk
import Derived.Sort.KeysCollected
namespace Go.Proofs.YtgglheelhbfgiaaGreatDoor
open Go Go.RowKit Go.Lib
/-- What a map holds: how it is written, and what it reads as. -/
structure ValK (α : Type) where
  val : α → Value
  enc : α → DataW Unit
  row : Value → Option (DataW Unit × List MemPlace)
  row_val : ∀ a, row (val a) = some (enc a, [])
  row_inv : ∀ v z, row v = some z → ∃ a, v = val a ∧ z = (enc a, [])
  enc_inj : ∀ a b, enc a = enc b → a = b
def rowInt : Value → Option (DataW Unit × List MemPlace)
  | .int .i64 i => some (.lit (.int .i64 i), [])
  | _ => none
def rowBool : Value → Option (DataW Unit × List MemPlace)
  | .bool i => some (.lit (.bool i), [])
  | _ => none
def rowStr : Value → Option (DataW Unit × List MemPlace)
  | .string s => some (.lit (.string s.data.toList), [])
  | _ => none
theorem rowInt_inv (v : Value) (z : DataW Unit × List MemPlace) (h : rowInt v = some z) : ∃ a : Int, v = .int .i64 a ∧ z = (.lit (.int .i64 a), []) := by
  unfold rowInt at h
  split at h
  · cases h
    exact ⟨_, rfl, rfl⟩
  · cases h
theorem rowBool_inv (v : Value) (z : DataW Unit × List MemPlace) (h : rowBool v = some z) : ∃ a : Bool, v = .bool a ∧ z = (.lit (.bool a), []) := by
  unfold rowBool at h
  split at h
  · cases h
    exact ⟨_, rfl, rfl⟩
  · cases h
theorem rowStr_inv (v : Value) (z : DataW Unit × List MemPlace) (h : rowStr v = some z) : ∃ a : ByteArray, v = .string a ∧ z = (.lit (.string a.data.toList), []) := by
  unfold rowStr at h
  split at h
  · cases h
    exact ⟨_, rfl, rfl⟩
  · cases h
def intV : ValK Int := { val := Value.int .i64, enc := fun i => .lit (.int .i64 i), row := rowInt, row_val := fun _ => rfl, row_inv := rowInt_inv, enc_inj := fun a b h => by cases h; rfl }
def boolV : ValK Bool := { val := Value.bool, enc := fun i => .lit (.bool i), row := rowBool, row_val := fun _ => rfl, row_inv := rowBool_inv, enc_inj := fun a b h => by cases h; rfl }
theorem bytesK_inj {p q : ByteArray} : p.data.toList = q.data.toList ↔ p = q := by
  constructor
  · intro h
    obtain ⟨⟨p⟩⟩ := p
    obtain ⟨⟨q⟩⟩ := q
    simpa using h
  · intro h
    rw [h]
def strV : ValK ByteArray := { val := Value.string, enc := fun s => .lit (.string s.data.toList), row := rowStr, row_val := fun _ => rfl, row_inv := rowStr_inv, enc_inj := fun a b h => by simp only [DataW.lit.injEq, Lit.string.injEq] at h; exact bytesK_inj.1 h }
section
variable {α : Type}
def pK (x : ByteArray × α) : List UInt8 := x.1.data.toList
def insK (x : ByteArray × α) : List (ByteArray × α) → List (ByteArray × α)
  | [] => [x]
  | y :: r => if bytesBefore (pK x) (pK y) then x :: y :: r else y :: insK x r
def delK (es : List (ByteArray × α)) (p : ByteArray) : List (ByteArray × α) := es.filter fun y => !decide (y.1 = p)
def putK (es : List (ByteArray × α)) (p : ByteArray) (a : α) : List (ByteArray × α) := insK (p, a) (delK es p)
def findK (es : List (ByteArray × α)) (p : ByteArray) : Option α := (es.find? fun y => decide (y.1 = p)).map (·.2)
def prK (K : ValK α) (x : ByteArray × α) : Lit × DataW Unit := (.string (pK x), K.enc x.2)
def datK (K : ValK α) (es : List (ByteArray × α)) : DataW Unit := .map (es.map (prK K))
variable (K : ValK α)
theorem insK_map (x : ByteArray × α) : ∀ es, (insK x es).map (prK K) = DataW.insert (prK K x) (es.map (prK K))
  | [] => rfl
  | y :: r => by
    have e : (prK K x).1.before (prK K y).1 = bytesBefore (pK x) (pK y) := rfl
    rw [insK, List.map_cons, DataW.insert, e]
    split
    · rfl
    · rw [List.map_cons, insK_map x r]
theorem sameK (y : ByteArray × α) (p : ByteArray) : (prK K y).1.sameKey (.string p.data.toList) = decide (y.1 = p) := by
  show (pK y == p.data.toList) = _
  by_cases h : y.1 = p
  · rw [decide_eq_true h, ← h]
    exact beq_self_eq_true _
  · rw [decide_eq_false h, beq_eq_false_iff_ne]
    exact fun e => h (bytesK_inj.1 e)
theorem delK_map (es : List (ByteArray × α)) (p : ByteArray) : (es.map (prK K)).filter (fun q => !q.1.sameKey (.string p.data.toList)) = (delK es p).map (prK K) := by
  rw [List.filter_map, delK]
  congr 1
  refine List.filter_congr fun y _ => ?_
  show (!(prK K y).1.sameKey _) = _
  rw [sameK]
theorem datK_put (es : List (ByteArray × α)) (p : ByteArray) (a : α) : (datK K es).put (.string p.data.toList) (K.enc a) = datK K (putK es p a) := by
  show DataW.map (DataW.insert (prK K (p, a)) ((es.map (prK K)).filter fun q => !q.1.sameKey (.string p.data.toList))) = _
  rw [delK_map, ← insK_map]
  rfl
theorem findK_map (es : List (ByteArray × α)) (p : ByteArray) : (es.map (prK K)).find? (fun q => q.1.sameKey (.string p.data.toList)) = (es.find? fun y => decide (y.1 = p)).map (prK K) := by
  rw [List.find?_map]
  congr 2
  funext y
  exact sameK K y p
theorem datK_at (es : List (ByteArray × α)) (p : ByteArray) (zd : DataW Unit) : (datK K es).atKey (.string p.data.toList) zd = ((findK es p).map K.enc).getD zd := by
  unfold datK DataW.atKey findK
  dsimp only
  rw [findK_map]
  cases es.find? (fun y => decide (y.1 = p)) <;> rfl
theorem datK_has (es : List (ByteArray × α)) (p : ByteArray) : Maps.has (datK K es) (.string p.data.toList) = (findK es p).isSome := by
  have h : ((es.map (prK K)).find? fun q => q.1.sameKey (.string p.data.toList)).isSome = (es.map (prK K)).any fun q => q.1.sameKey (.string p.data.toList) := List.isSome_find? ..
  show (es.map (prK K)).any (fun q => q.1.sameKey (.string p.data.toList)) = _
  rw [← h, findK_map]
  unfold findK
  cases es.find? (fun y => decide (y.1 = p)) <;> rfl
theorem datK_size (es : List (ByteArray × α)) : Maps.size (datK K es) = es.length := by
  show (es.map (prK K)).length = _
  rw [List.length_map]
theorem datK_keys (es : List (ByteArray × α)) : strKeys (datK K es) = es.map pK := by
  show (es.map (prK K)).map (fun p => strOf p.1) = _
  rw [List.map_map]
  rfl
/-! ### as a function -/
theorem insK_perm (x : ByteArray × α) : ∀ es, (insK x es).Perm (x :: es)
  | [] => List.Perm.refl _
  | y :: r => by
    unfold insK
    split
    · exact List.Perm.refl _
    · exact ((insK_perm x r).cons y).trans (List.Perm.swap x y r)
theorem keysK_put (es : List (ByteArray × α)) (p : ByteArray) (a : α) (h : (es.map (·.1)).Nodup) : ((putK es p a).map (·.1)).Nodup := by
  unfold putK
  rw [((insK_perm (p, a) (delK es p)).map (·.1)).nodup_iff, List.map_cons, List.nodup_cons]
  refine ⟨fun hm => ?_, ?_⟩
  · obtain ⟨y, hy, e⟩ := List.mem_map.1 hm
    have := (List.mem_filter.1 hy).2
    rw [show y.1 = p from e, decide_eq_true rfl] at this
    cases this
  · exact (List.Nodup.sublist (List.filter_sublist.map _) h)
theorem findK_some {es : List (ByteArray × α)} {p : ByteArray} {a : α} (h : findK es p = some a) : (p, a) ∈ es := by
  unfold findK at h
  rw [Option.map_eq_some_iff] at h
  obtain ⟨⟨q, b⟩, h1, h2⟩ := h
  have h3 : q = p := by simpa using List.find?_some h1
  have h4 : b = a := h2
  subst h3 h4
  exact List.mem_of_find?_eq_some h1
theorem findK_of {es : List (ByteArray × α)} (hn : (es.map (·.1)).Nodup) {p : ByteArray} {a : α} (h : (p, a) ∈ es) : findK es p = some a := by
  induction es with
  | nil => cases h
  | cons y r ih =>
    obtain ⟨h1, h2⟩ := List.nodup_cons.1 hn
    unfold findK
    rcases List.mem_cons.1 h with e | h
    · rw [← e, List.find?_cons_of_pos (by simp)]
      rfl
    · have hne : ¬ y.1 = p := fun e => h1 (List.mem_map.2 ⟨_, h, e.symm⟩)
      rw [List.find?_cons_of_neg (by simpa using hne)]
      exact ih h2 h
theorem findK_put {es : List (ByteArray × α)} (hn : (es.map (·.1)).Nodup) (p : ByteArray) (a : α) (q : ByteArray) : findK (putK es p a) q = if q = p then some a else findK es q := by
  have hn2 := keysK_put es p a hn
  have hm : ∀ z, z ∈ putK es p a ↔ z = (p, a) ∨ (z ∈ es ∧ z.1 ≠ p) := fun z => by
    unfold putK
    rw [(insK_perm (p, a) (delK es p)).mem_iff, List.mem_cons, delK, List.mem_filter, Bool.not_eq_true', decide_eq_false_iff_not]
  split
  · rename_i e
    subst e
    exact findK_of hn2 ((hm _).2 (.inl rfl))
  · rename_i e
    cases h : findK es q with
    | some b => exact findK_of hn2 ((hm _).2 (.inr ⟨findK_some h, e⟩))
    | none =>
      cases h2 : findK (putK es p a) q with
      | none => rfl
      | some b =>
        rcases (hm _).1 (findK_some h2) with h3 | ⟨h3, _⟩
        · exact absurd (Prod.mk.inj h3).1 e
        · rw [findK_of hn h3] at h
          cases h
theorem mem_keysK {es : List (ByteArray × α)} {p : ByteArray} : p ∈ es.map (·.1) ↔ (findK es p).isSome = true := by
  constructor
  · intro h
    obtain ⟨y, hy, e⟩ := List.mem_map.1 h
    unfold findK
    rw [Option.isSome_map, List.isSome_find?, List.any_eq_true]
    exact ⟨y, hy, decide_eq_true e⟩
  · intro h
    obtain ⟨a, ha⟩ := Option.isSome_iff_exists.1 h
    exact List.mem_map.2 ⟨_, findK_some ha, rfl⟩
theorem lenK_put (es : List (ByteArray × α)) (p : ByteArray) (a : α) : (putK es p a).length ≤ es.length + 1 := by
  unfold putK
  rw [(insK_perm (p, a) (delK es p)).length_eq, List.length_cons]
  have := List.length_filter_le (fun y : ByteArray × α => !decide (y.1 = p)) es
  unfold delK
  omega
theorem keys_back {es : List (ByteArray × α)} {ss : List (List UInt8)} (h : ss.Perm (es.map pK)) : (ss.map fun s => (⟨s.toArray⟩ : ByteArray)).Perm (es.map (·.1)) := by
  refine (h.map _).trans (List.Perm.of_eq ?_)
  rw [List.map_map]
  refine List.map_congr_left fun x _ => ?_
  obtain ⟨⟨⟨p⟩⟩, a⟩ := x
  rfl
/-! ### in memory -/
variable {P : Program} {k : TypeId} {w : World} {b n : Nat}
def MapK (P : Program) (k : TypeId) (w : World) (b : Nat) (es : List (ByteArray × α)) : Prop := w.ownsMap P k K.row b es.length (datK K es)
variable {K}
theorem lengthK_sorted (l : List (Lit × DataW Unit)) : (l.foldr DataW.insert []).length = l.length := by
  induction l with
  | nil => rfl
  | cons x r ih =>
    have : ∀ (y : Lit × DataW Unit) (m : List (Lit × DataW Unit)), (DataW.insert y m).length = m.length + 1 := fun y m => by
      induction m with
      | nil => rfl
      | cons z m ih2 =>
        rw [DataW.insert]
        split
        · rfl
        · rw [List.length_cons, ih2, List.length_cons]
    rw [List.foldr_cons, this, ih, List.length_cons]
theorem MapK.of {es : List (ByteArray × α)} (h : w.ownsMap P k K.row b n (datK K es)) : MapK K P k w b es := by
  obtain ⟨xs, clock, hb, F, _, hD⟩ := h
  refine ⟨xs, clock, hb, F, ?_, hD⟩
  have h1 : (es.map (prK K)).length = ((xs.toList.map (WideElems.rg P k K.row)).foldr DataW.insert []).length := by
    have : DataW.map (es.map (prK K)) = DataW.map _ := hD
    rw [DataW.map.inj this]
  rw [lengthK_sorted, List.length_map, List.length_map, Array.length_toList] at h1
  exact Nat.le_of_eq h1.symm
theorem MapK.lt {es : List (ByteArray × α)} (h : MapK K P k w b es) : b < w.heap.size := World.ownsMap.lt h
theorem MapK.same {w' : World} {es : List (ByteArray × α)} (h : MapK K P k w b es) (e : w'.heap[b]? = w.heap[b]?) : MapK K P k w' b es := by
  obtain ⟨xs, clock, hb, r⟩ := h
  exact ⟨xs, clock, e.trans hb, r⟩
theorem MapK.keeps {w' : World} {B : Nat} {es : List (ByteArray × α)} (h : MapK K P k w b es) (hb : Below B w w') (hlt : b < B) : MapK K P k w' b es := h.same (hb.block b hlt)
theorem MapK.grown {w' : World} {row : Option Nat} {es : List (ByteArray × α)} (h : MapK K P k w b es) (hg : w.grownBy w' row) (hne : some b ≠ row) : MapK K P k w' b es := World.ownsMap.kept h hg hne
theorem MapK.made (w : World) : MapK K P k (w.alloc (.map #[] 0)) w.heap.size [] := World.ownsMap_made w P k K.row
theorem atK_val {es : List (ByteArray × α)} {p : ByteArray} {v : Value} {z : α} {ps : List MemPlace} (h : K.row v = some ((datK K es).atKey (.string p.data.toList) (K.enc z), ps)) : v = K.val ((findK es p).getD z) := by
  rw [datK_at] at h
  obtain ⟨x, rfl, e⟩ := K.row_inv _ _ h
  have e1 := (Prod.mk.inj e).1
  cases hf : findK es p with
  | none =>
    rw [hf] at e1
    rw [← K.enc_inj z x e1]
    rfl
  | some y =>
    rw [hf] at e1
    rw [← K.enc_inj y x e1]
    rfl
variable {t e : TypeId}
theorem MapK.look {es : List (ByteArray × α)} (h : MapK K P k w b es) (law : Go.Maps.Keyed P k) (hs : P.underlying k = some .string) (ht : P.underlying t = some (.map k e)) {z : α} (hz : (zeroValue e).run P w = .ok (K.val z) w) {p : ByteArray} (hp : p.size ≤ maxLen) :
    (Instr.lookup t (.map (some b)) (.string p) true).run P w = .ok (.tuple #[K.val ((findK es p).getD z), .bool (findK es p).isSome]) w := by
  obtain ⟨v, ps, h1, h2⟩ := World.ownsMap.look_ok h law ht hz (K.row_val z) (Go.WideMaps.keyOf_string_mk hs hp)
  rw [h1, atK_val h2, datK_has]
theorem MapK.look1 {es : List (ByteArray × α)} (h : MapK K P k w b es) (law : Go.Maps.Keyed P k) (hs : P.underlying k = some .string) (ht : P.underlying t = some (.map k e)) {z : α} (hz : (zeroValue e).run P w = .ok (K.val z) w) {p : ByteArray} (hp : p.size ≤ maxLen) :
    (Instr.lookup t (.map (some b)) (.string p) false).run P w = .ok (K.val ((findK es p).getD z)) w := by
  obtain ⟨v, ps, h1, h2⟩ := World.ownsMap.lookup h law ht hz (K.row_val z) (Go.WideMaps.keyOf_string_mk hs hp)
  rw [h1, atK_val h2]
theorem MapK.put {es : List (ByteArray × α)} (h : MapK K P k w b es) (law : Go.Maps.Keyed P k) (hs : P.underlying k = some .string) (ht : P.underlying t = some (.map k e)) (p : ByteArray) (a : α) (hp : p.size ≤ maxLen) (hl : es.length < maxLen) :
    ∃ w', (Instr.mapUpdate t (.map (some b)) (.string p) (K.val a)).run P w = .ok () w' ∧ MapK K P k w' b (putK es p a) ∧ w.grownBy w' (some b) := by
  obtain ⟨w', h1, h2, h3⟩ := World.ownsMap.update h law ht hl (Go.WideMaps.keyOf_string_mk hs hp) (K.row_val a)
  rw [datK_put] at h2
  exact ⟨w', h1, MapK.of h2, h3⟩
theorem MapK.len {es : List (ByteArray × α)} (h : MapK K P k w b es) (ht : P.underlying t = some (.map k e)) (ty : TypeId) : (Builtin.len_ #[t] ty #[.map (some b)]).run P w = .ok (.int .i64 es.length) w := by
  rw [World.ownsMap.len h ht ty, datK_size]
end
end Go.Proofs.YtgglheelhbfgiaaGreatDoor
