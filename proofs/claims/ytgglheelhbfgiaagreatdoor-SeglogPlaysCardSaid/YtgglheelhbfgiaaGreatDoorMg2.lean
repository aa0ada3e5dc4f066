/-
  A map of the call's own from texts to things of one cell, as a list of pairs; of no program but for the type of its keys. A disk whose last acts may be lost, in plain Lean. Small facts for walks. Of no program. Numbers and texts as bytes: the plain law. Of no program. A record's frame, and what bytes begin with: the plain law.
-/
import Derived.Test.YtgglheelhbfgiaaGreatDoorMg1
import Derived.Test.YtgglheelhbfgiaaGreatDoorShelf
import Derived.Maps.OwnSet
import Derived.Maps.Ext
import Derived.Maps.RangeWalk
import Derived.Sort.KeysCollected
import Derived.Lib.Strings
import Derived.WalkSmall
namespace Go.Proofs.YtgglheelhbfgiaaGreatDoor
open Go Go.RowKit Go.Lib
/-- What a map holds: how it is written, and what it reads as. -/
structure ValK (α : Type) where
  val : α → Value
  enc : α → DataW Unit
  row : Value → Option (DataW Unit × List MemPlace)
  row_val : ∀ a, row (val a) = some (enc a, [])
  row_inv : ∀ v z, row v = some z → ∃ a, v = val a ∧ z = (enc a, [])
  enc_inj : ∀ a b, enc a = enc b → a = b
def rowInt : Value → Option (DataW Unit × List MemPlace)
  | .int .i64 i => some (.lit (.int .i64 i), [])
  | _ => none
def rowBool : Value → Option (DataW Unit × List MemPlace)
  | .bool i => some (.lit (.bool i), [])
  | _ => none
def rowStr : Value → Option (DataW Unit × List MemPlace)
  | .string s => some (.lit (.string s.data.toList), [])
  | _ => none
theorem rowInt_inv (v : Value) (z : DataW Unit × List MemPlace) (h : rowInt v = some z) : ∃ a : Int, v = .int .i64 a ∧ z = (.lit (.int .i64 a), []) := by
  unfold rowInt at h
  split at h
  · cases h
    exact ⟨_, rfl, rfl⟩
  · cases h
theorem rowBool_inv (v : Value) (z : DataW Unit × List MemPlace) (h : rowBool v = some z) : ∃ a : Bool, v = .bool a ∧ z = (.lit (.bool a), []) := by
  unfold rowBool at h
  split at h
  · cases h
    exact ⟨_, rfl, rfl⟩
  · cases h
theorem rowStr_inv (v : Value) (z : DataW Unit × List MemPlace) (h : rowStr v = some z) : ∃ a : ByteArray, v = .string a ∧ z = (.lit (.string a.data.toList), []) := by
  unfold rowStr at h
  split at h
  · cases h
    exact ⟨_, rfl, rfl⟩
  · cases h
def intV : ValK Int := { val := Value.int .i64, enc := fun i => .lit (.int .i64 i), row := rowInt, row_val := fun _ => rfl, row_inv := rowInt_inv, enc_inj := fun a b h => by cases h; rfl }
def boolV : ValK Bool := { val := Value.bool, enc := fun i => .lit (.bool i), row := rowBool, row_val := fun _ => rfl, row_inv := rowBool_inv, enc_inj := fun a b h => by cases h; rfl }
theorem bytesK_inj {p q : ByteArray} : p.data.toList = q.data.toList ↔ p = q := by
  constructor
  · intro h
    obtain ⟨⟨p⟩⟩ := p
    obtain ⟨⟨q⟩⟩ := q
    simpa using h
  · intro h
    rw [h]
def strV : ValK ByteArray := { val := Value.string, enc := fun s => .lit (.string s.data.toList), row := rowStr, row_val := fun _ => rfl, row_inv := rowStr_inv, enc_inj := fun a b h => by simp only [DataW.lit.injEq, Lit.string.injEq] at h; exact bytesK_inj.1 h }
section
variable {α : Type}
def pK (x : ByteArray × α) : List UInt8 := x.1.data.toList
def insK (x : ByteArray × α) : List (ByteArray × α) → List (ByteArray × α)
  | [] => [x]
  | y :: r => if bytesBefore (pK x) (pK y) then x :: y :: r else y :: insK x r
def delK (es : List (ByteArray × α)) (p : ByteArray) : List (ByteArray × α) := es.filter fun y => !decide (y.1 = p)
def putK (es : List (ByteArray × α)) (p : ByteArray) (a : α) : List (ByteArray × α) := insK (p, a) (delK es p)
def findK (es : List (ByteArray × α)) (p : ByteArray) : Option α := (es.find? fun y => decide (y.1 = p)).map (·.2)
def prK (K : ValK α) (x : ByteArray × α) : Lit × DataW Unit := (.string (pK x), K.enc x.2)
def datK (K : ValK α) (es : List (ByteArray × α)) : DataW Unit := .map (es.map (prK K))
variable (K : ValK α)
theorem insK_map (x : ByteArray × α) : ∀ es, (insK x es).map (prK K) = DataW.insert (prK K x) (es.map (prK K))
  | [] => rfl
  | y :: r => by
    have e : (prK K x).1.before (prK K y).1 = bytesBefore (pK x) (pK y) := rfl
    rw [insK, List.map_cons, DataW.insert, e]
    split
    · rfl
    · rw [List.map_cons, insK_map x r]
theorem sameK (y : ByteArray × α) (p : ByteArray) : (prK K y).1.sameKey (.string p.data.toList) = decide (y.1 = p) := by
  show (pK y == p.data.toList) = _
  by_cases h : y.1 = p
  · rw [decide_eq_true h, ← h]
    exact beq_self_eq_true _
  · rw [decide_eq_false h, beq_eq_false_iff_ne]
    exact fun e => h (bytesK_inj.1 e)
theorem delK_map (es : List (ByteArray × α)) (p : ByteArray) : (es.map (prK K)).filter (fun q => !q.1.sameKey (.string p.data.toList)) = (delK es p).map (prK K) := by
  rw [List.filter_map, delK]
  congr 1
  refine List.filter_congr fun y _ => ?_
  show (!(prK K y).1.sameKey _) = _
  rw [sameK]
theorem datK_put (es : List (ByteArray × α)) (p : ByteArray) (a : α) : (datK K es).put (.string p.data.toList) (K.enc a) = datK K (putK es p a) := by
  show DataW.map (DataW.insert (prK K (p, a)) ((es.map (prK K)).filter fun q => !q.1.sameKey (.string p.data.toList))) = _
  rw [delK_map, ← insK_map]
  rfl
theorem findK_map (es : List (ByteArray × α)) (p : ByteArray) : (es.map (prK K)).find? (fun q => q.1.sameKey (.string p.data.toList)) = (es.find? fun y => decide (y.1 = p)).map (prK K) := by
  rw [List.find?_map]
  congr 2
  funext y
  exact sameK K y p
theorem datK_at (es : List (ByteArray × α)) (p : ByteArray) (zd : DataW Unit) : (datK K es).atKey (.string p.data.toList) zd = ((findK es p).map K.enc).getD zd := by
  unfold datK DataW.atKey findK
  dsimp only
  rw [findK_map]
  cases es.find? (fun y => decide (y.1 = p)) <;> rfl
theorem datK_has (es : List (ByteArray × α)) (p : ByteArray) : Maps.has (datK K es) (.string p.data.toList) = (findK es p).isSome := by
  have h : ((es.map (prK K)).find? fun q => q.1.sameKey (.string p.data.toList)).isSome = (es.map (prK K)).any fun q => q.1.sameKey (.string p.data.toList) := List.isSome_find? ..
  show (es.map (prK K)).any (fun q => q.1.sameKey (.string p.data.toList)) = _
  rw [← h, findK_map]
  unfold findK
  cases es.find? (fun y => decide (y.1 = p)) <;> rfl
theorem datK_size (es : List (ByteArray × α)) : Maps.size (datK K es) = es.length := by
  show (es.map (prK K)).length = _
  rw [List.length_map]
theorem datK_keys (es : List (ByteArray × α)) : strKeys (datK K es) = es.map pK := by
  show (es.map (prK K)).map (fun p => strOf p.1) = _
  rw [List.map_map]
  rfl
/-! ### as a function -/
theorem insK_perm (x : ByteArray × α) : ∀ es, (insK x es).Perm (x :: es)
  | [] => List.Perm.refl _
  | y :: r => by
    unfold insK
    split
    · exact List.Perm.refl _
    · exact ((insK_perm x r).cons y).trans (List.Perm.swap x y r)
theorem keysK_put (es : List (ByteArray × α)) (p : ByteArray) (a : α) (h : (es.map (·.1)).Nodup) : ((putK es p a).map (·.1)).Nodup := by
  unfold putK
  rw [((insK_perm (p, a) (delK es p)).map (·.1)).nodup_iff, List.map_cons, List.nodup_cons]
  refine ⟨fun hm => ?_, ?_⟩
  · obtain ⟨y, hy, e⟩ := List.mem_map.1 hm
    have := (List.mem_filter.1 hy).2
    rw [show y.1 = p from e, decide_eq_true rfl] at this
    cases this
  · exact (List.Nodup.sublist (List.filter_sublist.map _) h)
theorem findK_some {es : List (ByteArray × α)} {p : ByteArray} {a : α} (h : findK es p = some a) : (p, a) ∈ es := by
  unfold findK at h
  rw [Option.map_eq_some_iff] at h
  obtain ⟨⟨q, b⟩, h1, h2⟩ := h
  have h3 : q = p := by simpa using List.find?_some h1
  have h4 : b = a := h2
  subst h3 h4
  exact List.mem_of_find?_eq_some h1
theorem findK_of {es : List (ByteArray × α)} (hn : (es.map (·.1)).Nodup) {p : ByteArray} {a : α} (h : (p, a) ∈ es) : findK es p = some a := by
  induction es with
  | nil => cases h
  | cons y r ih =>
    obtain ⟨h1, h2⟩ := List.nodup_cons.1 hn
    unfold findK
    rcases List.mem_cons.1 h with e | h
    · rw [← e, List.find?_cons_of_pos (by simp)]
      rfl
    · have hne : ¬ y.1 = p := fun e => h1 (List.mem_map.2 ⟨_, h, e.symm⟩)
      rw [List.find?_cons_of_neg (by simpa using hne)]
      exact ih h2 h
theorem findK_put {es : List (ByteArray × α)} (hn : (es.map (·.1)).Nodup) (p : ByteArray) (a : α) (q : ByteArray) : findK (putK es p a) q = if q = p then some a else findK es q := by
  have hn2 := keysK_put es p a hn
  have hm : ∀ z, z ∈ putK es p a ↔ z = (p, a) ∨ (z ∈ es ∧ z.1 ≠ p) := fun z => by
    unfold putK
    rw [(insK_perm (p, a) (delK es p)).mem_iff, List.mem_cons, delK, List.mem_filter, Bool.not_eq_true', decide_eq_false_iff_not]
  split
  · rename_i e
    subst e
    exact findK_of hn2 ((hm _).2 (.inl rfl))
  · rename_i e
    cases h : findK es q with
    | some b => exact findK_of hn2 ((hm _).2 (.inr ⟨findK_some h, e⟩))
    | none =>
      cases h2 : findK (putK es p a) q with
      | none => rfl
      | some b =>
        rcases (hm _).1 (findK_some h2) with h3 | ⟨h3, _⟩
        · exact absurd (Prod.mk.inj h3).1 e
        · rw [findK_of hn h3] at h
          cases h
theorem mem_keysK {es : List (ByteArray × α)} {p : ByteArray} : p ∈ es.map (·.1) ↔ (findK es p).isSome = true := by
  constructor
  · intro h
    obtain ⟨y, hy, e⟩ := List.mem_map.1 h
    unfold findK
    rw [Option.isSome_map, List.isSome_find?, List.any_eq_true]
    exact ⟨y, hy, decide_eq_true e⟩
  · intro h
    obtain ⟨a, ha⟩ := Option.isSome_iff_exists.1 h
    exact List.mem_map.2 ⟨_, findK_some ha, rfl⟩
theorem lenK_put (es : List (ByteArray × α)) (p : ByteArray) (a : α) : (putK es p a).length ≤ es.length + 1 := by
  unfold putK
  rw [(insK_perm (p, a) (delK es p)).length_eq, List.length_cons]
  have := List.length_filter_le (fun y : ByteArray × α => !decide (y.1 = p)) es
  unfold delK
  omega
theorem keys_back {es : List (ByteArray × α)} {ss : List (List UInt8)} (h : ss.Perm (es.map pK)) : (ss.map fun s => (⟨s.toArray⟩ : ByteArray)).Perm (es.map (·.1)) := by
  refine (h.map _).trans (List.Perm.of_eq ?_)
  rw [List.map_map]
  refine List.map_congr_left fun x _ => ?_
  obtain ⟨⟨⟨p⟩⟩, a⟩ := x
  rfl
/-! ### in memory -/
variable {P : Program} {k : TypeId} {w : World} {b n : Nat}
def MapK (P : Program) (k : TypeId) (w : World) (b : Nat) (es : List (ByteArray × α)) : Prop := w.ownsMap P k K.row b es.length (datK K es)
variable {K}
theorem lengthK_sorted (l : List (Lit × DataW Unit)) : (l.foldr DataW.insert []).length = l.length := by
  induction l with
  | nil => rfl
  | cons x r ih =>
    have : ∀ (y : Lit × DataW Unit) (m : List (Lit × DataW Unit)), (DataW.insert y m).length = m.length + 1 := fun y m => by
      induction m with
      | nil => rfl
      | cons z m ih2 =>
        rw [DataW.insert]
        split
        · rfl
        · rw [List.length_cons, ih2, List.length_cons]
    rw [List.foldr_cons, this, ih, List.length_cons]
theorem MapK.of {es : List (ByteArray × α)} (h : w.ownsMap P k K.row b n (datK K es)) : MapK K P k w b es := by
  obtain ⟨xs, clock, hb, F, _, hD⟩ := h
  refine ⟨xs, clock, hb, F, ?_, hD⟩
  have h1 : (es.map (prK K)).length = ((xs.toList.map (WideElems.rg P k K.row)).foldr DataW.insert []).length := by
    have : DataW.map (es.map (prK K)) = DataW.map _ := hD
    rw [DataW.map.inj this]
  rw [lengthK_sorted, List.length_map, List.length_map, Array.length_toList] at h1
  exact Nat.le_of_eq h1.symm
theorem MapK.lt {es : List (ByteArray × α)} (h : MapK K P k w b es) : b < w.heap.size := World.ownsMap.lt h
theorem MapK.same {w' : World} {es : List (ByteArray × α)} (h : MapK K P k w b es) (e : w'.heap[b]? = w.heap[b]?) : MapK K P k w' b es := by
  obtain ⟨xs, clock, hb, r⟩ := h
  exact ⟨xs, clock, e.trans hb, r⟩
theorem MapK.keeps {w' : World} {B : Nat} {es : List (ByteArray × α)} (h : MapK K P k w b es) (hb : Below B w w') (hlt : b < B) : MapK K P k w' b es := h.same (hb.block b hlt)
theorem MapK.grown {w' : World} {row : Option Nat} {es : List (ByteArray × α)} (h : MapK K P k w b es) (hg : w.grownBy w' row) (hne : some b ≠ row) : MapK K P k w' b es := World.ownsMap.kept h hg hne
theorem MapK.made (w : World) : MapK K P k (w.alloc (.map #[] 0)) w.heap.size [] := World.ownsMap_made w P k K.row
theorem atK_val {es : List (ByteArray × α)} {p : ByteArray} {v : Value} {z : α} {ps : List MemPlace} (h : K.row v = some ((datK K es).atKey (.string p.data.toList) (K.enc z), ps)) : v = K.val ((findK es p).getD z) := by
  rw [datK_at] at h
  obtain ⟨x, rfl, e⟩ := K.row_inv _ _ h
  have e1 := (Prod.mk.inj e).1
  cases hf : findK es p with
  | none =>
    rw [hf] at e1
    rw [← K.enc_inj z x e1]
    rfl
  | some y =>
    rw [hf] at e1
    rw [← K.enc_inj y x e1]
    rfl
variable {t e : TypeId}
theorem MapK.look {es : List (ByteArray × α)} (h : MapK K P k w b es) (law : Go.Maps.Keyed P k) (hs : P.underlying k = some .string) (ht : P.underlying t = some (.map k e)) {z : α} (hz : (zeroValue e).run P w = .ok (K.val z) w) {p : ByteArray} (hp : p.size ≤ maxLen) :
    (Instr.lookup t (.map (some b)) (.string p) true).run P w = .ok (.tuple #[K.val ((findK es p).getD z), .bool (findK es p).isSome]) w := by
  obtain ⟨v, ps, h1, h2⟩ := World.ownsMap.look_ok h law ht hz (K.row_val z) (Go.WideMaps.keyOf_string_mk hs hp)
  rw [h1, atK_val h2, datK_has]
theorem MapK.look1 {es : List (ByteArray × α)} (h : MapK K P k w b es) (law : Go.Maps.Keyed P k) (hs : P.underlying k = some .string) (ht : P.underlying t = some (.map k e)) {z : α} (hz : (zeroValue e).run P w = .ok (K.val z) w) {p : ByteArray} (hp : p.size ≤ maxLen) :
    (Instr.lookup t (.map (some b)) (.string p) false).run P w = .ok (K.val ((findK es p).getD z)) w := by
  obtain ⟨v, ps, h1, h2⟩ := World.ownsMap.lookup h law ht hz (K.row_val z) (Go.WideMaps.keyOf_string_mk hs hp)
  rw [h1, atK_val h2]
theorem MapK.put {es : List (ByteArray × α)} (h : MapK K P k w b es) (law : Go.Maps.Keyed P k) (hs : P.underlying k = some .string) (ht : P.underlying t = some (.map k e)) (p : ByteArray) (a : α) (hp : p.size ≤ maxLen) (hl : es.length < maxLen) :
    ∃ w', (Instr.mapUpdate t (.map (some b)) (.string p) (K.val a)).run P w = .ok () w' ∧ MapK K P k w' b (putK es p a) ∧ w.grownBy w' (some b) := by
  obtain ⟨w', h1, h2, h3⟩ := World.ownsMap.update h law ht hl (Go.WideMaps.keyOf_string_mk hs hp) (K.row_val a)
  rw [datK_put] at h2
  exact ⟨w', h1, MapK.of h2, h3⟩
theorem MapK.len {es : List (ByteArray × α)} (h : MapK K P k w b es) (ht : P.underlying t = some (.map k e)) (ty : TypeId) : (Builtin.len_ #[t] ty #[.map (some b)]).run P w = .ok (.int .i64 es.length) w := by
  rw [World.ownsMap.len h ht ty, datK_size]
end
end Go.Proofs.YtgglheelhbfgiaaGreatDoor

namespace Go.Proofs.YtgglheelhbfgiaaGreatDoor
open Go Go.RowKit
/-- An act: a write, or a cut. -/
structure ActD where
  cut : Bool
  name : ByteArray
  n : Nat
  data : ByteArray
abbrev Fls := List (ByteArray × ByteArray)
def noB : ByteArray := ⟨#[]⟩
def hasD (es : Fls) (p : ByteArray) : ByteArray := (findK es p).getD noB
def halfB (d : ByteArray) : ByteArray := d.extract 0 (d.size / 2)
/-- Bytes behind a write. -/
def padL (s : List UInt8) (n : Nat) : List UInt8 := s ++ List.replicate (n - s.length) 0
def laidL (s : List UInt8) (n : Nat) (d : List UInt8) : List UInt8 := (padL s n).take n ++ d ++ (padL s n).drop (n + d.length)
def laidB (s : ByteArray) (n : Nat) (d : ByteArray) : ByteArray := ⟨(laidL s.data.toList n d.data.toList).toArray⟩
def shortB (s : ByteArray) (n : Nat) : ByteArray := s.extract 0 (min s.size n)
def doD (es : Fls) (a : ActD) (torn : Bool) : Fls :=
  if a.cut then (match findK es a.name with | none => es | some s => putK es a.name (shortB s a.n))
  else putK es a.name (laidB (hasD es a.name) a.n (if torn then halfB a.data else a.data))
structure Dk where
  limit : Nat
  now : Fls
  firm : Fls
  acts : List ActD
  armed : Int
  dead : Bool
def sizeF (es : Fls) : Nat := (es.map fun x => x.2.size).sum
def wrongD (d : Dk) (name : ByteArray) (n : Int) : Int :=
  if d.dead = true then 42 else if name.size = 0 ∨ 24 < name.size ∨ n < 0 ∨ (d.limit : Int) < n then 1 else 0
def diesD (d : Dk) : Dk := if 0 < d.armed then { d with armed := wrap64 (d.armed - 1), dead := wrap64 (d.armed - 1) == 0 } else d
def doesD (d : Dk) (a : ActD) : Dk × Int :=
  if (diesD { d with acts := d.acts ++ [a] }).dead = true then (diesD { d with acts := d.acts ++ [a] }, 42)
  else ({ diesD { d with acts := d.acts ++ [a] } with now := doD d.now a false }, 0)
def writeD (d : Dk) (name : ByteArray) (n : Int) (data : ByteArray) : Dk × Int :=
  if wrongD d name n ≠ 0 then (d, wrongD d name n)
  else if (d.limit : Int) - max ((hasD d.now name).size : Int) (n + data.size) < (sizeF d.now : Int) - (hasD d.now name).size then (d, 41)
  else doesD d ⟨false, name, n.toNat, data⟩
def cutD (d : Dk) (name : ByteArray) (n : Int) : Dk × Int :=
  if wrongD d name n ≠ 0 then (d, wrongD d name n)
  else if (findK d.now name).isNone then (d, 25)
  else doesD d ⟨true, name, n.toNat, noB⟩
def syncD (d : Dk) : Dk × Int :=
  if d.dead = true then (d, 42) else if (diesD d).dead = true then (diesD d, 42) else ({ diesD d with firm := d.now, acts := [] }, 0)
def readD (d : Dk) (name : ByteArray) : ByteArray × Int :=
  if wrongD d name 0 ≠ 0 then (noB, wrongD d name 0) else match findK d.now name with | none => (noB, 25) | some s => (s, 0)
def namesD (d : Dk) : List ByteArray := d.now.map (·.1)
def armD (d : Dk) (n : Int) : Dk := { d with armed := max n 0 }
/-- Which acts a crash keeps. -/
def bitD (keep : Int) (i : Nat) : Bool := keep / 2 ^ (i % 30) % 2 = 1
def keptD (keep : Int) : Nat → List ActD → List ActD
  | _, [] => []
  | i, a :: r => if bitD keep i then a :: keptD keep (i + 1) r else keptD keep (i + 1) r
def runD (torn : Bool) : Fls → List ActD → Fls
  | es, [] => es
  | es, [a] => doD es a torn
  | es, a :: b :: r => runD torn (doD es a false) (b :: r)
def crashD (d : Dk) (keep : Int) (torn : Bool) : Dk :=
  { d with firm := runD torn d.firm (keptD keep 0 d.acts), now := runD torn d.firm (keptD keep 0 d.acts), acts := [], armed := 0, dead := false }
def newD (limit : Nat) : Dk := ⟨limit, [], [], [], 0, false⟩
end Go.Proofs.YtgglheelhbfgiaaGreatDoor

namespace Go.Proofs.YtgglheelhbfgiaaGreatDoor
open Go Go.RowKit Go.Lib

theorem ret_bool {a b : Bool} (h : a = b) : Ending.returned (.bool a) = .returned (.bool b) := by rw [h]
theorem ret_int {k : IntKind} {a b : Int} (h : a = b) : Ending.returned (.int k a) = .returned (.int k b) := by rw [h]
theorem ret_str {a b : ByteArray} (h : a = b) : Ending.returned (.string a) = .returned (.string b) := by rw [h]
theorem ret_pair {a b : Int × ByteArray} (h : a = b) : Ending.returned (.tuple #[.int .i64 a.1, .string a.2]) = .returned (.tuple #[.int .i64 b.1, .string b.2]) := by rw [h]
theorem str_ne {a b : ByteArray} (h : a ≠ b) : (a.toList == b.toList) = false := by
  rw [toList_data, toList_data, beq_eq_false_iff_ne]
  exact fun e => h (by obtain ⟨⟨x⟩⟩ := a; obtain ⟨⟨y⟩⟩ := b; simpa using e)
theorem str_eq {a b : ByteArray} (h : a = b) : (a.toList == b.toList) = true := by rw [h]; exact beq_self_eq_true _
theorem Drawn.refl (w : World) : ∃ n, w = w.drewN n := ⟨0, by rw [World.drewN_zero]⟩
theorem at_some {α : Type} {l : List α} {k : Nat} (h : k < l.length) : ∃ x, l[k]? = some x := ⟨_, List.getElem?_eq_getElem h⟩
theorem drop_at {α : Type} {l : List α} {k : Nat} {x : α} (h : l[k]? = some x) : l.drop k = x :: l.drop (k + 1) := by
  obtain ⟨hk, e⟩ := List.getElem?_eq_some_iff.1 h
  rw [List.drop_eq_getElem_cons hk, e]
theorem empty_ne {s : ByteArray} (h : s ≠ ⟨#[]⟩) : s.toList.isEmpty = false := by
  rw [toList_data]
  obtain ⟨⟨l⟩⟩ := s
  cases l with
  | nil => exact absurd rfl h
  | cons a l => rfl
theorem byte_of {c : UInt8} {n : Nat} (h : (c.toNat : Int) = n) : c = UInt8.ofNat n := by
  have : c.toNat = n := by omega
  rw [← this, UInt8.ofNat_toNat]
end Go.Proofs.YtgglheelhbfgiaaGreatDoor

namespace Go.Proofs.YtgglheelhbfgiaaGreatDoor
open Go Go.RowKit Go.Lib

theorem snoc_ind {α : Type} {p : List α → Prop} (h0 : p []) (h1 : ∀ l b, p l → p (l ++ [b])) (l : List α) : p l := by
  have key : ∀ r : List α, p r.reverse := by
    intro r
    induction r with
    | nil => exact h0
    | cons b r ih => rw [List.reverse_cons]; exact h1 _ _ ih
  have := key l.reverse
  rwa [List.reverse_reverse] at this
/-- The last k bytes of a number, the greatest first. -/
def beF : Nat → Nat → List UInt8
  | 0, _ => []
  | k + 1, u => beF k (u / 256) ++ [UInt8.ofNat (u % 256)]
/-- How many bytes a number has. -/
def widF : Nat → Nat → Nat
  | 0, _ => 0
  | f + 1, u => if u = 0 then 0 else widF f (u / 256) + 1
def wid (u : Nat) : Nat := widF 8 u
def natL (u : Nat) : List UInt8 := UInt8.ofNat (wid u) :: beF (wid u) u
def valL (l : List UInt8) : Nat := l.foldl (fun a b => a * 256 + b.toNat) 0
/-- An int as 64 bits. -/
def u64 (n : Int) : Nat := (n % 18446744073709551616).toNat
def numL (n : Int) : List UInt8 := natL (u64 n)
def textL (s : List UInt8) : List UInt8 := natL s.length ++ s

theorem beF_len : ∀ k u, (beF k u).length = k
  | 0, _ => rfl
  | k + 1, u => by rw [beF, List.length_append, beF_len k]; rfl
theorem valL_snoc (l : List UInt8) (b : UInt8) : valL (l ++ [b]) = valL l * 256 + b.toNat := by
  unfold valL; rw [List.foldl_append]; rfl
theorem valL_beF : ∀ k u, valL (beF k u) = u % 256 ^ k
  | 0, u => by simp [beF, valL, Nat.mod_one]
  | k + 1, u => by
    rw [beF, valL_snoc, valL_beF k, Nat.pow_succ, Nat.mul_comm (256 ^ k) 256, Nat.mod_mul, UInt8.toNat_ofNat']
    omega
theorem valL_lt (l : List UInt8) : valL l < 256 ^ l.length := by
  refine snoc_ind (p := fun l => valL l < 256 ^ l.length) (by simp [valL]) (fun l b ih => ?_) l
  · rw [valL_snoc, List.length_append, List.length_singleton, Nat.pow_succ]
    have := b.toNat_lt
    omega
theorem widF_lt : ∀ f u, u < 256 ^ f → u < 256 ^ (widF f u)
  | 0, u, h => h
  | f + 1, u, h => by
    unfold widF
    split
    · omega
    · have := widF_lt f (u / 256) (by rw [Nat.pow_succ] at h; omega)
      rw [Nat.pow_succ]
      omega
theorem widF_ge : ∀ f u k, widF f u = k + 1 → 256 ^ k ≤ u
  | 0, u, k, h => by simp [widF] at h
  | f + 1, u, k, h => by
    unfold widF at h
    split at h
    · omega
    · cases k with
      | zero => omega
      | succ k =>
        have := widF_ge f (u / 256) k (by omega)
        rw [Nat.pow_succ]
        omega
theorem widF_le : ∀ f u, widF f u ≤ f
  | 0, _ => Nat.le_refl _
  | f + 1, u => by
    unfold widF
    have := widF_le f (u / 256)
    split <;> omega
theorem wid_le (u : Nat) : wid u ≤ 8 := widF_le 8 u
theorem wid_lt {u : Nat} (h : u < 18446744073709551616) : u < 256 ^ wid u := widF_lt 8 u h
theorem wid_ge {u k : Nat} (h : wid u = k + 1) : 256 ^ k ≤ u := widF_ge 8 u k h
/-- The width is the one k that fits. -/
theorem wid_eq {u k : Nat} (h1 : u < 256 ^ k) (h2 : ∀ j, k = j + 1 → 256 ^ j ≤ u) (hk : k ≤ 8) : wid u = k := by
  have hu : u < 18446744073709551616 := Nat.lt_of_lt_of_le h1 (Nat.pow_le_pow_right (by omega) hk)
  have h3 := wid_lt hu
  rcases Nat.lt_trichotomy (wid u) k with a | a | a
  · obtain ⟨j, rfl⟩ : ∃ j, k = j + 1 := ⟨k - 1, by omega⟩
    have := h2 j rfl
    have := Nat.pow_le_pow_right (show 0 < 256 by omega) (show wid u ≤ j by omega)
    omega
  · exact a
  · obtain ⟨j, hj⟩ : ∃ j, wid u = j + 1 := ⟨wid u - 1, by omega⟩
    have := wid_ge hj
    have := Nat.pow_le_pow_right (show 0 < 256 by omega) (show k ≤ j by omega)
    omega
theorem beF_get : ∀ k u t, t < k → (beF k u)[t]? = some (UInt8.ofNat (u / 256 ^ (k - 1 - t)))
  | 0, _, _, h => absurd h (Nat.not_lt_zero _)
  | k + 1, u, t, h => by
    rw [beF]
    by_cases ht : t < k
    · rw [List.getElem?_append_left (by rw [beF_len]; exact ht), beF_get k (u / 256) t ht, Nat.div_div_eq_div_mul]
      have : k + 1 - 1 - t = (k - 1 - t) + 1 := by omega
      rw [this, Nat.pow_succ, Nat.mul_comm]
    · obtain rfl : t = k := by omega
      rw [List.getElem?_append_right (by rw [beF_len]; exact Nat.le_refl _), beF_len]
      simp only [Nat.sub_self, List.getElem?_cons_zero, Nat.add_sub_cancel, Nat.pow_zero, Nat.div_one, Option.some.injEq]
      apply UInt8.toNat_inj.1
      rw [UInt8.toNat_ofNat', UInt8.toNat_ofNat']
      omega
theorem beF_succ_take (k u t : Nat) (h : t < k) : (beF k u).take (t + 1) = (beF k u).take t ++ [UInt8.ofNat (u / 256 ^ (k - 1 - t))] := by
  rw [List.take_add_one, beF_get k u t h]
  rfl
theorem beF_valL (l : List UInt8) : beF l.length (valL l) = l := by
  refine snoc_ind (p := fun l => beF l.length (valL l) = l) rfl (fun l b ih => ?_) l
  · rw [List.length_append, List.length_singleton, valL_snoc, beF]
    have hb := b.toNat_lt
    have e1 : (valL l * 256 + b.toNat) / 256 = valL l := by omega
    have e2 : (valL l * 256 + b.toNat) % 256 = b.toNat := by omega
    rw [e1, e2, ih, UInt8.ofNat_toNat]
theorem valL_first {l : List UInt8} {b : UInt8} {t : List UInt8} (h : l = b :: t) (hb : b ≠ 0) : 256 ^ t.length ≤ valL l := by
  subst h
  have key : ∀ (t : List UInt8) (a : Nat), t.foldl (fun a b => a * 256 + b.toNat) a ≥ a * 256 ^ t.length := by
    intro t
    induction t with
    | nil => intro a; simp
    | cons c t ih =>
      intro a
      rw [List.foldl_cons, List.length_cons, Nat.pow_succ]
      refine Nat.le_trans ?_ (ih _)
      rw [Nat.mul_comm (256 ^ t.length) 256, ← Nat.mul_assoc]
      exact Nat.mul_le_mul_right _ (Nat.le_add_right _ _)
  have h1 := key t b.toNat
  have h2 : 1 ≤ b.toNat := by
    rcases Nat.eq_zero_or_pos b.toNat with h | h
    · exact absurd (by rw [← UInt8.toNat_inj, h]; rfl) hb
    · exact h
  unfold valL
  rw [List.foldl_cons]
  simp only [Nat.zero_mul, Nat.zero_add]
  exact Nat.le_trans (Nat.le_mul_of_pos_left _ h2) h1

/-! ### Bytes that are read -/
structure Rd where
  err : Int
  rest : List UInt8
def Rd.raw (r : Rd) : Nat × Rd :=
  if r.err ≠ 0 then (0, r) else
  match r.rest with
  | [] => (0, ⟨10, []⟩)
  | h :: t => if 8 < h.toNat then (0, ⟨11, []⟩) else if t.length < h.toNat then (0, ⟨10, []⟩) else if h.toNat ≠ 0 ∧ t[0]? = some 0 then (0, ⟨11, []⟩) else (valL (t.take h.toNat), ⟨0, t.drop h.toNat⟩)
def Rd.num (r : Rd) : Int × Rd := (IntKind.i64.wrap r.raw.1, r.raw.2)
def Rd.text (r : Rd) : List UInt8 × Rd :=
  if r.raw.2.err ≠ 0 then ([], r.raw.2) else if r.raw.2.rest.length < r.raw.1 then ([], ⟨10, []⟩) else (r.raw.2.rest.take r.raw.1, ⟨0, r.raw.2.rest.drop r.raw.1⟩)
def Rd.fin (r : Rd) : Int := if r.err ≠ 0 then r.err else if r.rest ≠ [] then 12 else 0

theorem raw_err {r : Rd} (h : r.err ≠ 0) : r.raw = (0, r) := by unfold Rd.raw; rw [if_pos h]
theorem raw_none : Rd.raw ⟨0, []⟩ = (0, ⟨10, []⟩) := rfl
theorem raw_wide {h : UInt8} {t : List UInt8} (h1 : 8 < h.toNat) : Rd.raw ⟨0, h :: t⟩ = (0, ⟨11, []⟩) := by
  unfold Rd.raw; simp [h1]
theorem raw_short {h : UInt8} {t : List UInt8} (h1 : ¬ 8 < h.toNat) (h2 : t.length < h.toNat) : Rd.raw ⟨0, h :: t⟩ = (0, ⟨10, []⟩) := by
  unfold Rd.raw; simp [h1, h2]
theorem raw_zero {h : UInt8} {t : List UInt8} (h1 : ¬ 8 < h.toNat) (h2 : ¬ t.length < h.toNat) (h3 : h.toNat ≠ 0 ∧ t[0]? = some 0) : Rd.raw ⟨0, h :: t⟩ = (0, ⟨11, []⟩) := by
  unfold Rd.raw; simp only [ne_eq, not_true_eq_false, if_false, h1, h2]; rw [if_pos h3]
theorem raw_ok {h : UInt8} {t : List UInt8} (h1 : ¬ 8 < h.toNat) (h2 : ¬ t.length < h.toNat) (h3 : ¬ (h.toNat ≠ 0 ∧ t[0]? = some 0)) : Rd.raw ⟨0, h :: t⟩ = (valL (t.take h.toNat), ⟨0, t.drop h.toNat⟩) := by
  unfold Rd.raw; simp only [ne_eq, not_true_eq_false, if_false, h1, h2]; rw [if_neg h3]
theorem raw_bound (r : Rd) : r.raw.1 < 18446744073709551616 := by
  obtain ⟨e, l⟩ := r
  by_cases he : e = 0
  · subst he
    cases l with
    | nil => rw [raw_none]; decide
    | cons h t =>
      by_cases h1 : 8 < h.toNat
      · rw [raw_wide h1]; decide
      · by_cases h2 : t.length < h.toNat
        · rw [raw_short h1 h2]; decide
        · by_cases h3 : h.toNat ≠ 0 ∧ t[0]? = some 0
          · rw [raw_zero h1 h2 h3]; decide
          · rw [raw_ok h1 h2 h3]
            have := valL_lt (t.take h.toNat)
            have h5 : 256 ^ (t.take h.toNat).length ≤ 256 ^ 8 := Nat.pow_le_pow_right (by omega) (by rw [List.length_take]; omega)
            exact Nat.lt_of_lt_of_le this h5
  · rw [raw_err he]; exact Nat.zero_lt_succ _
/-- A number's bytes are read as it. -/
theorem raw_natL {u : Nat} (hu : u < 18446744073709551616) (rest : List UInt8) : Rd.raw ⟨0, natL u ++ rest⟩ = (u, ⟨0, rest⟩) := by
  unfold natL
  rw [List.cons_append]
  have hw := wid_le u
  have e : (UInt8.ofNat (wid u)).toNat = wid u := by rw [UInt8.toNat_ofNat']; omega
  rw [raw_ok (by omega) (by rw [List.length_append, beF_len]; omega)]
  · rw [e, List.take_left' (beF_len _ _), List.drop_left' (beF_len _ _), valL_beF, Nat.mod_eq_of_lt (wid_lt hu)]
  · rintro ⟨h1, h2⟩
    rw [e] at h1
    obtain ⟨k, hk⟩ : ∃ k, wid u = k + 1 := ⟨wid u - 1, by omega⟩
    rw [hk, List.getElem?_append_left (by rw [beF_len]; omega), beF_get _ _ _ (by omega)] at h2
    have h3 := wid_ge hk
    have h4 := wid_lt hu
    rw [hk, Nat.pow_succ] at h4
    have h5 : u / 256 ^ k < 256 := Nat.div_lt_of_lt_mul h4
    have h6 : 1 ≤ u / 256 ^ k := (Nat.le_div_iff_mul_le (Nat.pow_pos (by omega))).2 (by omega)
    have h7 := congrArg UInt8.toNat (Option.some.inj h2)
    rw [UInt8.toNat_ofNat'] at h7
    simp only [Nat.add_sub_cancel, Nat.sub_zero] at h7
    have h8 : (0 : UInt8).toNat = 0 := rfl
    rw [h8] at h7
    omega
/-- Bytes that are read as a number are its bytes. -/
theorem raw_back {l : List UInt8} {u : Nat} {rest : List UInt8} (h : Rd.raw ⟨0, l⟩ = (u, ⟨0, rest⟩)) : l = natL u ++ rest := by
  cases l with
  | nil => rw [raw_none] at h; simp at h
  | cons b t =>
    by_cases h1 : 8 < b.toNat
    · rw [raw_wide h1] at h; simp at h
    by_cases h2 : t.length < b.toNat
    · rw [raw_short h1 h2] at h; simp at h
    by_cases h3 : b.toNat ≠ 0 ∧ t[0]? = some 0
    · rw [raw_zero h1 h2 h3] at h; simp at h
    rw [raw_ok h1 h2 h3] at h
    simp only [Prod.mk.injEq, Rd.mk.injEq, true_and] at h
    obtain ⟨rfl, rfl⟩ := h
    have hl : (t.take b.toNat).length = b.toNat := by rw [List.length_take]; omega
    have hw : wid (valL (t.take b.toNat)) = b.toNat := by
      refine wid_eq (by have := valL_lt (t.take b.toNat); rwa [hl] at this) (fun j hj => ?_) (by omega)
      cases ht : t with
      | nil => rw [ht] at h2; simp at h2; omega
      | cons c t' =>
        have hc : c ≠ 0 := fun hc => h3 ⟨by omega, by rw [ht, hc]; rfl⟩
        have := valL_first (l := (c :: t').take b.toNat) (b := c) (t := t'.take j) (by rw [hj, List.take_succ_cons]) hc
        rw [List.length_take] at this
        have hl2 : j ≤ t'.length := by rw [ht] at h2; simp at h2; omega
        rwa [Nat.min_eq_left hl2] at this
    unfold natL
    rw [hw, UInt8.ofNat_toNat]
    have := beF_valL (t.take b.toNat)
    rw [hl] at this
    rw [this, List.cons_append, List.take_append_drop]
theorem u64_bound (n : Int) : u64 n < 18446744073709551616 := by unfold u64; omega
theorem u64_nat {n : Nat} (h : n < 18446744073709551616) : u64 n = n := by unfold u64; omega
theorem wrap_u64 {n : Int} (h1 : -9223372036854775808 ≤ n) (h2 : n ≤ 9223372036854775807) : IntKind.i64.wrap (u64 n : Int) = n := by
  simp only [IntKind.wrap, IntKind.signed, IntKind.bits, u64]
  simp
  omega
theorem u64_wrap (u : Nat) (h : u < 18446744073709551616) : u64 (IntKind.i64.wrap (u : Int)) = u := by
  simp only [IntKind.wrap, IntKind.signed, IntKind.bits, u64]
  simp
  omega
end Go.Proofs.YtgglheelhbfgiaaGreatDoor

namespace Go.Proofs.YtgglheelhbfgiaaGreatDoor
open Go Go.RowKit
def stepC (x : Nat) : Nat := x / 2 ^^^ x % 2 * 3988292384
def tabC (i : Nat) : Nat := stepC (stepC (stepC (stepC (stepC (stepC (stepC (stepC i)))))))
def nextC (x : Nat) (b : UInt8) : Nat := x / 256 ^^^ tabC (x % 256 ^^^ b.toNat)
/-- The sum of bytes. -/
def sumC (l : List UInt8) : Nat := 4294967295 - l.foldl nextC 4294967295
theorem sumC_nil : sumC [] = 0 := rfl
theorem sumC_le (l : List UInt8) : sumC l ≤ 4294967295 := Nat.sub_le _ _
def bodyL (n : Nat) (s : List UInt8) : List UInt8 := numL n ++ textL s
def frameL (n : Nat) (s : List UInt8) : List UInt8 := numL (sumC (bodyL n s)) ++ textL (bodyL n s)
def recOk (s : List UInt8) : Bool := decide (1 ≤ s.length) && decide (s.length ≤ 2000)
def firstL (data : List UInt8) (n : Nat) : Option (List UInt8 × Nat) :=
  if (Rd.text (Rd.num ⟨0, data⟩).2).2.err ≠ 0 ∨ (Rd.num ⟨0, data⟩).1 ≠ (sumC (Rd.text (Rd.num ⟨0, data⟩).2).1 : Int) then none
  else if (Rd.text (Rd.num ⟨0, (Rd.text (Rd.num ⟨0, data⟩).2).1⟩).2).2.fin ≠ 0 ∨ (Rd.num ⟨0, (Rd.text (Rd.num ⟨0, data⟩).2).1⟩).1 ≠ (n : Int) ∨ recOk (Rd.text (Rd.num ⟨0, (Rd.text (Rd.num ⟨0, data⟩).2).1⟩).2).1 = false then none
  else some ((Rd.text (Rd.num ⟨0, (Rd.text (Rd.num ⟨0, data⟩).2).1⟩).2).1, (numL (Rd.num ⟨0, data⟩).1).length + (textL (Rd.text (Rd.num ⟨0, data⟩).2).1).length)
theorem num_nat {n : Nat} (hn : n ≤ 9223372036854775807) (more : List UInt8) : Rd.num ⟨0, numL n ++ more⟩ = ((n : Int), ⟨0, more⟩) := by
  unfold Rd.num numL
  rw [raw_natL (u64_bound _)]
  simp only [Prod.mk.injEq, and_true]
  exact wrap_u64 (by omega) (by omega)
theorem text_of (s more : List UInt8) (hs : s.length < 18446744073709551616) : Rd.text ⟨0, textL s ++ more⟩ = (s, ⟨0, more⟩) := by
  unfold Rd.text textL
  rw [List.append_assoc, raw_natL hs]
  simp
theorem first_frame {n : Nat} {s : List UInt8} (hn : n ≤ 9223372036854775807) (hs : recOk s = true) (more : List UInt8) : firstL (frameL n s ++ more) n = some (s, (frameL n s).length) := by
  have hr : 1 ≤ s.length ∧ s.length ≤ 2000 := by simpa [recOk] using hs
  have hb : (bodyL n s).length < 18446744073709551616 := by
    unfold bodyL textL numL natL
    simp only [List.length_append, List.length_cons, beF_len]
    have := wid_le (u64 n)
    have := wid_le s.length
    omega
  have e1 : Rd.num ⟨0, frameL n s ++ more⟩ = ((sumC (bodyL n s) : Int), ⟨0, textL (bodyL n s) ++ more⟩) := by
    unfold frameL
    rw [List.append_assoc, num_nat (by have := sumC_le (bodyL n s); omega)]
  have e2 : Rd.text ⟨0, textL (bodyL n s) ++ more⟩ = (bodyL n s, ⟨0, more⟩) := text_of _ _ hb
  have e3 : Rd.num ⟨0, bodyL n s⟩ = ((n : Int), ⟨0, textL s⟩) := num_nat hn _
  have e4 : Rd.text ⟨0, textL s⟩ = (s, ⟨0, []⟩) := by
    have := text_of s [] (by omega)
    rwa [List.append_nil] at this
  unfold firstL
  rw [e1, e2]
  dsimp only
  rw [e3]
  dsimp only
  rw [e4, if_neg (by simp), if_neg (by simp [Rd.fin, hs])]
  simp [frameL]
theorem num_back {l : List UInt8} {r : Rd} {k : Int} (h : Rd.num ⟨0, l⟩ = (k, r)) (he : r.err = 0) : l = numL k ++ r.rest := by
  obtain ⟨err, rest⟩ := r
  obtain rfl : err = 0 := he
  unfold Rd.num at h
  have h1 : (Rd.raw ⟨0, l⟩).2 = ⟨0, rest⟩ := congrArg Prod.snd h
  have h2 : IntKind.i64.wrap ((Rd.raw ⟨0, l⟩).1 : Int) = k := congrArg Prod.fst h
  have h3 := raw_back (l := l) (u := (Rd.raw ⟨0, l⟩).1) (rest := rest) (by rw [← h1])
  unfold numL
  rw [← h2, u64_wrap _ (raw_bound _)]
  exact h3
theorem rd_ok {r : Rd} (h : r.err = 0) : r = ⟨0, r.rest⟩ := by
  obtain ⟨e, t⟩ := r
  obtain rfl : e = 0 := h
  rfl
theorem text_back {l : List UInt8} {r : Rd} {s : List UInt8} (h : Rd.text ⟨0, l⟩ = (s, r)) (he : r.err = 0) : l = textL s ++ r.rest := by
  unfold Rd.text at h
  split at h
  · rename_i h1
    cases h
    exact absurd he h1
  · rename_i h1
    split at h
    · cases h
      cases he
    · rename_i h2
      have h3 : (Rd.raw ⟨0, l⟩).2 = ⟨0, (Rd.raw ⟨0, l⟩).2.rest⟩ := rd_ok (Decidable.not_not.1 h1)
      have h4 := raw_back (l := l) (u := (Rd.raw ⟨0, l⟩).1) (rest := (Rd.raw ⟨0, l⟩).2.rest) (by rw [← h3])
      obtain ⟨rfl, rfl⟩ := Prod.mk.inj h
      unfold textL
      rw [List.length_take, Nat.min_eq_left (by omega), List.append_assoc, List.take_append_drop]
      exact h4
theorem num_err {r : Rd} (h : r.err ≠ 0) : r.num.2 = r := by
  unfold Rd.num
  rw [raw_err h]
theorem text_err {r : Rd} (h : r.err ≠ 0) : r.text.2 = r := by
  unfold Rd.text
  rw [raw_err h, if_pos h]
/-- What is read is a frame. -/
theorem first_inv {data : List UInt8} {n : Nat} {s : List UInt8} {k : Nat} (h : firstL data n = some (s, k)) : k = (frameL n s).length ∧ recOk s = true ∧ data = frameL n s ++ data.drop k := by
  unfold firstL at h
  obtain ⟨⟨c, r1⟩, e1⟩ : ∃ x, Rd.num ⟨0, data⟩ = x := ⟨_, rfl⟩
  rw [e1] at h
  dsimp only at h
  obtain ⟨⟨b, r2⟩, e2⟩ : ∃ x, Rd.text r1 = x := ⟨_, rfl⟩
  rw [e2] at h
  dsimp only at h
  obtain ⟨⟨m, r3⟩, e3⟩ : ∃ x, Rd.num ⟨0, b⟩ = x := ⟨_, rfl⟩
  rw [e3] at h
  dsimp only at h
  obtain ⟨⟨t, r4⟩, e4⟩ : ∃ x, Rd.text r3 = x := ⟨_, rfl⟩
  rw [e4] at h
  dsimp only at h
  split at h
  · cases h
  rename_i h1
  split at h
  · cases h
  rename_i h2
  simp only [not_or, Decidable.not_not, Bool.not_eq_false] at h1 h2
  obtain ⟨h1a, h1b⟩ := h1
  obtain ⟨h2a, h2b, h2c⟩ := h2
  obtain ⟨rfl, rfl⟩ := Prod.mk.inj (Option.some.inj h)
  have q1 : r1.err = 0 := Classical.byContradiction fun hq => by
    have := text_err hq
    rw [e2] at this
    dsimp only at this
    rw [this] at h1a
    exact hq h1a
  have q4 : r4.err = 0 ∧ r4.rest = [] := by
    unfold Rd.fin at h2a
    split at h2a
    · rename_i hq
      exact absurd h2a hq
    · rename_i hq
      split at h2a
      · cases h2a
      · rename_i hq2
        exact ⟨Decidable.not_not.1 hq, Decidable.not_not.1 hq2⟩
  have q3 : r3.err = 0 := Classical.byContradiction fun hq => by
    have := text_err hq
    rw [e4] at this
    dsimp only at this
    rw [this] at q4
    exact hq q4.1
  have d1 := num_back e1 q1
  have hr1 : Rd.text ⟨0, r1.rest⟩ = (b, r2) := by
    rw [← e2]
    congr 1
    obtain ⟨er, rs⟩ := r1
    obtain rfl : er = 0 := q1
    rfl
  have d2 := text_back hr1 h1a
  have d3 := num_back e3 q3
  have hr3 : Rd.text ⟨0, r3.rest⟩ = (t, r4) := by
    rw [← e4]
    congr 1
    obtain ⟨er, rs⟩ := r3
    obtain rfl : er = 0 := q3
    rfl
  have d4 := text_back hr3 q4.1
  rw [q4.2, List.append_nil] at d4
  have hb : b = bodyL n t := by
    unfold bodyL
    rw [← h2b, ← d4]
    exact d3
  have hf : numL c ++ textL b = frameL n t := by
    unfold frameL
    rw [h1b, hb]
  refine ⟨by rw [← hf, List.length_append], h2c, ?_⟩
  have hd : data = frameL n t ++ r2.rest := by
    rw [← hf, List.append_assoc, ← d2]
    exact d1
  have hl : (numL c).length + (textL b).length = (frameL n t).length := by rw [← hf, List.length_append]
  rw [hl]
  conv => lhs; rw [hd]
  rw [hd, List.drop_left']
  rfl
theorem frame_len (n : Nat) (s : List UInt8) : 4 ≤ (frameL n s).length := by
  unfold frameL bodyL textL numL natL
  simp only [List.length_append, List.length_cons]
  omega
/-- A frame's beginning alone is none. -/
theorem first_torn {n m : Nat} {s p q : List UInt8} (hn : n ≤ 9223372036854775807) (hs : recOk s = true) (h : frameL n s = p ++ q) (hq : q ≠ []) : firstL p m = none := by
  refine Option.eq_none_iff_forall_ne_some.2 fun x hx => ?_
  obtain ⟨t, k⟩ := x
  obtain ⟨rfl, ht, hp⟩ := first_inv hx
  have h1 : frameL n s = frameL m t ++ (p.drop (frameL m t).length ++ q) := by rw [← List.append_assoc, ← hp, h]
  have h2 := first_frame hn hs []
  rw [List.append_nil] at h2
  have hbl : ∀ (j : Nat) (u : List UInt8), recOk u = true → (bodyL j u).length < 18446744073709551616 := fun j u hu => by
    have hr : 1 ≤ u.length ∧ u.length ≤ 2000 := by simpa [recOk] using hu
    unfold bodyL textL numL natL
    simp only [List.length_append, List.length_cons, beF_len]
    have := wid_le (u64 j)
    have := wid_le u.length
    omega
  have h3 : ∀ (j : Nat) (u more : List UInt8), recOk u = true → (Rd.text (Rd.num ⟨0, frameL j u ++ more⟩).2).2 = ⟨0, more⟩ := fun j u more hu => by
    unfold frameL
    rw [List.append_assoc, num_nat (by have := sumC_le (bodyL j u); omega)]
    dsimp only
    rw [text_of _ _ (hbl j u hu)]
  have h4 := h3 n s [] hs
  rw [List.append_nil, h1, h3 m t _ ht] at h4
  have h5 : p.drop (frameL m t).length ++ q = [] := congrArg Rd.rest h4
  exact hq (List.append_eq_nil_iff.1 h5).2
theorem first_nil (m : Nat) : firstL [] m = none := by
  unfold firstL
  have e1 : Rd.num ⟨0, []⟩ = (0, ⟨10, []⟩) := by
    unfold Rd.num
    rw [raw_none]
    rfl
  rw [e1]
  have : Rd.text ⟨10, []⟩ = ([], ⟨10, []⟩) := by
    unfold Rd.text
    rw [raw_err (by decide)]
    rfl
  rw [this, if_pos (.inl (by decide))]
/-- A hole is none. -/
theorem first_hole (m : Nat) (more : List UInt8) : firstL (0 :: 0 :: more) m = none := by
  have e0 : ∀ t, Rd.raw ⟨0, 0 :: t⟩ = (0, ⟨0, t⟩) := fun t => by
    rw [raw_ok (by decide) (by show ¬ t.length < 0; omega) (fun e => e.1 rfl)]
    simp [valL]
  have e1 : Rd.num ⟨0, 0 :: 0 :: more⟩ = (0, ⟨0, 0 :: more⟩) := by
    unfold Rd.num
    rw [e0]
    rfl
  have e2 : Rd.text ⟨0, 0 :: more⟩ = ([], ⟨0, more⟩) := by
    unfold Rd.text
    rw [e0]
    simp
  have e3 : Rd.num ⟨0, []⟩ = (0, ⟨10, []⟩) := by
    unfold Rd.num
    rw [raw_none]
    rfl
  have e4 : Rd.text ⟨10, []⟩ = ([], ⟨10, []⟩) := by
    unfold Rd.text
    rw [raw_err (by decide)]
    rfl
  unfold firstL
  rw [e1]
  dsimp only
  rw [e2]
  dsimp only
  rw [e3]
  dsimp only
  rw [e4, if_neg (by simp [sumC_nil]), if_pos (.inl (by decide))]
end Go.Proofs.YtgglheelhbfgiaaGreatDoor

