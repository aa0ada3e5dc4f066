/-
  A map of the call's own from texts to things of one cell, as a list of pairs; of no program but for the type of its keys. A disk whose last acts may be lost, in plain Lean. A record's frame, and what bytes begin with: the plain law. Records in files of a disk, in plain Lean. Operations and pieces that last, in plain Lean.
-/
import Derived.Test.YtgglheelhbfgiaaGreatDoorMg1
import Derived.Test.YtgglheelhbfgiaaGreatDoorShelf
import Derived.Maps.OwnSet
import Derived.Maps.Ext
import Derived.Maps.RangeWalk
import Derived.Sort.KeysCollected
import Derived.Test.YtgglheelhbfgiaaGreatDoorMg6
import Derived.Lib.ItoaNum
import Derived.Test.YtgglheelhbfgiaaGreatDoorMg9
import Derived.Test.YtgglheelhbfgiaaGreatDoorMg8
import Derived.Test.YtgglheelhbfgiaaGreatDoorMg10
import Derived.Lib.SlicesS
namespace Go.Proofs.YtgglheelhbfgiaaGreatDoor
open Go Go.RowKit Go.Lib
/-- What a map holds: how it is written, and what it reads as. -/
structure ValK (α : Type) where
  val : α → Value
  enc : α → DataW Unit
  row : Value → Option (DataW Unit × List MemPlace)
  row_val : ∀ a, row (val a) = some (enc a, [])
  row_inv : ∀ v z, row v = some z → ∃ a, v = val a ∧ z = (enc a, [])
  enc_inj : ∀ a b, enc a = enc b → a = b
def rowInt : Value → Option (DataW Unit × List MemPlace)
  | .int .i64 i => some (.lit (.int .i64 i), [])
  | _ => none
def rowBool : Value → Option (DataW Unit × List MemPlace)
  | .bool i => some (.lit (.bool i), [])
  | _ => none
def rowStr : Value → Option (DataW Unit × List MemPlace)
  | .string s => some (.lit (.string s.data.toList), [])
  | _ => none
theorem rowInt_inv (v : Value) (z : DataW Unit × List MemPlace) (h : rowInt v = some z) : ∃ a : Int, v = .int .i64 a ∧ z = (.lit (.int .i64 a), []) := by
  unfold rowInt at h
  split at h
  · cases h
    exact ⟨_, rfl, rfl⟩
  · cases h
theorem rowBool_inv (v : Value) (z : DataW Unit × List MemPlace) (h : rowBool v = some z) : ∃ a : Bool, v = .bool a ∧ z = (.lit (.bool a), []) := by
  unfold rowBool at h
  split at h
  · cases h
    exact ⟨_, rfl, rfl⟩
  · cases h
theorem rowStr_inv (v : Value) (z : DataW Unit × List MemPlace) (h : rowStr v = some z) : ∃ a : ByteArray, v = .string a ∧ z = (.lit (.string a.data.toList), []) := by
  unfold rowStr at h
  split at h
  · cases h
    exact ⟨_, rfl, rfl⟩
  · cases h
def intV : ValK Int := { val := Value.int .i64, enc := fun i => .lit (.int .i64 i), row := rowInt, row_val := fun _ => rfl, row_inv := rowInt_inv, enc_inj := fun a b h => by cases h; rfl }
def boolV : ValK Bool := { val := Value.bool, enc := fun i => .lit (.bool i), row := rowBool, row_val := fun _ => rfl, row_inv := rowBool_inv, enc_inj := fun a b h => by cases h; rfl }
theorem bytesK_inj {p q : ByteArray} : p.data.toList = q.data.toList ↔ p = q := by
  constructor
  · intro h
    obtain ⟨⟨p⟩⟩ := p
    obtain ⟨⟨q⟩⟩ := q
    simpa using h
  · intro h
    rw [h]
def strV : ValK ByteArray := { val := Value.string, enc := fun s => .lit (.string s.data.toList), row := rowStr, row_val := fun _ => rfl, row_inv := rowStr_inv, enc_inj := fun a b h => by simp only [DataW.lit.injEq, Lit.string.injEq] at h; exact bytesK_inj.1 h }
section
variable {α : Type}
def pK (x : ByteArray × α) : List UInt8 := x.1.data.toList
def insK (x : ByteArray × α) : List (ByteArray × α) → List (ByteArray × α)
  | [] => [x]
  | y :: r => if bytesBefore (pK x) (pK y) then x :: y :: r else y :: insK x r
def delK (es : List (ByteArray × α)) (p : ByteArray) : List (ByteArray × α) := es.filter fun y => !decide (y.1 = p)
def putK (es : List (ByteArray × α)) (p : ByteArray) (a : α) : List (ByteArray × α) := insK (p, a) (delK es p)
def findK (es : List (ByteArray × α)) (p : ByteArray) : Option α := (es.find? fun y => decide (y.1 = p)).map (·.2)
def prK (K : ValK α) (x : ByteArray × α) : Lit × DataW Unit := (.string (pK x), K.enc x.2)
def datK (K : ValK α) (es : List (ByteArray × α)) : DataW Unit := .map (es.map (prK K))
variable (K : ValK α)
theorem insK_map (x : ByteArray × α) : ∀ es, (insK x es).map (prK K) = DataW.insert (prK K x) (es.map (prK K))
  | [] => rfl
  | y :: r => by
    have e : (prK K x).1.before (prK K y).1 = bytesBefore (pK x) (pK y) := rfl
    rw [insK, List.map_cons, DataW.insert, e]
    split
    · rfl
    · rw [List.map_cons, insK_map x r]
theorem sameK (y : ByteArray × α) (p : ByteArray) : (prK K y).1.sameKey (.string p.data.toList) = decide (y.1 = p) := by
  show (pK y == p.data.toList) = _
  by_cases h : y.1 = p
  · rw [decide_eq_true h, ← h]
    exact beq_self_eq_true _
  · rw [decide_eq_false h, beq_eq_false_iff_ne]
    exact fun e => h (bytesK_inj.1 e)
theorem delK_map (es : List (ByteArray × α)) (p : ByteArray) : (es.map (prK K)).filter (fun q => !q.1.sameKey (.string p.data.toList)) = (delK es p).map (prK K) := by
  rw [List.filter_map, delK]
  congr 1
  refine List.filter_congr fun y _ => ?_
  show (!(prK K y).1.sameKey _) = _
  rw [sameK]
theorem datK_put (es : List (ByteArray × α)) (p : ByteArray) (a : α) : (datK K es).put (.string p.data.toList) (K.enc a) = datK K (putK es p a) := by
  show DataW.map (DataW.insert (prK K (p, a)) ((es.map (prK K)).filter fun q => !q.1.sameKey (.string p.data.toList))) = _
  rw [delK_map, ← insK_map]
  rfl
theorem findK_map (es : List (ByteArray × α)) (p : ByteArray) : (es.map (prK K)).find? (fun q => q.1.sameKey (.string p.data.toList)) = (es.find? fun y => decide (y.1 = p)).map (prK K) := by
  rw [List.find?_map]
  congr 2
  funext y
  exact sameK K y p
theorem datK_at (es : List (ByteArray × α)) (p : ByteArray) (zd : DataW Unit) : (datK K es).atKey (.string p.data.toList) zd = ((findK es p).map K.enc).getD zd := by
  unfold datK DataW.atKey findK
  dsimp only
  rw [findK_map]
  cases es.find? (fun y => decide (y.1 = p)) <;> rfl
theorem datK_has (es : List (ByteArray × α)) (p : ByteArray) : Maps.has (datK K es) (.string p.data.toList) = (findK es p).isSome := by
  have h : ((es.map (prK K)).find? fun q => q.1.sameKey (.string p.data.toList)).isSome = (es.map (prK K)).any fun q => q.1.sameKey (.string p.data.toList) := List.isSome_find? ..
  show (es.map (prK K)).any (fun q => q.1.sameKey (.string p.data.toList)) = _
  rw [← h, findK_map]
  unfold findK
  cases es.find? (fun y => decide (y.1 = p)) <;> rfl
theorem datK_size (es : List (ByteArray × α)) : Maps.size (datK K es) = es.length := by
  show (es.map (prK K)).length = _
  rw [List.length_map]
theorem datK_keys (es : List (ByteArray × α)) : strKeys (datK K es) = es.map pK := by
  show (es.map (prK K)).map (fun p => strOf p.1) = _
  rw [List.map_map]
  rfl
/-! ### as a function -/
theorem insK_perm (x : ByteArray × α) : ∀ es, (insK x es).Perm (x :: es)
  | [] => List.Perm.refl _
  | y :: r => by
    unfold insK
    split
    · exact List.Perm.refl _
    · exact ((insK_perm x r).cons y).trans (List.Perm.swap x y r)
theorem keysK_put (es : List (ByteArray × α)) (p : ByteArray) (a : α) (h : (es.map (·.1)).Nodup) : ((putK es p a).map (·.1)).Nodup := by
  unfold putK
  rw [((insK_perm (p, a) (delK es p)).map (·.1)).nodup_iff, List.map_cons, List.nodup_cons]
  refine ⟨fun hm => ?_, ?_⟩
  · obtain ⟨y, hy, e⟩ := List.mem_map.1 hm
    have := (List.mem_filter.1 hy).2
    rw [show y.1 = p from e, decide_eq_true rfl] at this
    cases this
  · exact (List.Nodup.sublist (List.filter_sublist.map _) h)
theorem findK_some {es : List (ByteArray × α)} {p : ByteArray} {a : α} (h : findK es p = some a) : (p, a) ∈ es := by
  unfold findK at h
  rw [Option.map_eq_some_iff] at h
  obtain ⟨⟨q, b⟩, h1, h2⟩ := h
  have h3 : q = p := by simpa using List.find?_some h1
  have h4 : b = a := h2
  subst h3 h4
  exact List.mem_of_find?_eq_some h1
theorem findK_of {es : List (ByteArray × α)} (hn : (es.map (·.1)).Nodup) {p : ByteArray} {a : α} (h : (p, a) ∈ es) : findK es p = some a := by
  induction es with
  | nil => cases h
  | cons y r ih =>
    obtain ⟨h1, h2⟩ := List.nodup_cons.1 hn
    unfold findK
    rcases List.mem_cons.1 h with e | h
    · rw [← e, List.find?_cons_of_pos (by simp)]
      rfl
    · have hne : ¬ y.1 = p := fun e => h1 (List.mem_map.2 ⟨_, h, e.symm⟩)
      rw [List.find?_cons_of_neg (by simpa using hne)]
      exact ih h2 h
theorem findK_put {es : List (ByteArray × α)} (hn : (es.map (·.1)).Nodup) (p : ByteArray) (a : α) (q : ByteArray) : findK (putK es p a) q = if q = p then some a else findK es q := by
  have hn2 := keysK_put es p a hn
  have hm : ∀ z, z ∈ putK es p a ↔ z = (p, a) ∨ (z ∈ es ∧ z.1 ≠ p) := fun z => by
    unfold putK
    rw [(insK_perm (p, a) (delK es p)).mem_iff, List.mem_cons, delK, List.mem_filter, Bool.not_eq_true', decide_eq_false_iff_not]
  split
  · rename_i e
    subst e
    exact findK_of hn2 ((hm _).2 (.inl rfl))
  · rename_i e
    cases h : findK es q with
    | some b => exact findK_of hn2 ((hm _).2 (.inr ⟨findK_some h, e⟩))
    | none =>
      cases h2 : findK (putK es p a) q with
      | none => rfl
      | some b =>
        rcases (hm _).1 (findK_some h2) with h3 | ⟨h3, _⟩
        · exact absurd (Prod.mk.inj h3).1 e
        · rw [findK_of hn h3] at h
          cases h
theorem mem_keysK {es : List (ByteArray × α)} {p : ByteArray} : p ∈ es.map (·.1) ↔ (findK es p).isSome = true := by
  constructor
  · intro h
    obtain ⟨y, hy, e⟩ := List.mem_map.1 h
    unfold findK
    rw [Option.isSome_map, List.isSome_find?, List.any_eq_true]
    exact ⟨y, hy, decide_eq_true e⟩
  · intro h
    obtain ⟨a, ha⟩ := Option.isSome_iff_exists.1 h
    exact List.mem_map.2 ⟨_, findK_some ha, rfl⟩
theorem lenK_put (es : List (ByteArray × α)) (p : ByteArray) (a : α) : (putK es p a).length ≤ es.length + 1 := by
  unfold putK
  rw [(insK_perm (p, a) (delK es p)).length_eq, List.length_cons]
  have := List.length_filter_le (fun y : ByteArray × α => !decide (y.1 = p)) es
  unfold delK
  omega
theorem keys_back {es : List (ByteArray × α)} {ss : List (List UInt8)} (h : ss.Perm (es.map pK)) : (ss.map fun s => (⟨s.toArray⟩ : ByteArray)).Perm (es.map (·.1)) := by
  refine (h.map _).trans (List.Perm.of_eq ?_)
  rw [List.map_map]
  refine List.map_congr_left fun x _ => ?_
  obtain ⟨⟨⟨p⟩⟩, a⟩ := x
  rfl
/-! ### in memory -/
variable {P : Program} {k : TypeId} {w : World} {b n : Nat}
def MapK (P : Program) (k : TypeId) (w : World) (b : Nat) (es : List (ByteArray × α)) : Prop := w.ownsMap P k K.row b es.length (datK K es)
variable {K}
theorem lengthK_sorted (l : List (Lit × DataW Unit)) : (l.foldr DataW.insert []).length = l.length := by
  induction l with
  | nil => rfl
  | cons x r ih =>
    have : ∀ (y : Lit × DataW Unit) (m : List (Lit × DataW Unit)), (DataW.insert y m).length = m.length + 1 := fun y m => by
      induction m with
      | nil => rfl
      | cons z m ih2 =>
        rw [DataW.insert]
        split
        · rfl
        · rw [List.length_cons, ih2, List.length_cons]
    rw [List.foldr_cons, this, ih, List.length_cons]
theorem MapK.of {es : List (ByteArray × α)} (h : w.ownsMap P k K.row b n (datK K es)) : MapK K P k w b es := by
  obtain ⟨xs, clock, hb, F, _, hD⟩ := h
  refine ⟨xs, clock, hb, F, ?_, hD⟩
  have h1 : (es.map (prK K)).length = ((xs.toList.map (WideElems.rg P k K.row)).foldr DataW.insert []).length := by
    have : DataW.map (es.map (prK K)) = DataW.map _ := hD
    rw [DataW.map.inj this]
  rw [lengthK_sorted, List.length_map, List.length_map, Array.length_toList] at h1
  exact Nat.le_of_eq h1.symm
theorem MapK.lt {es : List (ByteArray × α)} (h : MapK K P k w b es) : b < w.heap.size := World.ownsMap.lt h
theorem MapK.same {w' : World} {es : List (ByteArray × α)} (h : MapK K P k w b es) (e : w'.heap[b]? = w.heap[b]?) : MapK K P k w' b es := by
  obtain ⟨xs, clock, hb, r⟩ := h
  exact ⟨xs, clock, e.trans hb, r⟩
theorem MapK.keeps {w' : World} {B : Nat} {es : List (ByteArray × α)} (h : MapK K P k w b es) (hb : Below B w w') (hlt : b < B) : MapK K P k w' b es := h.same (hb.block b hlt)
theorem MapK.grown {w' : World} {row : Option Nat} {es : List (ByteArray × α)} (h : MapK K P k w b es) (hg : w.grownBy w' row) (hne : some b ≠ row) : MapK K P k w' b es := World.ownsMap.kept h hg hne
theorem MapK.made (w : World) : MapK K P k (w.alloc (.map #[] 0)) w.heap.size [] := World.ownsMap_made w P k K.row
theorem atK_val {es : List (ByteArray × α)} {p : ByteArray} {v : Value} {z : α} {ps : List MemPlace} (h : K.row v = some ((datK K es).atKey (.string p.data.toList) (K.enc z), ps)) : v = K.val ((findK es p).getD z) := by
  rw [datK_at] at h
  obtain ⟨x, rfl, e⟩ := K.row_inv _ _ h
  have e1 := (Prod.mk.inj e).1
  cases hf : findK es p with
  | none =>
    rw [hf] at e1
    rw [← K.enc_inj z x e1]
    rfl
  | some y =>
    rw [hf] at e1
    rw [← K.enc_inj y x e1]
    rfl
variable {t e : TypeId}
theorem MapK.look {es : List (ByteArray × α)} (h : MapK K P k w b es) (law : Go.Maps.Keyed P k) (hs : P.underlying k = some .string) (ht : P.underlying t = some (.map k e)) {z : α} (hz : (zeroValue e).run P w = .ok (K.val z) w) {p : ByteArray} (hp : p.size ≤ maxLen) :
    (Instr.lookup t (.map (some b)) (.string p) true).run P w = .ok (.tuple #[K.val ((findK es p).getD z), .bool (findK es p).isSome]) w := by
  obtain ⟨v, ps, h1, h2⟩ := World.ownsMap.look_ok h law ht hz (K.row_val z) (Go.WideMaps.keyOf_string_mk hs hp)
  rw [h1, atK_val h2, datK_has]
theorem MapK.look1 {es : List (ByteArray × α)} (h : MapK K P k w b es) (law : Go.Maps.Keyed P k) (hs : P.underlying k = some .string) (ht : P.underlying t = some (.map k e)) {z : α} (hz : (zeroValue e).run P w = .ok (K.val z) w) {p : ByteArray} (hp : p.size ≤ maxLen) :
    (Instr.lookup t (.map (some b)) (.string p) false).run P w = .ok (K.val ((findK es p).getD z)) w := by
  obtain ⟨v, ps, h1, h2⟩ := World.ownsMap.lookup h law ht hz (K.row_val z) (Go.WideMaps.keyOf_string_mk hs hp)
  rw [h1, atK_val h2]
theorem MapK.put {es : List (ByteArray × α)} (h : MapK K P k w b es) (law : Go.Maps.Keyed P k) (hs : P.underlying k = some .string) (ht : P.underlying t = some (.map k e)) (p : ByteArray) (a : α) (hp : p.size ≤ maxLen) (hl : es.length < maxLen) :
    ∃ w', (Instr.mapUpdate t (.map (some b)) (.string p) (K.val a)).run P w = .ok () w' ∧ MapK K P k w' b (putK es p a) ∧ w.grownBy w' (some b) := by
  obtain ⟨w', h1, h2, h3⟩ := World.ownsMap.update h law ht hl (Go.WideMaps.keyOf_string_mk hs hp) (K.row_val a)
  rw [datK_put] at h2
  exact ⟨w', h1, MapK.of h2, h3⟩
theorem MapK.len {es : List (ByteArray × α)} (h : MapK K P k w b es) (ht : P.underlying t = some (.map k e)) (ty : TypeId) : (Builtin.len_ #[t] ty #[.map (some b)]).run P w = .ok (.int .i64 es.length) w := by
  rw [World.ownsMap.len h ht ty, datK_size]
end
end Go.Proofs.YtgglheelhbfgiaaGreatDoor

namespace Go.Proofs.YtgglheelhbfgiaaGreatDoor
open Go Go.RowKit
/-- An act: a write, or a cut. -/
structure ActD where
  cut : Bool
  name : ByteArray
  n : Nat
  data : ByteArray
abbrev Fls := List (ByteArray × ByteArray)
def noB : ByteArray := ⟨#[]⟩
def hasD (es : Fls) (p : ByteArray) : ByteArray := (findK es p).getD noB
def halfB (d : ByteArray) : ByteArray := d.extract 0 (d.size / 2)
/-- Bytes behind a write. -/
def padL (s : List UInt8) (n : Nat) : List UInt8 := s ++ List.replicate (n - s.length) 0
def laidL (s : List UInt8) (n : Nat) (d : List UInt8) : List UInt8 := (padL s n).take n ++ d ++ (padL s n).drop (n + d.length)
def laidB (s : ByteArray) (n : Nat) (d : ByteArray) : ByteArray := ⟨(laidL s.data.toList n d.data.toList).toArray⟩
def shortB (s : ByteArray) (n : Nat) : ByteArray := s.extract 0 (min s.size n)
def doD (es : Fls) (a : ActD) (torn : Bool) : Fls :=
  if a.cut then (match findK es a.name with | none => es | some s => putK es a.name (shortB s a.n))
  else putK es a.name (laidB (hasD es a.name) a.n (if torn then halfB a.data else a.data))
structure Dk where
  limit : Nat
  now : Fls
  firm : Fls
  acts : List ActD
  armed : Int
  dead : Bool
def sizeF (es : Fls) : Nat := (es.map fun x => x.2.size).sum
def wrongD (d : Dk) (name : ByteArray) (n : Int) : Int :=
  if d.dead = true then 42 else if name.size = 0 ∨ 24 < name.size ∨ n < 0 ∨ (d.limit : Int) < n then 1 else 0
def diesD (d : Dk) : Dk := if 0 < d.armed then { d with armed := wrap64 (d.armed - 1), dead := wrap64 (d.armed - 1) == 0 } else d
def doesD (d : Dk) (a : ActD) : Dk × Int :=
  if (diesD { d with acts := d.acts ++ [a] }).dead = true then (diesD { d with acts := d.acts ++ [a] }, 42)
  else ({ diesD { d with acts := d.acts ++ [a] } with now := doD d.now a false }, 0)
def writeD (d : Dk) (name : ByteArray) (n : Int) (data : ByteArray) : Dk × Int :=
  if wrongD d name n ≠ 0 then (d, wrongD d name n)
  else if (d.limit : Int) - max ((hasD d.now name).size : Int) (n + data.size) < (sizeF d.now : Int) - (hasD d.now name).size then (d, 41)
  else doesD d ⟨false, name, n.toNat, data⟩
def cutD (d : Dk) (name : ByteArray) (n : Int) : Dk × Int :=
  if wrongD d name n ≠ 0 then (d, wrongD d name n)
  else if (findK d.now name).isNone then (d, 25)
  else doesD d ⟨true, name, n.toNat, noB⟩
def syncD (d : Dk) : Dk × Int :=
  if d.dead = true then (d, 42) else if (diesD d).dead = true then (diesD d, 42) else ({ diesD d with firm := d.now, acts := [] }, 0)
def readD (d : Dk) (name : ByteArray) : ByteArray × Int :=
  if wrongD d name 0 ≠ 0 then (noB, wrongD d name 0) else match findK d.now name with | none => (noB, 25) | some s => (s, 0)
def namesD (d : Dk) : List ByteArray := d.now.map (·.1)
def armD (d : Dk) (n : Int) : Dk := { d with armed := max n 0 }
/-- Which acts a crash keeps. -/
def bitD (keep : Int) (i : Nat) : Bool := keep / 2 ^ (i % 30) % 2 = 1
def keptD (keep : Int) : Nat → List ActD → List ActD
  | _, [] => []
  | i, a :: r => if bitD keep i then a :: keptD keep (i + 1) r else keptD keep (i + 1) r
def runD (torn : Bool) : Fls → List ActD → Fls
  | es, [] => es
  | es, [a] => doD es a torn
  | es, a :: b :: r => runD torn (doD es a false) (b :: r)
def crashD (d : Dk) (keep : Int) (torn : Bool) : Dk :=
  { d with firm := runD torn d.firm (keptD keep 0 d.acts), now := runD torn d.firm (keptD keep 0 d.acts), acts := [], armed := 0, dead := false }
def newD (limit : Nat) : Dk := ⟨limit, [], [], [], 0, false⟩
end Go.Proofs.YtgglheelhbfgiaaGreatDoor

namespace Go.Proofs.YtgglheelhbfgiaaGreatDoor
open Go Go.RowKit
def stepC (x : Nat) : Nat := x / 2 ^^^ x % 2 * 3988292384
def tabC (i : Nat) : Nat := stepC (stepC (stepC (stepC (stepC (stepC (stepC (stepC i)))))))
def nextC (x : Nat) (b : UInt8) : Nat := x / 256 ^^^ tabC (x % 256 ^^^ b.toNat)
/-- The sum of bytes. -/
def sumC (l : List UInt8) : Nat := 4294967295 - l.foldl nextC 4294967295
theorem sumC_nil : sumC [] = 0 := rfl
theorem sumC_le (l : List UInt8) : sumC l ≤ 4294967295 := Nat.sub_le _ _
def bodyL (n : Nat) (s : List UInt8) : List UInt8 := numL n ++ textL s
def frameL (n : Nat) (s : List UInt8) : List UInt8 := numL (sumC (bodyL n s)) ++ textL (bodyL n s)
def recOk (s : List UInt8) : Bool := decide (1 ≤ s.length) && decide (s.length ≤ 2000)
def firstL (data : List UInt8) (n : Nat) : Option (List UInt8 × Nat) :=
  if (Rd.text (Rd.num ⟨0, data⟩).2).2.err ≠ 0 ∨ (Rd.num ⟨0, data⟩).1 ≠ (sumC (Rd.text (Rd.num ⟨0, data⟩).2).1 : Int) then none
  else if (Rd.text (Rd.num ⟨0, (Rd.text (Rd.num ⟨0, data⟩).2).1⟩).2).2.fin ≠ 0 ∨ (Rd.num ⟨0, (Rd.text (Rd.num ⟨0, data⟩).2).1⟩).1 ≠ (n : Int) ∨ recOk (Rd.text (Rd.num ⟨0, (Rd.text (Rd.num ⟨0, data⟩).2).1⟩).2).1 = false then none
  else some ((Rd.text (Rd.num ⟨0, (Rd.text (Rd.num ⟨0, data⟩).2).1⟩).2).1, (numL (Rd.num ⟨0, data⟩).1).length + (textL (Rd.text (Rd.num ⟨0, data⟩).2).1).length)
theorem num_nat {n : Nat} (hn : n ≤ 9223372036854775807) (more : List UInt8) : Rd.num ⟨0, numL n ++ more⟩ = ((n : Int), ⟨0, more⟩) := by
  unfold Rd.num numL
  rw [raw_natL (u64_bound _)]
  simp only [Prod.mk.injEq, and_true]
  exact wrap_u64 (by omega) (by omega)
theorem text_of (s more : List UInt8) (hs : s.length < 18446744073709551616) : Rd.text ⟨0, textL s ++ more⟩ = (s, ⟨0, more⟩) := by
  unfold Rd.text textL
  rw [List.append_assoc, raw_natL hs]
  simp
theorem first_frame {n : Nat} {s : List UInt8} (hn : n ≤ 9223372036854775807) (hs : recOk s = true) (more : List UInt8) : firstL (frameL n s ++ more) n = some (s, (frameL n s).length) := by
  have hr : 1 ≤ s.length ∧ s.length ≤ 2000 := by simpa [recOk] using hs
  have hb : (bodyL n s).length < 18446744073709551616 := by
    unfold bodyL textL numL natL
    simp only [List.length_append, List.length_cons, beF_len]
    have := wid_le (u64 n)
    have := wid_le s.length
    omega
  have e1 : Rd.num ⟨0, frameL n s ++ more⟩ = ((sumC (bodyL n s) : Int), ⟨0, textL (bodyL n s) ++ more⟩) := by
    unfold frameL
    rw [List.append_assoc, num_nat (by have := sumC_le (bodyL n s); omega)]
  have e2 : Rd.text ⟨0, textL (bodyL n s) ++ more⟩ = (bodyL n s, ⟨0, more⟩) := text_of _ _ hb
  have e3 : Rd.num ⟨0, bodyL n s⟩ = ((n : Int), ⟨0, textL s⟩) := num_nat hn _
  have e4 : Rd.text ⟨0, textL s⟩ = (s, ⟨0, []⟩) := by
    have := text_of s [] (by omega)
    rwa [List.append_nil] at this
  unfold firstL
  rw [e1, e2]
  dsimp only
  rw [e3]
  dsimp only
  rw [e4, if_neg (by simp), if_neg (by simp [Rd.fin, hs])]
  simp [frameL]
theorem num_back {l : List UInt8} {r : Rd} {k : Int} (h : Rd.num ⟨0, l⟩ = (k, r)) (he : r.err = 0) : l = numL k ++ r.rest := by
  obtain ⟨err, rest⟩ := r
  obtain rfl : err = 0 := he
  unfold Rd.num at h
  have h1 : (Rd.raw ⟨0, l⟩).2 = ⟨0, rest⟩ := congrArg Prod.snd h
  have h2 : IntKind.i64.wrap ((Rd.raw ⟨0, l⟩).1 : Int) = k := congrArg Prod.fst h
  have h3 := raw_back (l := l) (u := (Rd.raw ⟨0, l⟩).1) (rest := rest) (by rw [← h1])
  unfold numL
  rw [← h2, u64_wrap _ (raw_bound _)]
  exact h3
theorem rd_ok {r : Rd} (h : r.err = 0) : r = ⟨0, r.rest⟩ := by
  obtain ⟨e, t⟩ := r
  obtain rfl : e = 0 := h
  rfl
theorem text_back {l : List UInt8} {r : Rd} {s : List UInt8} (h : Rd.text ⟨0, l⟩ = (s, r)) (he : r.err = 0) : l = textL s ++ r.rest := by
  unfold Rd.text at h
  split at h
  · rename_i h1
    cases h
    exact absurd he h1
  · rename_i h1
    split at h
    · cases h
      cases he
    · rename_i h2
      have h3 : (Rd.raw ⟨0, l⟩).2 = ⟨0, (Rd.raw ⟨0, l⟩).2.rest⟩ := rd_ok (Decidable.not_not.1 h1)
      have h4 := raw_back (l := l) (u := (Rd.raw ⟨0, l⟩).1) (rest := (Rd.raw ⟨0, l⟩).2.rest) (by rw [← h3])
      obtain ⟨rfl, rfl⟩ := Prod.mk.inj h
      unfold textL
      rw [List.length_take, Nat.min_eq_left (by omega), List.append_assoc, List.take_append_drop]
      exact h4
theorem num_err {r : Rd} (h : r.err ≠ 0) : r.num.2 = r := by
  unfold Rd.num
  rw [raw_err h]
theorem text_err {r : Rd} (h : r.err ≠ 0) : r.text.2 = r := by
  unfold Rd.text
  rw [raw_err h, if_pos h]
/-- What is read is a frame. -/
theorem first_inv {data : List UInt8} {n : Nat} {s : List UInt8} {k : Nat} (h : firstL data n = some (s, k)) : k = (frameL n s).length ∧ recOk s = true ∧ data = frameL n s ++ data.drop k := by
  unfold firstL at h
  obtain ⟨⟨c, r1⟩, e1⟩ : ∃ x, Rd.num ⟨0, data⟩ = x := ⟨_, rfl⟩
  rw [e1] at h
  dsimp only at h
  obtain ⟨⟨b, r2⟩, e2⟩ : ∃ x, Rd.text r1 = x := ⟨_, rfl⟩
  rw [e2] at h
  dsimp only at h
  obtain ⟨⟨m, r3⟩, e3⟩ : ∃ x, Rd.num ⟨0, b⟩ = x := ⟨_, rfl⟩
  rw [e3] at h
  dsimp only at h
  obtain ⟨⟨t, r4⟩, e4⟩ : ∃ x, Rd.text r3 = x := ⟨_, rfl⟩
  rw [e4] at h
  dsimp only at h
  split at h
  · cases h
  rename_i h1
  split at h
  · cases h
  rename_i h2
  simp only [not_or, Decidable.not_not, Bool.not_eq_false] at h1 h2
  obtain ⟨h1a, h1b⟩ := h1
  obtain ⟨h2a, h2b, h2c⟩ := h2
  obtain ⟨rfl, rfl⟩ := Prod.mk.inj (Option.some.inj h)
  have q1 : r1.err = 0 := Classical.byContradiction fun hq => by
    have := text_err hq
    rw [e2] at this
    dsimp only at this
    rw [this] at h1a
    exact hq h1a
  have q4 : r4.err = 0 ∧ r4.rest = [] := by
    unfold Rd.fin at h2a
    split at h2a
    · rename_i hq
      exact absurd h2a hq
    · rename_i hq
      split at h2a
      · cases h2a
      · rename_i hq2
        exact ⟨Decidable.not_not.1 hq, Decidable.not_not.1 hq2⟩
  have q3 : r3.err = 0 := Classical.byContradiction fun hq => by
    have := text_err hq
    rw [e4] at this
    dsimp only at this
    rw [this] at q4
    exact hq q4.1
  have d1 := num_back e1 q1
  have hr1 : Rd.text ⟨0, r1.rest⟩ = (b, r2) := by
    rw [← e2]
    congr 1
    obtain ⟨er, rs⟩ := r1
    obtain rfl : er = 0 := q1
    rfl
  have d2 := text_back hr1 h1a
  have d3 := num_back e3 q3
  have hr3 : Rd.text ⟨0, r3.rest⟩ = (t, r4) := by
    rw [← e4]
    congr 1
    obtain ⟨er, rs⟩ := r3
    obtain rfl : er = 0 := q3
    rfl
  have d4 := text_back hr3 q4.1
  rw [q4.2, List.append_nil] at d4
  have hb : b = bodyL n t := by
    unfold bodyL
    rw [← h2b, ← d4]
    exact d3
  have hf : numL c ++ textL b = frameL n t := by
    unfold frameL
    rw [h1b, hb]
  refine ⟨by rw [← hf, List.length_append], h2c, ?_⟩
  have hd : data = frameL n t ++ r2.rest := by
    rw [← hf, List.append_assoc, ← d2]
    exact d1
  have hl : (numL c).length + (textL b).length = (frameL n t).length := by rw [← hf, List.length_append]
  rw [hl]
  conv => lhs; rw [hd]
  rw [hd, List.drop_left']
  rfl
theorem frame_len (n : Nat) (s : List UInt8) : 4 ≤ (frameL n s).length := by
  unfold frameL bodyL textL numL natL
  simp only [List.length_append, List.length_cons]
  omega
/-- A frame's beginning alone is none. -/
theorem first_torn {n m : Nat} {s p q : List UInt8} (hn : n ≤ 9223372036854775807) (hs : recOk s = true) (h : frameL n s = p ++ q) (hq : q ≠ []) : firstL p m = none := by
  refine Option.eq_none_iff_forall_ne_some.2 fun x hx => ?_
  obtain ⟨t, k⟩ := x
  obtain ⟨rfl, ht, hp⟩ := first_inv hx
  have h1 : frameL n s = frameL m t ++ (p.drop (frameL m t).length ++ q) := by rw [← List.append_assoc, ← hp, h]
  have h2 := first_frame hn hs []
  rw [List.append_nil] at h2
  have hbl : ∀ (j : Nat) (u : List UInt8), recOk u = true → (bodyL j u).length < 18446744073709551616 := fun j u hu => by
    have hr : 1 ≤ u.length ∧ u.length ≤ 2000 := by simpa [recOk] using hu
    unfold bodyL textL numL natL
    simp only [List.length_append, List.length_cons, beF_len]
    have := wid_le (u64 j)
    have := wid_le u.length
    omega
  have h3 : ∀ (j : Nat) (u more : List UInt8), recOk u = true → (Rd.text (Rd.num ⟨0, frameL j u ++ more⟩).2).2 = ⟨0, more⟩ := fun j u more hu => by
    unfold frameL
    rw [List.append_assoc, num_nat (by have := sumC_le (bodyL j u); omega)]
    dsimp only
    rw [text_of _ _ (hbl j u hu)]
  have h4 := h3 n s [] hs
  rw [List.append_nil, h1, h3 m t _ ht] at h4
  have h5 : p.drop (frameL m t).length ++ q = [] := congrArg Rd.rest h4
  exact hq (List.append_eq_nil_iff.1 h5).2
theorem first_nil (m : Nat) : firstL [] m = none := by
  unfold firstL
  have e1 : Rd.num ⟨0, []⟩ = (0, ⟨10, []⟩) := by
    unfold Rd.num
    rw [raw_none]
    rfl
  rw [e1]
  have : Rd.text ⟨10, []⟩ = ([], ⟨10, []⟩) := by
    unfold Rd.text
    rw [raw_err (by decide)]
    rfl
  rw [this, if_pos (.inl (by decide))]
/-- A hole is none. -/
theorem first_hole (m : Nat) (more : List UInt8) : firstL (0 :: 0 :: more) m = none := by
  have e0 : ∀ t, Rd.raw ⟨0, 0 :: t⟩ = (0, ⟨0, t⟩) := fun t => by
    rw [raw_ok (by decide) (by show ¬ t.length < 0; omega) (fun e => e.1 rfl)]
    simp [valL]
  have e1 : Rd.num ⟨0, 0 :: 0 :: more⟩ = (0, ⟨0, 0 :: more⟩) := by
    unfold Rd.num
    rw [e0]
    rfl
  have e2 : Rd.text ⟨0, 0 :: more⟩ = ([], ⟨0, more⟩) := by
    unfold Rd.text
    rw [e0]
    simp
  have e3 : Rd.num ⟨0, []⟩ = (0, ⟨10, []⟩) := by
    unfold Rd.num
    rw [raw_none]
    rfl
  have e4 : Rd.text ⟨10, []⟩ = ([], ⟨10, []⟩) := by
    unfold Rd.text
    rw [raw_err (by decide)]
    rfl
  unfold firstL
  rw [e1]
  dsimp only
  rw [e2]
  dsimp only
  rw [e3]
  dsimp only
  rw [e4, if_neg (by simp [sumC_nil]), if_pos (.inl (by decide))]
end Go.Proofs.YtgglheelhbfgiaaGreatDoor

namespace Go.Proofs.YtgglheelhbfgiaaGreatDoor
open Go Go.RowKit
abbrev Ends := List (ByteArray × Int)
def mkB (l : List UInt8) : ByteArray := ⟨l.toArray⟩
def nameS (k : Nat) : ByteArray := mkB ([115, 101, 103, 45] ++ Lib.decDigits k)
def endOf (ends : Ends) (p : ByteArray) : Int := (findK ends p).getD 0
/-- The records that are there, and how many bytes of each file they have. -/
def scanG (now : Fls) : Nat → List ByteArray → Ends → List ByteArray × Ends
  | 0, out, ends => (out, ends)
  | f + 1, out, ends =>
    match firstL ((hasD now (nameS (out.length / 8))).data.toList.drop (endOf ends (nameS (out.length / 8))).toNat) out.length with
    | none => (out, ends)
    | some (s, n) => scanG now f (out ++ [mkB s]) (putK ends (nameS (out.length / 8)) (endOf ends (nameS (out.length / 8)) + n))
def cutsD (ends : Ends) : List ByteArray → Dk → Dk × Int
  | [], d => (d, 0)
  | p :: r, d => if endOf ends p < (hasD d.now p).size then (if (cutD d p (endOf ends p)).2 ≠ 0 then cutD d p (endOf ends p) else cutsD ends r (cutD d p (endOf ends p)).1) else cutsD ends r d
structure Lg where
  many : Nat
  fin : Int
  dead : Bool
structure OpenR where
  log : Option Lg
  out : List ByteArray
  err : Int
  d : Dk
def openD (d : Dk) : OpenR :=
  if d.dead = true then ⟨none, [], 42, d⟩
  else if (cutsD (scanG d.now 800 [] []).2 (namesD d) d).2 ≠ 0 then ⟨none, [], (cutsD (scanG d.now 800 [] []).2 (namesD d) d).2, (cutsD (scanG d.now 800 [] []).2 (namesD d) d).1⟩
  else if (syncD (cutsD (scanG d.now 800 [] []).2 (namesD d) d).1).2 ≠ 0 then ⟨none, [], (syncD (cutsD (scanG d.now 800 [] []).2 (namesD d) d).1).2, (syncD (cutsD (scanG d.now 800 [] []).2 (namesD d) d).1).1⟩
  else ⟨some ⟨(scanG d.now 800 [] []).1.length, endOf (scanG d.now 800 [] []).2 (nameS ((scanG d.now 800 [] []).1.length / 8)), false⟩, (scanG d.now 800 [] []).1, 0, (syncD (cutsD (scanG d.now 800 [] []).2 (namesD d) d).1).1⟩
def frameB (n : Nat) (s : ByteArray) : ByteArray := mkB (frameL n s.data.toList)
/-- Writes records behind the others: the disk, where it ends, what went wrong. -/
def layG (many : Nat) : Nat → Int → List ByteArray → Dk → Dk × Int × Int
  | _, at_, [], d => (d, at_, 0)
  | i, at_, s :: r, d =>
    if (writeD d (nameS ((many + i) / 8)) (if (many + i) % 8 = 0 then 0 else at_) (frameB (many + i) s)).2 ≠ 0 then ((writeD d (nameS ((many + i) / 8)) (if (many + i) % 8 = 0 then 0 else at_) (frameB (many + i) s)).1, 0, (writeD d (nameS ((many + i) / 8)) (if (many + i) % 8 = 0 then 0 else at_) (frameB (many + i) s)).2)
    else layG many (i + 1) ((if (many + i) % 8 = 0 then 0 else at_) + (frameB (many + i) s).size) r (writeD d (nameS ((many + i) / 8)) (if (many + i) % 8 = 0 then 0 else at_) (frameB (many + i) s)).1
def layD (l : Lg) (rs : List ByteArray) (d : Dk) : Dk × Int × Int :=
  if (layG l.many 0 l.fin rs d).2.2 ≠ 0 then layG l.many 0 l.fin rs d
  else ((syncD (layG l.many 0 l.fin rs d).1).1, (layG l.many 0 l.fin rs d).2.1, (syncD (layG l.many 0 l.fin rs d).1).2)
def rightR (s : ByteArray) : Bool := decide (1 ≤ s.size) && decide (s.size ≤ 2000)
def appendD (l : Lg) (rs : List ByteArray) (d : Dk) : Lg × Dk × Int :=
  if l.dead = true then (l, d, 42)
  else if rs.all rightR = false then (l, d, 1)
  else if 800 < l.many + rs.length then (l, d, 40)
  else if rs.length = 0 then (l, d, 0)
  else if (layD l rs d).2.2 ≠ 0 then ({ l with dead := true }, (layD l rs d).1, (layD l rs d).2.2)
  else ({ l with many := l.many + rs.length, fin := (layD l rs d).2.1 }, (layD l rs d).1, 0)
end Go.Proofs.YtgglheelhbfgiaaGreatDoor

namespace Go.Proofs.YtgglheelhbfgiaaGreatDoor
open Go Go.RowKit
instance memDec (x : ByteArray) (xs : List ByteArray) : Decidable (x ∈ xs) := decidable_of_iff (Lib.containsS xs x = true) (Lib.containsS_iff xs x)
structure StO where
  ops : List Opr
  pcs : List ByteArray
def noSt : StO := ⟨[], []⟩
def rightP (p : ByteArray) : Bool := decide (1 ≤ p.size) && decide (p.size ≤ 256)
def putP (pcs : List ByteArray) (p : ByteArray) : List ByteArray := if p ∈ pcs then pcs else pcs ++ [p]
def restB (r : ByteArray) : ByteArray := r.extract 1 r.size
def headN (r : ByteArray) : Nat := (r.data.toList.headD 0).toNat
/-- What a record adds. -/
def replayS (s : StO) (r : ByteArray) : StO × Bool :=
  if headN r = 111 then
    (if (decO (restB r).data.toList).2 = 0 then (if (addO s.ops (decO (restB r).data.toList).1).2 = 0 then ({ s with ops := (addO s.ops (decO (restB r).data.toList).1).1 }, true) else (s, false)) else (s, false))
  else if headN r = 112 then ({ s with pcs := putP s.pcs (restB r) }, rightP (restB r))
  else (s, false)
def replaysS : StO → List ByteArray → Option StO
  | s, [] => some s
  | s, r :: rs => if (replayS s r).2 = true then replaysS (replayS s r).1 rs else none
/-- A state with more, and the records of that. -/
def growP : List ByteArray → List ByteArray → List ByteArray → Option (List ByteArray × List ByteArray)
  | pcs, rec, [] => some (pcs, rec)
  | pcs, rec, p :: ps => if rightP p = false then none else if p ∈ pcs then growP pcs rec ps else growP (pcs ++ [p]) (rec ++ [⟨#[112]⟩ ++ p]) ps
def growO : List Opr → List ByteArray → List Opr → (List Opr × List ByteArray) × Int
  | l, rec, [] => ((l, rec), 0)
  | l, rec, x :: xs =>
    if (addO l x).2 ≠ 0 then (([], []), (addO l x).2)
    else if (addO l x).1.length = l.length then growO (addO l x).1 rec xs
    else if rightO x ≠ 0 then (([], []), rightO x)
    else growO (addO l x).1 (rec ++ [⟨#[111]⟩ ++ encB x]) xs
def grownS (s : StO) (ps : List ByteArray) (xs : List Opr) : (StO × List ByteArray) × Int :=
  match growP s.pcs [] ps with
  | none => ((noSt, []), 1)
  | some (pcs, rec) => if (growO s.ops rec xs).2 ≠ 0 then ((noSt, []), (growO s.ops rec xs).2) else ((⟨(growO s.ops rec xs).1.1, pcs⟩, (growO s.ops rec xs).1.2), 0)
structure Ol where
  st : StO
  log : Lg
  dead : Bool
structure OpenO where
  ol : Option Ol
  err : Int
  d : Dk
def openO (d : Dk) : OpenO :=
  match (openD d).log with
  | none => ⟨none, (openD d).err, (openD d).d⟩
  | some l => match replaysS noSt (openD d).out with
    | none => ⟨none, 43, (openD d).d⟩
    | some s => ⟨some ⟨s, l, false⟩, 0, (openD d).d⟩
def addS (o : Ol) (ps : List ByteArray) (xs : List Opr) (d : Dk) : Ol × Dk × Int :=
  if o.dead = true then (o, d, 42)
  else if (grownS o.st ps xs).2 ≠ 0 then (o, d, (grownS o.st ps xs).2)
  else if (appendD o.log (grownS o.st ps xs).1.2 d).2.2 = 0 then (⟨(grownS o.st ps xs).1.1, (appendD o.log (grownS o.st ps xs).1.2 d).1, o.dead⟩, (appendD o.log (grownS o.st ps xs).1.2 d).2.1, 0)
  else (⟨o.st, (appendD o.log (grownS o.st ps xs).1.2 d).1, decide ((appendD o.log (grownS o.st ps xs).1.2 d).2.2 = 42 ∨ (appendD o.log (grownS o.st ps xs).1.2 d).2.2 = 41)⟩, (appendD o.log (grownS o.st ps xs).1.2 d).2.1, (appendD o.log (grownS o.st ps xs).1.2 d).2.2)
/-- A device's next stamp: its count, or what is wrong; and its number. -/
def lastO (l : List Opr) : Int := l.foldl (fun m x => max m x.cnt) 0
def nextO (l : List Opr) (who : Int) : (Int × Int × Int) × Int :=
  if who < 0 ∨ 15 ≤ who then ((0, 0, 0), 1)
  else if 1099511627776 ≤ lastO l then ((0, 0, 0), 21)
  else ((lastO l + 1, who, 1 + (l.filter fun x => decide (x.who = who)).length), 0)
end Go.Proofs.YtgglheelhbfgiaaGreatDoor

