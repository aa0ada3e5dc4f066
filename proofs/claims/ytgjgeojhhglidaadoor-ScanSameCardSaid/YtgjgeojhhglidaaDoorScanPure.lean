/-
  What was done between what was known and what there is: the plain law.
-/
import Derived.Test.YtgjgeojhhglidaaDoorEntry
import Derived.Lib.Strings
import Derived.Lib.LastIndexByte
namespace Go.Proofs.YtgjgeojhhglidaaDoor
open Go Go.RowKit Go.Lib

structure KEnt where
  id : Int
  path : ByteArray
  dir : Bool
  data : ByteArray
def KEnt.cells (x : KEnt) : List Value := [.int .i64 x.id, .string x.path, .bool x.dir, .string x.data]
def KEnt.val (x : KEnt) : Value := .agg #[.int .i64 x.id, .string x.path, .bool x.dir, .string x.data]
def kLay : Lay KEnt := { sz := 4, cells := KEnt.cells, len := fun _ => rfl, one := fun x v hv => by simp only [KEnt.cells, List.mem_cons, List.mem_nil_iff, or_false] at hv; rcases hv with rfl | rfl | rfl | rfl <;> rfl }
def noK : KEnt := ⟨0, ⟨#[]⟩, false, ⟨#[]⟩⟩
theorem k_at {w : World} {a : Option Addr} {xs : List KEnt} (h : RowsAt kLay w a xs) {k : Nat} {x : KEnt} (hk : xs[k]? = some x) : ∃ b off, a = some ⟨b, off, none⟩ ∧ b < w.heap.size ∧
    w.cell? ⟨b, off + k * 4, none⟩ = some (.int .i64 x.id) ∧ w.cell? ⟨b, off + k * 4 + 1, none⟩ = some (.string x.path) ∧ w.cell? ⟨b, off + k * 4 + 2, none⟩ = some (.bool x.dir) ∧ w.cell? ⟨b, off + k * 4 + 3, none⟩ = some (.string x.data) := by
  obtain ⟨b, off, e, hlt, hc⟩ := h k x hk
  exact ⟨b, off, e, hlt, hc 0 _ rfl, hc 1 _ rfl, hc 2 _ rfl, hc 3 _ rfl⟩
structure Chg where
  kind : Int
  id : Int
  path : ByteArray
  dir : Bool
  data : ByteArray
def Chg.cells (x : Chg) : List Value := [.int .i64 x.kind, .int .i64 x.id, .string x.path, .bool x.dir, .string x.data]
def chLay : Lay Chg := { sz := 5, cells := Chg.cells, len := fun _ => rfl, one := fun x v hv => by simp only [Chg.cells, List.mem_cons, List.mem_nil_iff, or_false] at hv; rcases hv with rfl | rfl | rfl | rfl | rfl <;> rfl }
theorem ch_at {w : World} {a : Option Addr} {xs : List Chg} (h : RowsAt chLay w a xs) {k : Nat} {x : Chg} (hk : xs[k]? = some x) : ∃ b off, a = some ⟨b, off, none⟩ ∧ b < w.heap.size ∧
    w.cell? ⟨b, off + k * 5, none⟩ = some (.int .i64 x.kind) ∧ w.cell? ⟨b, off + k * 5 + 1, none⟩ = some (.int .i64 x.id) ∧ w.cell? ⟨b, off + k * 5 + 2, none⟩ = some (.string x.path) ∧ w.cell? ⟨b, off + k * 5 + 3, none⟩ = some (.bool x.dir) ∧ w.cell? ⟨b, off + k * 5 + 4, none⟩ = some (.string x.data) := by
  obtain ⟨b, off, e, hlt, hc⟩ := h k x hk
  exact ⟨b, off, e, hlt, hc 0 _ rfl, hc 1 _ rfl, hc 2 _ rfl, hc 3 _ rfl, hc 4 _ rfl⟩

def toK (x : Ent) : KEnt := ⟨x.id, x.path, x.dir, x.data⟩
/-- The place of the first entry of a number, as a map keeps it. -/
def firstF (l : List KEnt) (i0 : Nat) : Int → Option Value := fun id => (l.findIdx? fun x => decide (x.id = id)).map fun j => .int .i64 ((i0 + j : Nat) : Int)
def idF (l : List KEnt) : ByteArray → Option Value := fun p => (l.find? fun x => decide (x.path = p)).map fun x => .int .i64 x.id
theorem firstF_cons (x : KEnt) (l : List KEnt) (i : Nat) : firstF (x :: l) i = putAt (firstF l (i + 1)) x.id (.int .i64 (i : Int)) := by
  funext id
  unfold firstF putAt
  by_cases h : x.id = id
  · subst h; simp [List.findIdx?_cons]
  · have h' : ¬ id = x.id := fun e => h e.symm
    simp only [List.findIdx?_cons, h, h', decide_false, if_false, Bool.false_eq_true]
    cases l.findIdx? fun x => decide (x.id = id) with
    | none => rfl
    | some j => simp only [Option.map_some, Option.some.injEq]; congr 2; omega
theorem idF_cons (x : KEnt) (l : List KEnt) : idF (x :: l) = putAt (idF l) x.path (.int .i64 x.id) := by
  funext p
  unfold idF putAt
  by_cases h : x.path = p
  · subst h; simp
  · have h' : ¬ p = x.path := fun e => h e.symm
    simp [h, h']

def getK (l : List KEnt) (id : Int) : Option KEnt := l.find? fun x => decide (x.id = id)
theorem getK_idx {l : List KEnt} {id : Int} {j : Nat} (h : l.findIdx? (fun x => decide (x.id = id)) = some j) : ∃ x, l[j]? = some x ∧ getK l id = some x := by
  rw [List.findIdx?_eq_some_iff_getElem] at h
  obtain ⟨hj, hp, hb⟩ := h
  refine ⟨l[j], List.getElem?_eq_getElem hj, ?_⟩
  unfold getK
  rw [List.find?_eq_some_iff_getElem]
  exact ⟨hp, j, hj, rfl, fun i hi => by simpa using hb i hi⟩
theorem getK_none {l : List KEnt} {id : Int} (h : l.findIdx? (fun x => decide (x.id = id)) = none) : getK l id = none := by
  unfold getK
  rw [List.findIdx?_eq_none_iff] at h
  rw [List.find?_eq_none]
  intro x hx
  simpa using h x hx
def keptK (a b : List KEnt) (id : Int) : Bool := match getK a id, getK b id with
  | some x, some y => x.dir == y.dir
  | _, _ => false
/-- A path's directory and its name: i is the last '/', or -1. -/
def splitAtI (p : ByteArray) (i : Int) : ByteArray × ByteArray := (p.extract 0 (max i 0).toNat, p.extract (i + 1).toNat p.size)
def splitK (p : ByteArray) : ByteArray × ByteArray := splitAtI p (Lib.lastIndexByte p 47)
def seatK (l : List KEnt) (x : KEnt) : Int × ByteArray := if (splitK x.path).1 = ⟨#[]⟩ then (0, (splitK x.path).2) else (((l.find? fun y => decide (y.path = (splitK x.path).1)).map (·.id)).getD 0, (splitK x.path).2)
def chgsK (old now : List KEnt) (x : KEnt) : List Chg :=
  if !keptK old now x.id then [⟨1, x.id, x.path, x.dir, x.data⟩]
  else
    let y := (getK old x.id).getD noK
    (if (seatK old y).1 ≠ (seatK now x).1 ∨ (seatK old y).2 ≠ (seatK now x).2 then [⟨2, x.id, x.path, x.dir, ⟨#[]⟩⟩] else []) ++
    (if !x.dir && decide (x.data ≠ y.data) then [⟨3, x.id, x.path, false, x.data⟩] else [])
def madeK (old now : List KEnt) : Nat → List Chg
  | 0 => []
  | k + 1 => match now[k]? with
    | some x => if (now.findIdx? fun y => decide (y.id = x.id)) = some k then madeK old now k ++ chgsK old now x else madeK old now k
    | none => madeK old now k
/-- Does what stands at a path stay? (Where nothing stands there: yes.) -/
def atK (old now : List KEnt) (d : ByteArray) : Bool := match old.find? fun x => decide (x.path = d) with | some z => keptK old now z.id | none => true
def dropB (old now : List KEnt) (k : Nat) (y : KEnt) : Bool :=
  decide ((old.findIdx? fun x => decide (x.id = y.id)) = some k) && !keptK old now y.id &&
  (decide ((splitK y.path).1 = ⟨#[]⟩) || atK old now (splitK y.path).1)
def diffK (old now : List KEnt) : Nat → List Chg
  | 0 => madeK old now now.length
  | k + 1 => match old[k]? with
    | some y => if dropB old now k y then diffK old now k ++ [⟨4, y.id, y.path, y.dir, ⟨#[]⟩⟩] else diffK old now k
    | none => diffK old now k
def scanK (known : List KEnt) (now : List Ent) : List Chg := diffK known (now.map toK) known.length
end Go.Proofs.YtgjgeojhhglidaaDoor
