/-
  Which rules have a path: the plain law.
-/
import Derived.Test.YteeaaphpahnjcaaGreatDoorLayPure
import Derived.Test.YteeaaphpahnjcaaGreatDoorUnder
import Derived.Test.YteeaaphpahnjcaaGreatDoorNamesPure
namespace Go.Proofs.YteeaaphpahnjcaaGreatDoor
open Go Go.RowKit Go.Lib

structure Rul where
  kind : Int
  text : ByteArray
def Rul.cells (x : Rul) : List Value := [.int .i64 x.kind, .string x.text]
def rulLay : Lay Rul := { sz := 2, cells := Rul.cells, len := fun _ => rfl, one := fun x v hv => by simp only [Rul.cells, List.mem_cons, List.mem_nil_iff, or_false] at hv; rcases hv with rfl | rfl <;> rfl }
theorem rul_at {w : World} {a : Option Addr} {xs : List Rul} (h : RowsAt rulLay w a xs) {k : Nat} {x : Rul} (hk : xs[k]? = some x) : ∃ b off, a = some ⟨b, off, none⟩ ∧ b < w.heap.size ∧
    w.cell? ⟨b, off + k * 2, none⟩ = some (.int .i64 x.kind) ∧ w.cell? ⟨b, off + k * 2 + 1, none⟩ = some (.string x.text) := by
  obtain ⟨b, off, e, hlt, hc⟩ := h k x hk
  exact ⟨b, off, e, hlt, hc 0 _ rfl, hc 1 _ rfl⟩
def noRul : Rul := ⟨0, ⟨#[]⟩⟩
/-- Is a path another one, or below it? -/
def withinG (p d : ByteArray) : Bool := decide (d = ⟨#[46]⟩) || decide (p = d) || underB p d
def longG (s : ByteArray) : Int := if s = ⟨#[46]⟩ then -1 else s.size
/-- Does a rule speak of a path? -/
def saysG (p : ByteArray) (x : Rul) : Bool := (x.kind == 1 || x.kind == 2) && withinG p x.text
def betterG (b : Option Rul) (x : Rul) : Bool := match b with
  | none => true
  | some y => decide (longG y.text < longG x.text) || (longG x.text == longG y.text && x.kind == 2)
def bestG (p : ByteArray) (l : List Rul) : Nat → Option Rul
  | 0 => none
  | k + 1 => match l[k]? with
    | some x => if saysG p x && betterG (bestG p l k) x then some x else bestG p l k
    | none => bestG p l k
theorem bestG_step {p : ByteArray} {l : List Rul} {k : Nat} {x : Rul} (h : l[k]? = some x) : bestG p l (k + 1) = if saysG p x && betterG (bestG p l k) x then some x else bestG p l k := by simp only [bestG, h]
theorem bestG_says (p : ByteArray) (l : List Rul) : ∀ k y, bestG p l k = some y → (y.kind = 1 ∨ y.kind = 2) ∧ y ∈ l
  | 0, y, h => by cases h
  | k + 1, y, h => by
    unfold bestG at h
    split at h
    · rename_i x hx
      split at h
      · rename_i hb
        cases h
        simp only [saysG, Bool.and_eq_true, Bool.or_eq_true, beq_iff_eq] at hb
        exact ⟨hb.1.1, List.mem_of_getElem? hx⟩
      · exact bestG_says p l k y h
    · exact bestG_says p l k y h
def baseL (l : List UInt8) : List UInt8 := l.drop (Lib.lastIndexByte ⟨l.toArray⟩ 47 + 1).toNat
/-- A path's last part's ending. -/
def endG (p : ByteArray) : ByteArray := ⟨(extL (p.extract (Lib.lastIndexByte p 47 + 1).toNat p.size).data.toList).toArray⟩
def matchG (l : List Rul) (p : ByteArray) (dir : Bool) : Bool :=
  match bestG p l l.length with
  | none => false
  | some y => y.kind == 1 && (dir || !l.any (fun x => x.kind == 3) || l.any fun x => x.kind == 3 && decide (x.text = endG p))
end Go.Proofs.YteeaaphpahnjcaaGreatDoor
