/-
  Entries and acts, as they lie in memory. Of no program.
-/
import Derived.Test.YtgglheelhbfgiaaGreatDoorStructs
namespace Go.Proofs.YtgglheelhbfgiaaGreatDoor
open Go Go.RowKit

structure Ent where
  path : ByteArray
  id : Int
  dir : Bool
  data : ByteArray
def Ent.cells (x : Ent) : List Value := [.string x.path, .int .i64 x.id, .bool x.dir, .string x.data]
def Ent.val (x : Ent) : Value := .agg #[.string x.path, .int .i64 x.id, .bool x.dir, .string x.data]
def entLay : Lay Ent := { sz := 4, cells := Ent.cells, len := fun _ => rfl, one := fun x v hv => by simp only [Ent.cells, List.mem_cons, List.mem_nil_iff, or_false] at hv; rcases hv with rfl | rfl | rfl | rfl <;> rfl }
def noEnt : Ent := ⟨⟨#[]⟩, 0, false, ⟨#[]⟩⟩
/-- The four cells of an entry that is read. -/
theorem ent_at {w : World} {a : Option Addr} {xs : List Ent} (h : RowsAt entLay w a xs) {k : Nat} {x : Ent} (hk : xs[k]? = some x) : ∃ b off, a = some ⟨b, off, none⟩ ∧ b < w.heap.size ∧
    w.cell? ⟨b, off + k * 4, none⟩ = some (.string x.path) ∧ w.cell? ⟨b, off + k * 4 + 1, none⟩ = some (.int .i64 x.id) ∧ w.cell? ⟨b, off + k * 4 + 2, none⟩ = some (.bool x.dir) ∧ w.cell? ⟨b, off + k * 4 + 3, none⟩ = some (.string x.data) := by
  obtain ⟨b, off, e, hlt, hc⟩ := h k x hk
  exact ⟨b, off, e, hlt, hc 0 _ rfl, hc 1 _ rfl, hc 2 _ rfl, hc 3 _ rfl⟩

/-- Texts, as they lie in memory. -/
def strLay : Lay ByteArray := { sz := 1, cells := fun s => [.string s], len := fun _ => rfl, one := fun x v hv => by simp only [List.mem_cons, List.mem_nil_iff, or_false] at hv; rw [hv]; rfl }
theorem str_at {w : World} {a : Option Addr} {xs : List ByteArray} (h : RowsAt strLay w a xs) {k : Nat} {x : ByteArray} (hk : xs[k]? = some x) : ∃ b off, a = some ⟨b, off, none⟩ ∧ b < w.heap.size ∧ w.cell? ⟨b, off + k, none⟩ = some (.string x) := by
  obtain ⟨b, off, e, hlt, hc⟩ := h k x hk
  have := hc 0 _ rfl
  refine ⟨b, off, e, hlt, ?_⟩
  simpa [strLay] using this

structure Act3 where
  kind : Int
  path : ByteArray
  data : ByteArray
def Act3.cells (x : Act3) : List Value := [.int .i64 x.kind, .string x.path, .string x.data]
def act3Lay : Lay Act3 := { sz := 3, cells := Act3.cells, len := fun _ => rfl, one := fun x v hv => by simp only [Act3.cells, List.mem_cons, List.mem_nil_iff, or_false] at hv; rcases hv with rfl | rfl | rfl <;> rfl }
theorem act3_at {w : World} {a : Option Addr} {xs : List Act3} (h : RowsAt act3Lay w a xs) {k : Nat} {x : Act3} (hk : xs[k]? = some x) : ∃ b off, a = some ⟨b, off, none⟩ ∧ b < w.heap.size ∧
    w.cell? ⟨b, off + k * 3, none⟩ = some (.int .i64 x.kind) ∧ w.cell? ⟨b, off + k * 3 + 1, none⟩ = some (.string x.path) ∧ w.cell? ⟨b, off + k * 3 + 2, none⟩ = some (.string x.data) := by
  obtain ⟨b, off, e, hlt, hc⟩ := h k x hk
  exact ⟨b, off, e, hlt, hc 0 _ rfl, hc 1 _ rfl, hc 2 _ rfl⟩
theorem Act3.ext' {x y : Act3} (h1 : x.kind = y.kind) (h2 : x.path = y.path) (h3 : x.data = y.data) : x = y := by
  cases x; cases y; simp_all
instance : DecidableEq Act3 := fun x y => decidable_of_iff (x.kind = y.kind ∧ x.path = y.path ∧ x.data = y.data) ⟨fun h => Act3.ext' h.1 h.2.1 h.2.2, fun h => by rw [h]; exact ⟨rfl, rfl, rfl⟩⟩
end Go.Proofs.YtgglheelhbfgiaaGreatDoor
