/-
  Slices of bytes of the call's own.
-/
import Derived.Test.YtgglheelhbfgiaaGreatDoorAppends
import Derived.Test.YtgglheelhbfgiaaGreatDoorKeys
import Derived.Laws.BytesArg
namespace Go.Proofs.YtgglheelhbfgiaaGreatDoor
open Go Go.RowKit Go.Lib

def byteLay : Lay UInt8 := { sz := 1, cells := fun b => [.int .u8 b.toNat], len := fun _ => rfl, one := fun x v hv => by simp only [List.mem_cons, List.mem_nil_iff, or_false] at hv; rw [hv]; rfl }
theorem byte_at {w : World} {a : Option Addr} {xs : List UInt8} (h : RowsAt byteLay w a xs) {k : Nat} {x : UInt8} (hk : xs[k]? = some x) : ∃ b off, a = some ⟨b, off, none⟩ ∧ b < w.heap.size ∧ w.cell? ⟨b, off + k, none⟩ = some (.int .u8 x.toNat) := by
  obtain ⟨b, off, e, hlt, hc⟩ := h k x hk
  have := hc 0 _ rfl
  refine ⟨b, off, e, hlt, ?_⟩
  simpa [byteLay] using this
theorem byteInfo : (Tryz.prog.info? 5).map (fun i => (i.zero, i.size, i.bytes)) = some (some (.int .u8 0), 1, 1) := by kernel_rfl
theorem conv_bytes {w : World} {a : Option Addr} {xs : List UInt8} (h : RowsAt byteLay w a xs) (cap : Nat) : Sem.run Tryz.prog (convert 156 9 (.slice a xs.length cap)) w = .ok (.string ⟨xs.toArray⟩) w := by
  cases xs with
  | nil =>
    cases a with
    | none => exact run_convert_bytes_nil w 156 5 Tryz.underlying156 Tryz.underlying5 _ _ 9 Tryz.underlying9
    | some a =>
      rw [run_convert_bytes_string w 156 9 5 _ _ cap Tryz.underlying156 Tryz.underlying5 Tryz.underlying9]
      change Sem.run _ (Conv.bytesToString (Value.slice (some a) 0 cap)) w = _
      rw [run_bytesToString w a 0 cap [] (by simpa using run_loadCells_list (P := Tryz.prog) w a [] (fun j v hj => by simp at hj))]
      rfl
  | cons x xs =>
    obtain ⟨b, off, rfl, _, _⟩ := byte_at h (k := 0) rfl
    rw [run_convert_bytes_arg (P := Tryz.prog) w 156 5 Tryz.underlying156 Tryz.underlying5 b off (x :: xs).length cap ((x :: xs).map fun b => (b.toNat : Int)) (by simp)
      (fun i hi => by
        obtain ⟨_, _, e, _, hc⟩ := byte_at h (List.getElem?_eq_getElem hi)
        cases e
        rw [hc, List.getD_eq_getElem?_getD, List.getElem?_map, List.getElem?_eq_getElem hi]
        rfl) 9 Tryz.underlying9]
    congr 2
    apply ba_ext
    rw [strOfNums_data, List.map_map]
    conv => rhs; rw [← List.map_id (x :: xs)]
    apply List.map_congr_left
    intro y _
    simp
end Go.Proofs.YtgglheelhbfgiaaGreatDoor
