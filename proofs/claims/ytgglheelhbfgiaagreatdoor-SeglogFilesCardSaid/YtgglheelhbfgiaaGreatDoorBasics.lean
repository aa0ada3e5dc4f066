/-
  Small facts for walks. Of no program.
-/
import Derived.Test.YtgglheelhbfgiaaGreatDoorMaps
import Derived.Test.YtgglheelhbfgiaaGreatDoorSlices
import Derived.Lib.Strings
import Derived.WalkSmall
namespace Go.Proofs.YtgglheelhbfgiaaGreatDoor
open Go Go.RowKit Go.Lib

theorem ret_bool {a b : Bool} (h : a = b) : Ending.returned (.bool a) = .returned (.bool b) := by rw [h]
theorem ret_int {k : IntKind} {a b : Int} (h : a = b) : Ending.returned (.int k a) = .returned (.int k b) := by rw [h]
theorem ret_str {a b : ByteArray} (h : a = b) : Ending.returned (.string a) = .returned (.string b) := by rw [h]
theorem ret_pair {a b : Int × ByteArray} (h : a = b) : Ending.returned (.tuple #[.int .i64 a.1, .string a.2]) = .returned (.tuple #[.int .i64 b.1, .string b.2]) := by rw [h]
theorem str_ne {a b : ByteArray} (h : a ≠ b) : (a.toList == b.toList) = false := by
  rw [toList_data, toList_data, beq_eq_false_iff_ne]
  exact fun e => h (by obtain ⟨⟨x⟩⟩ := a; obtain ⟨⟨y⟩⟩ := b; simpa using e)
theorem str_eq {a b : ByteArray} (h : a = b) : (a.toList == b.toList) = true := by rw [h]; exact beq_self_eq_true _
theorem Drawn.refl (w : World) : ∃ n, w = w.drewN n := ⟨0, by rw [World.drewN_zero]⟩
theorem at_some {α : Type} {l : List α} {k : Nat} (h : k < l.length) : ∃ x, l[k]? = some x := ⟨_, List.getElem?_eq_getElem h⟩
theorem drop_at {α : Type} {l : List α} {k : Nat} {x : α} (h : l[k]? = some x) : l.drop k = x :: l.drop (k + 1) := by
  obtain ⟨hk, e⟩ := List.getElem?_eq_some_iff.1 h
  rw [List.drop_eq_getElem_cons hk, e]
theorem empty_ne {s : ByteArray} (h : s ≠ ⟨#[]⟩) : s.toList.isEmpty = false := by
  rw [toList_data]
  obtain ⟨⟨l⟩⟩ := s
  cases l with
  | nil => exact absurd rfl h
  | cons a l => rfl
theorem byte_of {c : UInt8} {n : Nat} (h : (c.toNat : Int) = n) : c = UInt8.ofNat n := by
  have : c.toNat = n := by omega
  rw [← this, UInt8.ofNat_toNat]
end Go.Proofs.YtgglheelhbfgiaaGreatDoor
