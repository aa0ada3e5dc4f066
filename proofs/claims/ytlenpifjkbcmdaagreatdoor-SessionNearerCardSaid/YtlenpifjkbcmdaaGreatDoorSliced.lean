/-
  's[k:]' of a slice that is only read. Of no program.
-/
import Derived.Test.YtlenpifjkbcmdaaGreatDoorStructs
namespace Go.Proofs.YtlenpifjkbcmdaaGreatDoor
open Go Go.RowKit
def lowA (a : Option Addr) (k c sz : Nat) : Option Addr := if c = k then a else a.map (·.add (k * sz))
theorem lowA_nil {a : Option Addr} {k c sz : Nat} (h : a = none → c = 0) : lowA a k c sz = none → c - k = 0 := by
  unfold lowA
  split
  · omega
  · intro h2
    cases a with
    | none => rw [h rfl]; simp
    | some a => cases h2
theorem rows_low {α : Type} {L : Lay α} {w : World} {a : Option Addr} {xs : List α} {c : Nat} (h : RowsAt L w a xs) (hc : xs.length ≤ c) (k : Nat) : RowsAt L w (lowA a k c L.sz) (xs.drop k) := by
  unfold lowA
  split
  · have : xs.drop k = [] := List.drop_eq_nil_of_le (by omega)
    rw [this]
    exact RowsAt.nil _ _ _
  · intro j x hj
    rw [List.getElem?_drop] at hj
    obtain ⟨b, off, e, _⟩ := h _ _ hj
    subst e
    have := h.drop k j x (by rw [List.getElem?_drop]; exact hj)
    have e2 : (⟨b, off, none⟩ : Addr).add (k * L.sz) = ⟨b, off + k * L.sz, none⟩ := by
      unfold Addr.add
      split
      · simp only [Addr.mk.injEq, true_and, and_true]; omega
      · rfl
    rw [Option.map_some, e2]
    exact this
section
variable {P : Program} {t e : TypeId} {sz : Nat} (ht : P.underlying t = some (.slice e)) (hs : ∀ w, (sizeOf e).run P w = .ok sz w)
include ht hs
theorem slice_low (a : Option Addr) (n c k : Nat) (h : k ≤ n) (W : World) : (Instr.slice t (.slice a n c) (some (.int .i64 k)) none none).run P W = .ok (.slice (lowA a k c sz) (n - k) (c - k)) W := by
  have he : P.elem t = e := by unfold Program.elem; rw [ht]
  have ht' : P.underlying t = some (.slice (P.elem t)) := by rw [he]; exact ht
  rw [run_slice_l W t a n c ht' .i64 k (by omega) (by omega), he, hs]
  simp [sliced, lowA, Result.andThen]
theorem slice_high (a : Option Addr) (n c k : Nat) (h : k ≤ c) (W : World) : (Instr.slice t (.slice a n c) none (some (.int .i64 k)) none).run P W = .ok (.slice a k c) W := by
  have he : P.elem t = e := by unfold Program.elem; rw [ht]
  have ht' : P.underlying t = some (.slice (P.elem t)) := by rw [he]; exact ht
  rw [run_slice_h W t a n c ht' .i64 k (by omega) (by omega), he, hs]
  simp only [sliced, Result.andThen, Int.toNat_natCast, Nat.zero_mul, Nat.sub_zero]
  split
  · rfl
  · cases a with
    | none => rfl
    | some a => simp [Addr.add]
end
end Go.Proofs.YtlenpifjkbcmdaaGreatDoor
