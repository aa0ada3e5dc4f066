import Derived.Test.YtopoheggngclaaaDoorNamesW6
import Derived.Test.YtopoheggngclaaaDoorUniquePure
import Derived.Test.YtopoheggngclaaaDoorSlices
namespace Go.Proofs.YtopoheggngclaaaDoor
open Go.RowKit Go.Lib

theorem str_ne {a b : ByteArray} (h : a ≠ b) : (a.toList == b.toList) = false := by
  rw [toList_data, toList_data, beq_eq_false_iff_ne]
  exact fun e => h (by obtain ⟨⟨x⟩⟩ := a; obtain ⟨⟨y⟩⟩ := b; simpa using e)
theorem str_eq {a b : ByteArray} (h : a = b) : (a.toList == b.toList) = true := by rw [h]; exact beq_self_eq_true _

theorem hasB_hit {ss : List ByteArray} {s : ByteArray} {k : Nat} (hk : k < ss.length) (h : ss.getD k ByteArray.empty = s) : hasB ss s = true := by
  rw [hasB_iff, ← h, List.getD_eq_getElem?_getD, List.getElem?_eq_getElem hk]
  exact List.getElem_mem hk
theorem hasB_miss {ss : List ByteArray} {s : ByteArray} (h : ∀ k, k < ss.length → ss.getD k ByteArray.empty ≠ s) : hasB ss s = false := by
  rw [← Bool.not_eq_true, hasB_iff]
  intro hm
  obtain ⟨k, hk, e⟩ := List.getElem_of_mem hm
  exact h k hk (by rw [List.getD_eq_getElem?_getD, List.getElem?_eq_getElem hk]; exact e)
theorem ret_bool {a b : Bool} (h : a = b) : Ending.returned (.bool a) = .returned (.bool b) := by rw [h]

set_option maxRecDepth 100000 in
set_option maxHeartbeats 800000 in
theorem has_any (a : Option Addr) (cap : Nat) (ss : List ByteArray) (s : ByteArray) (w : World) (hl : ss.length ≤ 140737488351232) (ha : StrsAt w a ss) :
    Calls Tryd.prog 34 #[.slice a ss.length cap, .string s] w fun e w' => e = .returned (.bool (hasB ss s)) ∧ w = w' := by
  have HA := Lib.hid ha
  clear ha
  go_enter Tryd.func34, Tryd.ntmps34
  go_wp2
  go_loop [5] (fun i => ∃ k : Nat, k ≤ ss.length ∧ i = .int .i64 k ∧ Hid (∀ j, j < k → ss.getD j ByteArray.empty ≠ s)) (fun i => ss.length - (RowKit.intOf i).toNat)
  case atStart => exact ⟨0, Nat.zero_le _, rfl, fun j hj => absurd hj (Nat.not_lt_zero _)⟩
  case round =>
    obtain ⟨k, hk, rfl, Hk⟩ := hrel
    by_cases hlt : k < ss.length
    · obtain ⟨b, off, rfl, hbl, hc⟩ := HA.out k hlt
      generalize hx : ss.getD k ByteArray.empty = x at hc
      have Hx := Lib.hid hx
      clear hx
      by_cases he : x = s
      · have Hr := Lib.hid (hasB_hit hlt (Hx.out.trans he))
        have hb := str_eq he
        clear he
        go_wp2
        go_ret
        exact ⟨ret_bool Hr.out.symm, rfl⟩
      · have Hn := Lib.hid he
        have hb := str_ne he
        clear he
        go_wp2
        go_round
        case rel =>
          refine ⟨k + 1, by omega, by go_num, fun j hj => ?_⟩
          by_cases e : j = k
          · subst e; rw [Hx.out]; exact Hn.out
          · exact Hk.out j (by omega)
        case measure => simp [RowKit.intOf]; omega
    · have Hr := Lib.hid (hasB_miss (ss := ss) (s := s) (fun j hj => Hk.out j (by omega)))
      go_wp2
      go_ret
      exact ⟨ret_bool Hr.out.symm, rfl⟩
end Go.Proofs.YtopoheggngclaaaDoor
