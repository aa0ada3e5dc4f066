/-
  Which rules may be: glob's right and the reference's.
-/
import Derived.Test.YtgjgeojhhglidaaDoorPathW1
import Derived.Test.YtgjgeojhhglidaaDoorCells
import Derived.Test.YtgjgeojhhglidaaDoorGlobW1
import Derived.BigQuiet
namespace Go.Proofs.YtgjgeojhhglidaaDoor
open Go Go.RowKit Go.Lib

set_option maxRecDepth 100000 in
set_option maxHeartbeats 800000 in
theorem rpath_any (s : ByteArray) (w : World) (hs : s.size ≤ 100000) : Calls Tryd.prog 39 #[.string s] w fun e w' => e = .returned (.bool (pathG s.data.toList)) ∧ Below w.heap.size w w' := by
  have HS := Lib.hid (rsplit_any s 47 w hs)
  rw [splitG_L] at HS
  have HP := Lib.hid (show pathG s.data.toList = (decide ((splitL 47 s.data.toList).length ≤ 16) && !((splitL 47 s.data.toList).map ba).any wrongP) from rfl)
  have hsz : ∀ x ∈ (splitL 47 s.data.toList).map ba, x.size ≤ 100000 := fun x hx => by
    obtain ⟨p, hp, rfl⟩ := List.mem_map.1 hx
    have := splitL_size p hp
    rw [size_eq, ba_data]
    rw [size_eq] at hs
    omega
  have hll : (splitL 47 s.data.toList).length = ((splitL 47 s.data.toList).map ba).length := (List.length_map _).symm
  rw [hll] at HP
  clear hll
  generalize pathG s.data.toList = q at *
  generalize (splitL 47 s.data.toList).map ba = l at *
  by_cases h16 : 16 < l.length
  · go_enter Tryd.func39, Tryd.ntmps39
    go_wp2_with fail
    refine HS.out.mono ?_
    rintro e w1 ⟨v, rfl, ho, hb1⟩
    obtain ⟨a, c, rfl, hr, _⟩ := ho.read
    go_wp2_with fail
    go_ret
    exact ⟨ret_bool (by rw [HP.out]; simp; omega), hb1⟩
  · have hn16 : decide (16 < l.length) = false := decide_eq_false h16
    have hn17 : decide ((16 : Int) < (l.length : Int)) = false := decide_eq_false (by omega)
    go_enter Tryd.func39, Tryd.ntmps39
    go_wp2_with fail
    refine HS.out.mono ?_
    rintro e w1 ⟨v, rfl, ho, hb1⟩
    obtain ⟨a, c, rfl, hr, _⟩ := ho.read
    have HA := Lib.hid hr
    clear hr ho
    go_wp2_with fail
    go_loop [4] (fun i => ∃ k : Nat, k ≤ l.length ∧ i = .int .i64 k ∧ Hid (∀ j y, j < k → l[j]? = some y → wrongP y = false)) (fun i => l.length - (RowKit.intOf i).toNat)
    case atStart => exact ⟨0, Nat.zero_le _, rfl, Lib.hid (fun j _ hj => absurd hj (Nat.not_lt_zero _))⟩
    case round =>
      obtain ⟨k, hk, rfl, Hk⟩ := hrel
      by_cases hlt : k < l.length
      · obtain ⟨x, hx⟩ := at_some hlt
        obtain ⟨b, off, rfl, hbl, c0⟩ := str_at HA.out hx
        have HR := Lib.hid fun W => rright_any x W (by have := hsz x (List.mem_of_getElem? hx); omega)
        have HW := Lib.hid (wrong_eq x)
        have Hx := Lib.hid hx
        clear hx
        generalize rightN x.data.toList = r at *
        obtain ⟨v, hv⟩ : ∃ v, wrongP x = v := ⟨_, rfl⟩
        rw [hv] at HW
        have Hv := Lib.hid hv
        have d1 := HW.out
        clear hv HW
        cases v with
        | true =>
          have Hr := Lib.hid (anyP_hit Hx.out Hv.out)
          go_wp2_with fail
          refine (HR.out _).mono ?_
          rintro e w1 ⟨rfl, rfl⟩
          go_wp2_with fail
          go_ret
          exact ⟨ret_bool (by rw [HP.out, Hr.out]; simp), hb1⟩
        | false =>
          go_wp2_with fail
          refine (HR.out _).mono ?_
          rintro e w1 ⟨rfl, rfl⟩
          go_wp2_with fail
          go_round
          case rel =>
            refine ⟨k + 1, by omega, by go_num, Lib.hid (fun j y hj hy => ?_)⟩
            by_cases e : j = k
            · subst e
              rw [Hx.out] at hy
              cases hy
              exact Hv.out
            · exact Hk.out j y (by omega) hy
          case measure => simp [RowKit.intOf]; omega
      · have Hr := Lib.hid (anyP_miss (l := l) (fun j y hj => Hk.out j y (by omega)))
        go_wp2_with fail
        go_ret
        exact ⟨ret_bool (by rw [HP.out, Hr.out]; simp; omega), hb1⟩

/-- May a text be a Type's? -/
def endB (t : List UInt8) : Bool := !t.isEmpty && decide (t.length ≤ 7) && rightL ([120, 46] ++ t) && (extL ([120, 46] ++ t) == t)
def ruleG (x : Rul) : Bool := if x.kind = 1 ∨ x.kind = 2 then decide (x.text = ⟨#[46]⟩) || pathG x.text.data.toList else if x.kind = 3 then endB x.text.data.toList else false
theorem endB_empty : endB [] = false := rfl
theorem endB_long {t : List UInt8} (h : 7 < t.length) : endB t = false := by
  unfold endB
  rw [decide_eq_false (by omega)]
  simp
theorem endB_in {t : List UInt8} (h1 : t ≠ []) (h2 : t.length ≤ 7) : endB t = (rightL ([120, 46] ++ t) && (extL ([120, 46] ++ t) == t)) := by
  unfold endB
  rw [decide_eq_true h2]
  cases t with
  | nil => exact absurd rfl h1
  | cons b t => simp
theorem x_data (s : ByteArray) : (⟨#[120, 46]⟩ ++ s : ByteArray).data.toList = [120, 46] ++ s.data.toList := by
  rw [ByteArray.data_append, Array.toList_append]
theorem x_size (s : ByteArray) : (⟨#[120, 46]⟩ ++ s : ByteArray).size = 2 + s.size := by rw [ByteArray.size_append]; rfl
theorem ne_list {s : ByteArray} (h : s ≠ ⟨#[]⟩) : s.data.toList ≠ [] := fun e => h (by
  rw [← ba_back s, e]
  rfl)
theorem ba_iff {l : List UInt8} {s : ByteArray} : (l == s.data.toList) = decide (ba l = s) := by
  by_cases h : ba l = s
  · subst h
    rw [ba_data]
    simp
  · rw [decide_eq_false h, beq_eq_false_iff_ne]
    exact fun e => h (by rw [e, ba_back])
theorem ruleG_path {k : Int} {s : ByteArray} (h : k = 1 ∨ k = 2) : ruleG ⟨k, s⟩ = (decide (s = ⟨#[46]⟩) || pathG s.data.toList) := if_pos h
theorem ruleG_end {s : ByteArray} : ruleG ⟨3, s⟩ = endB s.data.toList := by unfold ruleG; rw [if_neg (by show ¬ ((3 : Int) = 1 ∨ (3 : Int) = 2); omega), if_pos rfl]
theorem ruleG_no {k : Int} {s : ByteArray} (h : ¬ (k = 1 ∨ k = 2)) (h3 : ¬ k = 3) : ruleG ⟨k, s⟩ = false := by unfold ruleG; rw [if_neg h, if_neg h3]
end Go.Proofs.YtgjgeojhhglidaaDoor
