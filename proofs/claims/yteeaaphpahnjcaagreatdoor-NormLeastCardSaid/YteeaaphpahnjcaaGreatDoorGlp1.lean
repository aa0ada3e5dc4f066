/-
  Which rules may be: glob's right and the reference's.
-/
import Derived.Test.YteeaaphpahnjcaaGreatDoorPathW1
import Derived.Test.YteeaaphpahnjcaaGreatDoorCells
import Derived.Test.YteeaaphpahnjcaaGreatDoorGlobWG
import Derived.BigQuiet
namespace Go.Proofs.YteeaaphpahnjcaaGreatDoor
open Go Go.RowKit Go.Lib

/-- May a text be a Type's? -/
def endB (t : List UInt8) : Bool := !t.isEmpty && decide (t.length ≤ 7) && rightL ([120, 46] ++ t) && (extL ([120, 46] ++ t) == t)
def ruleG (x : Rul) : Bool := if x.kind = 1 ∨ x.kind = 2 then decide (x.text = ⟨#[46]⟩) || pathG x.text.data.toList else if x.kind = 3 then endB x.text.data.toList else false
theorem endB_empty : endB [] = false := rfl
theorem endB_long {t : List UInt8} (h : 7 < t.length) : endB t = false := by
  unfold endB
  rw [decide_eq_false (by omega)]
  simp
theorem endB_in {t : List UInt8} (h1 : t ≠ []) (h2 : t.length ≤ 7) : endB t = (rightL ([120, 46] ++ t) && (extL ([120, 46] ++ t) == t)) := by
  unfold endB
  rw [decide_eq_true h2]
  cases t with
  | nil => exact absurd rfl h1
  | cons b t => simp
theorem x_data (s : ByteArray) : (⟨#[120, 46]⟩ ++ s : ByteArray).data.toList = [120, 46] ++ s.data.toList := by
  rw [ByteArray.data_append, Array.toList_append]
theorem x_size (s : ByteArray) : (⟨#[120, 46]⟩ ++ s : ByteArray).size = 2 + s.size := by rw [ByteArray.size_append]; rfl
theorem ne_list {s : ByteArray} (h : s ≠ ⟨#[]⟩) : s.data.toList ≠ [] := fun e => h (by
  rw [← ba_back s, e]
  rfl)
theorem ba_iff {l : List UInt8} {s : ByteArray} : (l == s.data.toList) = decide (ba l = s) := by
  by_cases h : ba l = s
  · subst h
    rw [ba_data]
    simp
  · rw [decide_eq_false h, beq_eq_false_iff_ne]
    exact fun e => h (by rw [e, ba_back])
set_option maxRecDepth 100000 in
set_option maxHeartbeats 1600000 in
theorem ending_any (s : ByteArray) (w : World) (hs : s.size ≤ 100000) : Calls Tryz.prog 49 #[.string s] w fun e w' => e = .returned (.bool (endB s.data.toList)) ∧ Below w.heap.size w w' := by
  have hA1 : ¬ ((2 : Int) + (s.size : Int) > 9223372036854775807) := by omega
  have hA2 : 2 + s.size ≤ 9223372036854775807 := by omega
  have hx2 := x_size s
  have HR := Lib.hid fun W => right_any (⟨#[120, 46]⟩ ++ s) W (by omega)
  have HX := Lib.hid fun W => ext_any (⟨#[120, 46]⟩ ++ s) W (by omega)
  rw [x_data] at HR HX
  clear hx2
  by_cases h0 : s = ⟨#[]⟩
  · subst h0
    go_enter Tryz.func49, Tryz.ntmps49
    go_wp2_with fail
    go_ret
    exact ⟨rfl, Below.refl _ _⟩
  have d1 := empty_ne h0
  have d2 : (!s.toList.isEmpty) = true := by rw [d1]; rfl
  by_cases h7 : 7 < s.size
  · have HE := Lib.hid (endB_long (t := s.data.toList) (by rw [← size_eq]; exact h7))
    clear h0
    generalize endB _ = q at *
    go_enter Tryz.func49, Tryz.ntmps49
    go_wp2_with fail
    go_ret
    exact ⟨ret_bool HE.out.symm, Below.refl _ _⟩
  have HE := Lib.hid (endB_in (t := s.data.toList) (ne_list h0) (by rw [← size_eq]; omega))
  rw [ba_iff] at HE
  rw [show (⟨(extL ([120, 46] ++ s.data.toList)).toArray⟩ : ByteArray) = ba (extL ([120, 46] ++ s.data.toList)) from rfl] at HX
  clear h0
  generalize endB _ = q at *
  generalize ba (extL ([120, 46] ++ s.data.toList)) = x at *
  obtain ⟨r, hr⟩ : ∃ r, rightN ([120, 46] ++ s.data.toList) = r := ⟨_, rfl⟩
  rw [hr] at HR
  unfold rightN at hr
  have Hr := Lib.hid hr
  clear hr
  generalize rightL ([120, 46] ++ s.data.toList) = rl at *
  cases rl with
  | false =>
    obtain rfl : r = 23 := Hr.out.symm
    go_enter Tryz.func49, Tryz.ntmps49
    go_wp2_with fail
    refine (HR.out _).mono ?_
    rintro e w1 ⟨rfl, n, rfl⟩
    go_wp2_with fail
    go_ret
    exact ⟨ret_bool (by rw [HE.out]; rfl), belowDrew (Below.refl _ _) n⟩
  | true =>
    obtain rfl : r = 0 := Hr.out.symm
    by_cases hxs : x = s
    · have e1 := str_eq hxs
      have Hq := Lib.hid (show q = true by rw [HE.out, decide_eq_true hxs]; rfl)
      clear hxs
      go_enter Tryz.func49, Tryz.ntmps49
      go_wp2_with fail
      refine (HR.out _).mono ?_
      rintro e w1 ⟨rfl, n, rfl⟩
      go_wp2_with fail
      refine (HX.out _).mono ?_
      rintro e w2 ⟨rfl, rfl⟩
      go_wp2_with fail
      go_ret
      exact ⟨ret_bool Hq.out.symm, belowDrew (Below.refl _ _) n⟩
    · have e1 := str_ne hxs
      have Hq := Lib.hid (show q = false by rw [HE.out, decide_eq_false hxs]; rfl)
      clear hxs
      go_enter Tryz.func49, Tryz.ntmps49
      go_wp2_with fail
      refine (HR.out _).mono ?_
      rintro e w1 ⟨rfl, n, rfl⟩
      go_wp2_with fail
      refine (HX.out _).mono ?_
      rintro e w2 ⟨rfl, rfl⟩
      go_wp2_with fail
      go_ret
      exact ⟨ret_bool Hq.out.symm, belowDrew (Below.refl _ _) n⟩
theorem ruleG_path {k : Int} {s : ByteArray} (h : k = 1 ∨ k = 2) : ruleG ⟨k, s⟩ = (decide (s = ⟨#[46]⟩) || pathG s.data.toList) := if_pos h
theorem ruleG_end {s : ByteArray} : ruleG ⟨3, s⟩ = endB s.data.toList := by unfold ruleG; rw [if_neg (by show ¬ ((3 : Int) = 1 ∨ (3 : Int) = 2); omega), if_pos rfl]
theorem ruleG_no {k : Int} {s : ByteArray} (h : ¬ (k = 1 ∨ k = 2)) (h3 : ¬ k = 3) : ruleG ⟨k, s⟩ = false := by unfold ruleG; rw [if_neg h, if_neg h3]
set_option maxRecDepth 100000 in
set_option maxHeartbeats 1600000 in
theorem gright_any (k : Int) (s : ByteArray) (w : World) (hs : s.size ≤ 100000) (hm : MaxAt w) : Calls Tryz.prog 29 #[.agg #[.int .i64 k, .string s]] w fun e w' => e = .returned (.bool (ruleG ⟨k, s⟩)) ∧ Below w.heap.size w w' := by
  by_cases h12 : k = 1 ∨ k = 2
  · have hbx := (Below.refl w.heap.size w).alloc (Nat.le_refl _) (.cells #[.int .i64 k, .string s] 29)
    have hmx := hm.keeps hbx
    have HP := Lib.hid (path_any s _ (by omega) hmx)
    have HQ := Lib.hid (ruleG_path (s := s) h12)
    generalize pathG s.data.toList = pg at *
    generalize ruleG _ = q at *
    rcases h12 with rfl | rfl
    · by_cases hd : s = ⟨#[46]⟩
      · have Hq := Lib.hid (show q = true by rw [HQ.out, decide_eq_true hd]; rfl)
        subst hd
        go_enter Tryz.func29, Tryz.ntmps29
        go_wp2_with fail
        go_ret
        exact ⟨ret_bool Hq.out.symm, hbx⟩
      · have e1 := dot_ne hd
        have Hq := Lib.hid (show q = pg by rw [HQ.out, decide_eq_false hd]; rfl)
        clear hd
        go_enter Tryz.func29, Tryz.ntmps29
        go_wp2_with fail
        refine HP.out.mono ?_
        rintro e w1 ⟨rfl, hb1⟩
        go_wp2_with fail
        go_ret
        exact ⟨ret_bool Hq.out.symm, hbx.trans (hb1.mono hbx.size)⟩
    · by_cases hd : s = ⟨#[46]⟩
      · have Hq := Lib.hid (show q = true by rw [HQ.out, decide_eq_true hd]; rfl)
        subst hd
        go_enter Tryz.func29, Tryz.ntmps29
        go_wp2_with fail
        go_ret
        exact ⟨ret_bool Hq.out.symm, hbx⟩
      · have e1 := dot_ne hd
        have Hq := Lib.hid (show q = pg by rw [HQ.out, decide_eq_false hd]; rfl)
        clear hd
        go_enter Tryz.func29, Tryz.ntmps29
        go_wp2_with fail
        refine HP.out.mono ?_
        rintro e w1 ⟨rfl, hb1⟩
        go_wp2_with fail
        go_ret
        exact ⟨ret_bool Hq.out.symm, hbx.trans (hb1.mono hbx.size)⟩
  by_cases h3 : k = 3
  · subst h3
    have hbx := (Below.refl w.heap.size w).alloc (Nat.le_refl _) (.cells #[.int .i64 3, .string s] 29)
    have HE := Lib.hid fun W => ending_any s W hs
    rw [← ruleG_end] at HE
    generalize ruleG _ = q at *
    go_enter Tryz.func29, Tryz.ntmps29
    go_wp2_with fail
    refine (HE.out _).mono ?_
    rintro e w1 ⟨rfl, hb1⟩
    go_wp2_with fail
    go_ret
    exact ⟨rfl, hbx.trans (hb1.mono hbx.size)⟩
  have hbx := (Below.refl w.heap.size w).alloc (Nat.le_refl _) (.cells #[.int .i64 k, .string s] 29)
  have HQ := Lib.hid (ruleG_no (s := s) h12 h3)
  have e1 : (k == 1) = false := by rw [beq_eq_false_iff_ne]; omega
  have e2 : (k == 2) = false := by rw [beq_eq_false_iff_ne]; omega
  have e3 : (k == 3) = false := by rw [beq_eq_false_iff_ne]; omega
  clear h12 h3
  generalize ruleG _ = q at *
  go_enter Tryz.func29, Tryz.ntmps29
  go_wp2_with fail
  go_ret
  exact ⟨ret_bool HQ.out.symm, hbx⟩
end Go.Proofs.YteeaaphpahnjcaaGreatDoor
