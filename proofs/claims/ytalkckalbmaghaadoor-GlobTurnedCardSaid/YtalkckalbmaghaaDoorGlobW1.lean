import Derived.Test.YtalkckalbmaghaaDoorNamesW2
import Derived.Test.YtalkckalbmaghaaDoorGlobPure
import Derived.Test.YtalkckalbmaghaaDoorDrawn
import Derived.Test.YtalkckalbmaghaaDoorCut
import Derived.StillTailTactics
namespace Go.Proofs.YtalkckalbmaghaaDoor
open Go.RowKit Go.Lib

theorem within_dot {p d : ByteArray} (h : d = ⟨#[46]⟩) : withinG p d = true := by simp [withinG, h]
theorem within_same {p d : ByteArray} (h : p = d) : withinG p d = true := by simp [withinG, h]
theorem within_else {p d : ByteArray} (h1 : ¬ d = ⟨#[46]⟩) (h2 : ¬ p = d) : withinG p d = underB p d := by simp [withinG, h1, h2]

theorem dot_ne {d : ByteArray} (h : d ≠ ⟨#[46]⟩) : (d.toList == [46]) = false := by
  rw [toList_data, beq_eq_false_iff_ne]
  exact fun e => h (ba_ext e)
set_option maxHeartbeats 800000 in
theorem within_any (p d : ByteArray) (w : World) (hd : d.size ≤ 100000) :
    Calls Tryd.prog 17 #[.string p, .string d] w fun e w' => e = .returned (.bool (withinG p d)) ∧ w = w' := by
  obtain ⟨r, c, hu, hc⟩ := cut_call p d
  have HC := Lib.hid hc
  by_cases h1 : d = ⟨#[46]⟩
  · have Hr := Lib.hid (within_dot (p := p) h1)
    subst h1
    clear hu hc
    go_enter Tryd.func17, Tryd.ntmps17
    go_wp2_with fail
    refine (HC.out w).mono ?_
    rintro e w1 ⟨rfl, rfl⟩
    go_wp2_with fail
    go_ret
    exact ⟨ret_bool Hr.out.symm, rfl⟩
  have e1 := dot_ne h1
  by_cases h2 : p = d
  · have Hr := Lib.hid (within_same h2)
    have e2 := str_eq h2
    clear h1 h2 hu hc
    go_enter Tryd.func17, Tryd.ntmps17
    go_wp2_with fail
    refine (HC.out w).mono ?_
    rintro e w1 ⟨rfl, rfl⟩
    go_wp2_with fail
    go_ret
    exact ⟨ret_bool Hr.out.symm, rfl⟩
  have e2 := str_ne h2
  have Hr := Lib.hid ((within_else h1 h2).trans hu)
  clear h1 h2 hu hc
  cases c with
  | false =>
    go_enter Tryd.func17, Tryd.ntmps17
    go_wp2_with fail
    refine (HC.out w).mono ?_
    rintro e w1 ⟨rfl, rfl⟩
    go_wp2_with fail
    go_ret
    exact ⟨ret_bool Hr.out.symm, rfl⟩
  | true =>
    go_enter Tryd.func17, Tryd.ntmps17
    go_wp2_with fail
    refine (HC.out w).mono ?_
    rintro e w1 ⟨rfl, rfl⟩
    go_wp2_with fail
    go_ret
    exact ⟨by rw [Hr.out]; simp, rfl⟩

set_option maxHeartbeats 800000 in
theorem rwithin_any (p d : ByteArray) (w : World) (hd : d.size ≤ 100000) :
    Calls Tryd.prog 18 #[.string p, .string d] w fun e w' => e = .returned (.bool (withinG p d)) ∧ w = w' := by
  by_cases h1 : d = ⟨#[46]⟩
  · have Hr := Lib.hid (within_dot (p := p) h1)
    subst h1
    go_enter Tryd.func18, Tryd.ntmps18
    go_wp2_with fail
    go_ret
    exact ⟨ret_bool Hr.out.symm, rfl⟩
  have e1 := dot_ne h1
  by_cases h2 : p = d
  · have Hr := Lib.hid (within_same h2)
    have e2 := str_eq h2
    clear h1 h2
    go_enter Tryd.func18, Tryd.ntmps18
    go_wp2_with fail
    go_ret
    exact ⟨ret_bool Hr.out.symm, rfl⟩
  have e2 := str_ne h2
  have hw := within_else h1 h2
  clear h1 h2
  by_cases h1 : d.size + 1 < p.size
  · have hlo : (d.size : Int) < p.size := by omega
    have hlt3 : d.size < p.size := by omega
    by_cases h2 : p.extract 0 d.size = d
    · have e3 := str_eq h2
      by_cases h3 : p[d.size] = 47
      · have e4 : ((p[d.size].toNat : Int) == 47) = true := by rw [h3]; rfl
        have Hr := Lib.hid (hw.trans (under_yes h1 h2 h3))
        clear hw h2 h3
        go_enter Tryd.func18, Tryd.ntmps18
        go_wp2_with fail
        go_ret
        exact ⟨ret_bool Hr.out.symm, rfl⟩
      · have e4 : ((p[d.size].toNat : Int) == 47) = false := byte_ne h3
        have Hr := Lib.hid (hw.trans (under_no3 hlt3 h3))
        clear hw h2 h3
        go_enter Tryd.func18, Tryd.ntmps18
        go_wp2_with fail
        go_ret
        exact ⟨ret_bool Hr.out.symm, rfl⟩
    · have e3 := str_ne h2
      have Hr := Lib.hid (hw.trans (under_no2 h2))
      clear hw h2
      go_enter Tryd.func18, Tryd.ntmps18
      go_wp2_with fail
      go_ret
      exact ⟨ret_bool Hr.out.symm, rfl⟩
  · have hu : underB p d = false := by unfold underB; simp [h1]
    have Hr := Lib.hid (hw.trans hu)
    clear hw hu
    have h1 : ¬ ((d.size : Int) + 1 < p.size) := by omega
    go_enter Tryd.func18, Tryd.ntmps18
    go_wp2_with fail
    go_ret
    exact ⟨ret_bool Hr.out.symm, rfl⟩

set_option maxHeartbeats 800000 in
theorem length_any (x : Rul) (w : World) :
    Calls Tryd.prog 61 #[.agg #[.int .i64 x.kind, .string x.text]] w fun e w' => e = .returned (.int .i64 (longG x.text)) ∧ Below w.heap.size w w' := by
  obtain ⟨k, t⟩ := x
  dsimp only
  have hb := (Below.refl w.heap.size w).alloc (Nat.le_refl _) (.cells #[.int .i64 k, .string t] 33)
  by_cases h : t = ⟨#[46]⟩
  · have Hr := Lib.hid (show longG t = -1 by unfold longG; rw [if_pos h])
    have e1 := str_eq h
    subst h
    go_enter Tryd.func61, Tryd.ntmps61
    go_wp2_with fail
    go_ret
    exact ⟨ret_int Hr.out.symm, hb⟩
  · have Hr := Lib.hid (show longG t = t.size by unfold longG; rw [if_neg h])
    have e1 := dot_ne h
    clear h
    go_enter Tryd.func61, Tryd.ntmps61
    go_wp2_with fail
    go_ret
    exact ⟨ret_int Hr.out.symm, hb⟩
set_option maxHeartbeats 800000 in
theorem long_any (t : ByteArray) (w : World) :
    Calls Tryd.prog 44 #[.string t] w fun e w' => e = .returned (.int .i64 (longG t)) ∧ w' = w := by
  by_cases h : t = ⟨#[46]⟩
  · have Hr := Lib.hid (show longG t = -1 by unfold longG; rw [if_pos h])
    have e1 := str_eq h
    subst h
    go_enter Tryd.func44, Tryd.ntmps44
    go_wp2_with fail
    go_ret
    exact ⟨ret_int Hr.out.symm, rfl⟩
  · have Hr := Lib.hid (show longG t = t.size by unfold longG; rw [if_neg h])
    have e1 := dot_ne h
    clear h
    go_enter Tryd.func44, Tryd.ntmps44
    go_wp2_with fail
    go_ret
    exact ⟨ret_int Hr.out.symm, rfl⟩
end Go.Proofs.YtalkckalbmaghaaDoor
