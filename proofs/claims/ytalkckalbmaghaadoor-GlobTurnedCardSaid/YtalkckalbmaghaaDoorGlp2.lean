/-
  arbourref09.Right.
-/
import Derived.Test.YtalkckalbmaghaaDoorGlp1
import Derived.Lib.QuietBelow
import Derived.BigQuiet
namespace Go.Proofs.YtalkckalbmaghaaDoor
open Go Go.RowKit Go.Lib
/-- A callee that leaves the world alone, met in a drawn region. -/
theorem regrown_same {P : Program} {f : FuncId} {args : Array Value} {w : World} {d : Nat} {os : Array Obj} {v : Value}
    (h : Calls P f args («Sort».grow (redrawn w d) os) fun e w' => e = .returned v ∧ «Sort».grow (redrawn w d) os = w') : Calls P f args («Sort».grow (redrawn w d) os) fun e w'' => e = .returned v ∧ ∃ p : Regrown, w'' = «Sort».grow (redrawn w p.d) p.os :=
  h.mono fun _ _ h => ⟨h.1, ⟨d, os⟩, h.2.symm⟩
set_option maxRecDepth 100000 in
set_option maxHeartbeats 3200000 in
theorem rgright3 (s : ByteArray) (w : World) (hs : s.size ≤ 100000) : Calls Tryd.prog 31 #[.agg #[.int .i64 3, .string s]] w fun e w' => e = .returned (.bool (ruleG ⟨3, s⟩)) ∧ Below w.heap.size w w' := by
  have hbx := (Below.refl w.heap.size w).alloc (Nat.le_refl _) (.cells #[.int .i64 3, .string s] 33)
  have c1 : (w.alloc (.cells #[.int .i64 3, .string s] 33)).cell? ⟨w.heap.size, 1, none⟩ = some (.string s) := cells_new_at w _ _ _ rfl 1 _ rfl
  have q1 := cell_regrown c1
  have hA1 : ¬ ((2 : Int) + (s.size : Int) > 9223372036854775807) := by omega
  have hA2 : 2 + s.size ≤ 9223372036854775807 := by omega
  have hx2 := x_size s
  have HR := Lib.hid fun W => rright_any (⟨#[120, 46]⟩ ++ s) W (by omega)
  have HX := Lib.hid fun W => rext_any (⟨#[120, 46]⟩ ++ s) W (by omega)
  rw [x_data] at HR HX
  have HQ := Lib.hid (ruleG_end (s := s))
  clear hx2
  by_cases h0 : s = ⟨#[]⟩
  · subst h0
    have Hq := Lib.hid (show ruleG ⟨3, ⟨#[]⟩⟩ = false by rw [HQ.out]; rfl)
    clear HQ
    generalize ruleG _ = q at *
    go_enter Tryd.func31, Tryd.ntmps31
    go_wp2_with fail
    refine wp_region_quiet_below (by kernel_rfl) (by kernel_rfl) ?_
    repeat (go_big_quiet_step (fail))
    refine wpQuiet_nil ?_
    intro _ hw'
    obtain ⟨⟨dq, osq⟩, hw''⟩ := hw'
    subst hw''
    have hbq := hbx.trans ((below_regrown _ dq osq).mono hbx.size)
    generalize «Sort».grow (redrawn _ dq) osq = wq at *
    go_wp2_with fail
    go_ret
    exact ⟨ret_bool Hq.out.symm, hbq⟩
  have h1 : 1 ≤ s.size := by
    have : s.size ≠ 0 := fun e => h0 (ByteArray.size_eq_zero_iff.1 e)
    omega
  have g1 : decide (1 ≤ s.size) = true := decide_eq_true h1
  have g2 : decide ((1 : Int) ≤ (s.size : Int)) = true := decide_eq_true (by omega)
  by_cases h7 : 7 < s.size
  · have Hq := Lib.hid (HQ.out.trans (endB_long (t := s.data.toList) (by rw [← size_eq]; exact h7)))
    have g3 : decide (s.size ≤ 7) = false := decide_eq_false (by omega)
    have g4 : decide ((s.size : Int) ≤ 7) = false := decide_eq_false (by omega)
    clear h0 HQ
    generalize ruleG _ = q at *
    go_enter Tryd.func31, Tryd.ntmps31
    go_wp2_with fail
    refine wp_region_quiet_below (by kernel_rfl) (by kernel_rfl) ?_
    repeat (go_big_quiet_step (fail))
    refine wpQuiet_nil ?_
    intro _ hw'
    obtain ⟨⟨dq, osq⟩, hw''⟩ := hw'
    subst hw''
    have hbq := hbx.trans ((below_regrown _ dq osq).mono hbx.size)
    generalize «Sort».grow (redrawn _ dq) osq = wq at *
    go_wp2_with fail
    go_ret
    exact ⟨ret_bool Hq.out.symm, hbq⟩
  have g3 : decide (s.size ≤ 7) = true := decide_eq_true (by omega)
  have g4 : decide ((s.size : Int) ≤ 7) = true := decide_eq_true (by omega)
  have HE := Lib.hid (HQ.out.trans (endB_in (t := s.data.toList) (ne_list h0) (by rw [← size_eq]; omega)))
  rw [ba_iff] at HE
  rw [show (⟨(extL ([120, 46] ++ s.data.toList)).toArray⟩ : ByteArray) = ba (extL ([120, 46] ++ s.data.toList)) from rfl] at HX
  clear h0 HQ
  generalize ruleG _ = q at *
  generalize ba (extL ([120, 46] ++ s.data.toList)) = x at *
  obtain ⟨r, hr⟩ : ∃ r, rightN ([120, 46] ++ s.data.toList) = r := ⟨_, rfl⟩
  rw [hr] at HR
  unfold rightN at hr
  have Hr := Lib.hid hr
  clear hr
  generalize rightL ([120, 46] ++ s.data.toList) = rl at *
  cases rl with
  | false =>
    obtain rfl : r = 23 := Hr.out.symm
    go_enter Tryd.func31, Tryd.ntmps31
    go_wp2_with fail
    refine wp_region_quiet_below (by kernel_rfl) (by kernel_rfl) ?_
    repeat (go_big_quiet_step ((go_at_call 36; exact regrown_same (HR.out _))))
    refine wpQuiet_nil ?_
    intro _ hw'
    obtain ⟨⟨dq, osq⟩, hw''⟩ := hw'
    subst hw''
    have hbq := hbx.trans ((below_regrown _ dq osq).mono hbx.size)
    generalize «Sort».grow (redrawn _ dq) osq = wq at *
    go_wp2_with fail
    go_ret
    exact ⟨ret_bool (by rw [HE.out]; rfl), hbq⟩
  | true =>
    obtain rfl : r = 0 := Hr.out.symm
    by_cases hxs : x = s
    · have e1 := str_eq hxs
      have Hq := Lib.hid (show q = true by rw [HE.out, decide_eq_true hxs]; rfl)
      clear hxs
      go_enter Tryd.func31, Tryd.ntmps31
      go_wp2_with fail
      refine wp_region_quiet_below (by kernel_rfl) (by kernel_rfl) ?_
      repeat (go_big_quiet_step (first | (go_at_call 36; exact regrown_same (HR.out _)) | (go_at_call 45; exact regrown_same (HX.out _))))
      refine wpQuiet_nil ?_
      intro _ hw'
      obtain ⟨⟨dq, osq⟩, hw''⟩ := hw'
      subst hw''
      have hbq := hbx.trans ((below_regrown _ dq osq).mono hbx.size)
      generalize «Sort».grow (redrawn _ dq) osq = wq at *
      go_wp2_with fail
      go_ret
      exact ⟨ret_bool Hq.out.symm, hbq⟩
    · have e1 := str_ne hxs
      have Hq := Lib.hid (show q = false by rw [HE.out, decide_eq_false hxs]; rfl)
      clear hxs
      go_enter Tryd.func31, Tryd.ntmps31
      go_wp2_with fail
      refine wp_region_quiet_below (by kernel_rfl) (by kernel_rfl) ?_
      repeat (go_big_quiet_step (first | (go_at_call 36; exact regrown_same (HR.out _)) | (go_at_call 45; exact regrown_same (HX.out _))))
      refine wpQuiet_nil ?_
      intro _ hw'
      obtain ⟨⟨dq, osq⟩, hw''⟩ := hw'
      subst hw''
      have hbq := hbx.trans ((below_regrown _ dq osq).mono hbx.size)
      generalize «Sort».grow (redrawn _ dq) osq = wq at *
      go_wp2_with fail
      go_ret
      exact ⟨ret_bool Hq.out.symm, hbq⟩
set_option maxRecDepth 100000 in
set_option maxHeartbeats 1600000 in
theorem rgright_any (k : Int) (s : ByteArray) (w : World) (hs : s.size ≤ 100000) : Calls Tryd.prog 31 #[.agg #[.int .i64 k, .string s]] w fun e w' => e = .returned (.bool (ruleG ⟨k, s⟩)) ∧ Below w.heap.size w w' := by
  by_cases h12 : k = 1 ∨ k = 2
  · have hbx := (Below.refl w.heap.size w).alloc (Nat.le_refl _) (.cells #[.int .i64 k, .string s] 33)
    have HP := Lib.hid (fun W => rpath_any s W (by omega))
    have HQ := Lib.hid (ruleG_path (s := s) h12)
    generalize pathG s.data.toList = pg at *
    generalize ruleG _ = q at *
    rcases h12 with rfl | rfl
    · by_cases hd : s = ⟨#[46]⟩
      · have Hq := Lib.hid (show q = true by rw [HQ.out, decide_eq_true hd]; rfl)
        subst hd
        go_enter Tryd.func31, Tryd.ntmps31
        go_wp2_with fail
        go_ret
        exact ⟨ret_bool Hq.out.symm, hbx⟩
      · have e1 := dot_ne hd
        have Hq := Lib.hid (show q = pg by rw [HQ.out, decide_eq_false hd]; rfl)
        clear hd
        go_enter Tryd.func31, Tryd.ntmps31
        go_wp2_with fail
        refine (HP.out _).mono ?_
        rintro e w1 ⟨rfl, hb1⟩
        go_wp2_with fail
        go_ret
        exact ⟨ret_bool Hq.out.symm, hbx.trans (hb1.mono hbx.size)⟩
    · by_cases hd : s = ⟨#[46]⟩
      · have Hq := Lib.hid (show q = true by rw [HQ.out, decide_eq_true hd]; rfl)
        subst hd
        go_enter Tryd.func31, Tryd.ntmps31
        go_wp2_with fail
        go_ret
        exact ⟨ret_bool Hq.out.symm, hbx⟩
      · have e1 := dot_ne hd
        have Hq := Lib.hid (show q = pg by rw [HQ.out, decide_eq_false hd]; rfl)
        clear hd
        go_enter Tryd.func31, Tryd.ntmps31
        go_wp2_with fail
        refine (HP.out _).mono ?_
        rintro e w1 ⟨rfl, hb1⟩
        go_wp2_with fail
        go_ret
        exact ⟨ret_bool Hq.out.symm, hbx.trans (hb1.mono hbx.size)⟩
  by_cases h3 : k = 3
  · subst h3
    exact rgright3 s w hs
  have hbx := (Below.refl w.heap.size w).alloc (Nat.le_refl _) (.cells #[.int .i64 k, .string s] 33)
  have HQ := Lib.hid (ruleG_no (s := s) h12 h3)
  have e1 : (k == 1) = false := by rw [beq_eq_false_iff_ne]; omega
  have e2 : (k == 2) = false := by rw [beq_eq_false_iff_ne]; omega
  have e3 : (k == 3) = false := by rw [beq_eq_false_iff_ne]; omega
  clear h12 h3
  generalize ruleG _ = q at *
  go_enter Tryd.func31, Tryd.ntmps31
  go_wp2_with fail
  go_ret
  exact ⟨ret_bool HQ.out.symm, hbx⟩
end Go.Proofs.YtalkckalbmaghaaDoor
