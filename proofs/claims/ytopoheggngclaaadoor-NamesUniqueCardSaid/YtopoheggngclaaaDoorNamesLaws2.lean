import Derived.Test.YtopoheggngclaaaDoorNamesLaws
import Derived.Test.YtopoheggngclaaaDoorUniquePure2
namespace Go.Proofs.YtopoheggngclaaaDoor
open Go.RowKit Go.Lib

theorem few_parts {ss : List ByteArray} (h : fewB ss = true) : ss.length ≤ 200 ∧ ∀ j, j < ss.length → (ss.getD j ByteArray.empty).size ≤ 140737488351232 := by
  obtain ⟨h1, h2⟩ := fewB_iff.1 h
  refine ⟨h1, fun j hj => ?_⟩
  rw [List.getD_eq_getElem?_getD, List.getElem?_eq_getElem hj]
  have := h2 _ (List.getElem_mem hj)
  simp only [Option.getD_some]
  omega
theorem sameB_self (ss : List ByteArray) : sameB ss ss = true := by simp [sameB]
theorem uniqueL_length (ss : List ByteArray) : (uniqueL ss).length ≤ ss.length := by
  unfold uniqueL
  split
  · simp
  · split
    · rw [outU_length]; exact Nat.le_refl _
    · simp

set_option maxHeartbeats 800000 in
theorem law_unique (a : Option Addr) (c : Nat) (ss : List ByteArray) (w : World) (ha : StrsAt w a ss) (hc : ss.length ≤ c) (hl : ss.length ≤ 8796093021952) (hT : Tab w) :
    Calls Tryd.prog 6 #[.slice a ss.length c] w fun e w' => e = .returned (.bool true) ∧ Below w.heap.size w w' := by
  have HA := Lib.hid (awake_any w hT)
  have HF := Lib.hid (few_any a c ss w (by omega) ha)
  by_cases hf : fewB ss = true
  · rw [hf] at HF
    obtain ⟨hl2, hsz⟩ := few_parts hf
    have HU := Lib.hid (unique_any a c ss w (by omega) ha hsz hT)
    have HU' := Lib.hid fun W (hb : Below w.heap.size w W) => runique_any a c ss W (by omega) hc (ha.keeps hb) hsz
    have HS := Lib.hid (sameB_self (uniqueL ss))
    have HT := Lib.hid hT
    have hul := uniqueL_length ss
    generalize uniqueL ss = u at *
    generalize uniqueN ss = q at *
    clear hf hsz ha hT
    go_enter Tryd.func6, Tryd.ntmps6
    go_wp2_with fail
    refine HF.out.mono ?_
    rintro e w' ⟨rfl, rfl⟩
    go_wp2_with fail
    refine HU.out.mono ?_
    rintro e w1 ⟨v1, c1, rfl, hs1, hb1⟩
    go_wp2_with fail
    refine (HU'.out _ hb1).mono ?_
    rintro e w2 ⟨v2, c2, rfl, hs2, hb2⟩
    have hb12 := hb1.trans (hb2.mono hb1.size)
    go_wp2_with fail
    refine (texts_any _ _ _ _ u u _ (by omega) (hs1.keeps hb2) hs2).mono ?_
    rw [HS.out]
    rintro e w' ⟨rfl, n, rfl⟩
    have hb3 := below_drewN hb12 n
    go_wp2_with fail
    refine (awake_any _ (HT.out.keeps hb3)).mono ?_
    rintro e w3 ⟨rfl, hb4⟩
    go_wp2_with fail
    go_ret
    exact ⟨rfl, hb3.trans (hb4.mono hb3.size)⟩
  · have hf : fewB ss = false := by simpa using hf
    rw [hf] at HF
    clear hf ha hT
    go_enter Tryd.func6, Tryd.ntmps6
    go_wp2_with fail
    refine HF.out.mono ?_
    rintro e w' ⟨rfl, rfl⟩
    go_wp2_with fail
    refine HA.out.mono ?_
    rintro e w1 ⟨rfl, hb1⟩
    go_wp2_with fail
    go_ret
    exact ⟨rfl, hb1⟩

/-- What two copies' names come to. -/
theorem copies_eq {l : List UInt8} {n m : Int} (hr : rightL l = true) (hn : ¬ (n < 1 ∨ 9999 < n)) (hm : ¬ (m < 1 ∨ 9999 < m)) (h : (⟨(copyL l n).toArray⟩ : ByteArray) = ⟨(copyL l m).toArray⟩) : n = m := by
  have h' : copyL l n = copyL l m := by
    have := congrArg (fun b : ByteArray => b.data.toList) h
    simpa using this
  rw [(copy_right hr hn).1, (copy_right hr hm).1] at h'
  obtain ⟨a, rfl⟩ : ∃ a : Nat, n = a := ⟨n.toNat, by omega⟩
  obtain ⟨b, rfl⟩ : ∃ b : Nat, m = b := ⟨m.toNat, by omega⟩
  rw [copyOk_inj h']

set_option maxRecDepth 100000 in
set_option maxHeartbeats 800000 in
theorem copies_wrong (s A B : ByteArray) (n m : Int) (w : World) (hA : A.toList.isEmpty = true)
    (HC1 : Hid (Calls Tryd.prog 15 #[.string s, .int .i64 n] w fun e w' => e = .returned (.tuple #[.string A, .int .i64 23]) ∧ Below w.heap.size w w'))
    (HC2 : Hid (∀ W, Below w.heap.size w W → Calls Tryd.prog 15 #[.string s, .int .i64 m] W fun e w' => e = .returned (.tuple #[.string B, .int .i64 23]) ∧ Below W.heap.size W w'))
    (HR : Hid (∀ W, Calls Tryd.prog 10 #[.string s] W fun e w' => e = .returned (.int .i64 23) ∧ ∃ n, w' = W.drewN n))
    (HA : Hid (∀ W, Below w.heap.size w W → Calls Tryd.prog 12 #[] W fun e w' => e = .returned (.bool true) ∧ Below W.heap.size W w')) :
    Calls Tryd.prog 8 #[.string s, .int .i64 n, .int .i64 m] w fun e w' => e = .returned (.bool true) ∧ Below w.heap.size w w' := by
  go_enter Tryd.func8, Tryd.ntmps8
  go_wp2_with fail
  refine HC1.out.mono ?_
  rintro e w1 ⟨rfl, hb1⟩
  go_wp2_with fail
  refine (HC2.out _ hb1).mono ?_
  rintro e w2 ⟨rfl, hb2⟩
  have hb := hb1.trans (hb2.mono hb1.size)
  clear hb1 hb2
  go_wp2_with fail
  refine (HR.out _).mono ?_
  rintro e w' ⟨rfl, k, rfl⟩
  have hbk := below_drewN hb k
  go_wp2_with fail
  refine (HA.out _ hbk).mono ?_
  rintro e w3 ⟨rfl, hb3⟩
  go_wp2_with fail
  go_ret
  exact ⟨rfl, hbk.trans (hb3.mono hbk.size)⟩

set_option maxRecDepth 100000 in
set_option maxHeartbeats 800000 in
theorem copies_arg (s A B : ByteArray) (n m q : Int) (w : World) (hA : A.toList.isEmpty = true)
    (HC1 : Hid (Calls Tryd.prog 15 #[.string s, .int .i64 n] w fun e w' => e = .returned (.tuple #[.string A, .int .i64 1]) ∧ Below w.heap.size w w'))
    (HC2 : Hid (∀ W, Below w.heap.size w W → Calls Tryd.prog 15 #[.string s, .int .i64 m] W fun e w' => e = .returned (.tuple #[.string B, .int .i64 q]) ∧ Below W.heap.size W w'))
    (HR : Hid (∀ W, Calls Tryd.prog 10 #[.string s] W fun e w' => e = .returned (.int .i64 0) ∧ ∃ n, w' = W.drewN n))
    (HA : Hid (∀ W, Below w.heap.size w W → Calls Tryd.prog 12 #[] W fun e w' => e = .returned (.bool true) ∧ Below W.heap.size W w')) :
    Calls Tryd.prog 8 #[.string s, .int .i64 n, .int .i64 m] w fun e w' => e = .returned (.bool true) ∧ Below w.heap.size w w' := by
  go_enter Tryd.func8, Tryd.ntmps8
  go_wp2_with fail
  refine HC1.out.mono ?_
  rintro e w1 ⟨rfl, hb1⟩
  go_wp2_with fail
  refine (HC2.out _ hb1).mono ?_
  rintro e w2 ⟨rfl, hb2⟩
  have hb := hb1.trans (hb2.mono hb1.size)
  clear hb1 hb2
  go_wp2_with fail
  refine (HR.out _).mono ?_
  rintro e w' ⟨rfl, k, rfl⟩
  have hbk := below_drewN hb k
  go_wp2_with fail
  refine (HA.out _ hbk).mono ?_
  rintro e w3 ⟨rfl, hb3⟩
  go_wp2_with fail
  go_ret
  exact ⟨rfl, hbk.trans (hb3.mono hbk.size)⟩

set_option maxRecDepth 100000 in
set_option maxHeartbeats 1600000 in
theorem copies_one (s A B x : ByteArray) (n m : Int) (w : World) 
    (HC1 : Hid (Calls Tryd.prog 15 #[.string s, .int .i64 n] w fun e w' => e = .returned (.tuple #[.string A, .int .i64 0]) ∧ Below w.heap.size w w'))
    (HC2 : Hid (∀ W, Below w.heap.size w W → Calls Tryd.prog 15 #[.string s, .int .i64 m] W fun e w' => e = .returned (.tuple #[.string B, .int .i64 1]) ∧ Below W.heap.size W w'))
    (HX : Hid (∀ W, Calls Tryd.prog 13 #[.string s] W fun e w' => e = .returned (.string x) ∧ W = w'))
    (HY : Hid (1 ≤ x.size → x.size ≤ 7 → ∀ W, Calls Tryd.prog 13 #[.string A] W fun e w' => e = .returned (.string x) ∧ W = w'))
    (HR : Hid (∀ W, Calls Tryd.prog 10 #[.string A] W fun e w' => e = .returned (.int .i64 0) ∧ ∃ n, w' = W.drewN n))
    (HA : Hid (∀ W, Below w.heap.size w W → Calls Tryd.prog 12 #[] W fun e w' => e = .returned (.bool true) ∧ Below W.heap.size W w')) :
    Calls Tryd.prog 8 #[.string s, .int .i64 n, .int .i64 m] w fun e w' => e = .returned (.bool true) ∧ Below w.heap.size w w' := by
  by_cases h1 : 1 ≤ (x.size : Int)
  · by_cases h7 : (x.size : Int) ≤ 7
    · have HY' := Lib.hid (HY.out (by omega) (by omega))
      go_enter Tryd.func8, Tryd.ntmps8
      go_wp2_with fail
      refine HC1.out.mono ?_
      rintro e w1 ⟨rfl, hb1⟩
      go_wp2_with fail
      refine (HC2.out _ hb1).mono ?_
      rintro e w2 ⟨rfl, hb2⟩
      have hb := hb1.trans (hb2.mono hb1.size)
      clear hb1 hb2
      go_wp2_with fail
      refine (HX.out _).mono ?_
      rintro e w' ⟨rfl, rfl⟩
      go_wp2_with fail
      refine (HY'.out _).mono ?_
      rintro e w' ⟨rfl, rfl⟩
      go_wp2_with fail
      refine (HR.out _).mono ?_
      rintro e w' ⟨rfl, k, rfl⟩
      have hbk := below_drewN hb k
      go_wp2_with fail
      refine (HA.out _ hbk).mono ?_
      rintro e w3 ⟨rfl, hb3⟩
      go_wp2_with fail
      go_ret
      exact ⟨rfl, hbk.trans (hb3.mono hbk.size)⟩
    · go_enter Tryd.func8, Tryd.ntmps8
      go_wp2_with fail
      refine HC1.out.mono ?_
      rintro e w1 ⟨rfl, hb1⟩
      go_wp2_with fail
      refine (HC2.out _ hb1).mono ?_
      rintro e w2 ⟨rfl, hb2⟩
      have hb := hb1.trans (hb2.mono hb1.size)
      clear hb1 hb2
      go_wp2_with fail
      refine (HX.out _).mono ?_
      rintro e w' ⟨rfl, rfl⟩
      go_wp2_with fail
      refine (HR.out _).mono ?_
      rintro e w' ⟨rfl, k, rfl⟩
      have hbk := below_drewN hb k
      go_wp2_with fail
      refine (HA.out _ hbk).mono ?_
      rintro e w3 ⟨rfl, hb3⟩
      go_wp2_with fail
      go_ret
      exact ⟨rfl, hbk.trans (hb3.mono hbk.size)⟩
  · go_enter Tryd.func8, Tryd.ntmps8
    go_wp2_with fail
    refine HC1.out.mono ?_
    rintro e w1 ⟨rfl, hb1⟩
    go_wp2_with fail
    refine (HC2.out _ hb1).mono ?_
    rintro e w2 ⟨rfl, hb2⟩
    have hb := hb1.trans (hb2.mono hb1.size)
    clear hb1 hb2
    go_wp2_with fail
    refine (HX.out _).mono ?_
    rintro e w' ⟨rfl, rfl⟩
    go_wp2_with fail
    refine (HR.out _).mono ?_
    rintro e w' ⟨rfl, k, rfl⟩
    have hbk := below_drewN hb k
    go_wp2_with fail
    refine (HA.out _ hbk).mono ?_
    rintro e w3 ⟨rfl, hb3⟩
    go_wp2_with fail
    go_ret
    exact ⟨rfl, hbk.trans (hb3.mono hbk.size)⟩

set_option maxRecDepth 100000 in
set_option maxHeartbeats 1600000 in
theorem copies_same (s A B x : ByteArray) (n m : Int) (w : World) (hs : (A.toList == B.toList) = true) (hnm : (n == m) = true) 
    (HC1 : Hid (Calls Tryd.prog 15 #[.string s, .int .i64 n] w fun e w' => e = .returned (.tuple #[.string A, .int .i64 0]) ∧ Below w.heap.size w w'))
    (HC2 : Hid (∀ W, Below w.heap.size w W → Calls Tryd.prog 15 #[.string s, .int .i64 m] W fun e w' => e = .returned (.tuple #[.string B, .int .i64 0]) ∧ Below W.heap.size W w'))
    (HX : Hid (∀ W, Calls Tryd.prog 13 #[.string s] W fun e w' => e = .returned (.string x) ∧ W = w'))
    (HY : Hid (1 ≤ x.size → x.size ≤ 7 → ∀ W, Calls Tryd.prog 13 #[.string A] W fun e w' => e = .returned (.string x) ∧ W = w'))
    (HR : Hid (∀ W, Calls Tryd.prog 10 #[.string A] W fun e w' => e = .returned (.int .i64 0) ∧ ∃ n, w' = W.drewN n))
    (HA : Hid (∀ W, Below w.heap.size w W → Calls Tryd.prog 12 #[] W fun e w' => e = .returned (.bool true) ∧ Below W.heap.size W w')) :
    Calls Tryd.prog 8 #[.string s, .int .i64 n, .int .i64 m] w fun e w' => e = .returned (.bool true) ∧ Below w.heap.size w w' := by
  by_cases h1 : 1 ≤ (x.size : Int)
  · by_cases h7 : (x.size : Int) ≤ 7
    · have HY' := Lib.hid (HY.out (by omega) (by omega))
      go_enter Tryd.func8, Tryd.ntmps8
      go_wp2_with fail
      refine HC1.out.mono ?_
      rintro e w1 ⟨rfl, hb1⟩
      go_wp2_with fail
      refine (HC2.out _ hb1).mono ?_
      rintro e w2 ⟨rfl, hb2⟩
      have hb := hb1.trans (hb2.mono hb1.size)
      clear hb1 hb2
      go_wp2_with fail
      refine (HX.out _).mono ?_
      rintro e w' ⟨rfl, rfl⟩
      go_wp2_with fail
      refine (HY'.out _).mono ?_
      rintro e w' ⟨rfl, rfl⟩
      go_wp2_with fail
      refine (HR.out _).mono ?_
      rintro e w' ⟨rfl, k, rfl⟩
      have hbk := below_drewN hb k
      go_wp2_with fail
      refine (HA.out _ hbk).mono ?_
      rintro e w3 ⟨rfl, hb3⟩
      go_wp2_with fail
      go_ret
      exact ⟨rfl, hbk.trans (hb3.mono hbk.size)⟩
    · go_enter Tryd.func8, Tryd.ntmps8
      go_wp2_with fail
      refine HC1.out.mono ?_
      rintro e w1 ⟨rfl, hb1⟩
      go_wp2_with fail
      refine (HC2.out _ hb1).mono ?_
      rintro e w2 ⟨rfl, hb2⟩
      have hb := hb1.trans (hb2.mono hb1.size)
      clear hb1 hb2
      go_wp2_with fail
      refine (HX.out _).mono ?_
      rintro e w' ⟨rfl, rfl⟩
      go_wp2_with fail
      refine (HR.out _).mono ?_
      rintro e w' ⟨rfl, k, rfl⟩
      have hbk := below_drewN hb k
      go_wp2_with fail
      refine (HA.out _ hbk).mono ?_
      rintro e w3 ⟨rfl, hb3⟩
      go_wp2_with fail
      go_ret
      exact ⟨rfl, hbk.trans (hb3.mono hbk.size)⟩
  · go_enter Tryd.func8, Tryd.ntmps8
    go_wp2_with fail
    refine HC1.out.mono ?_
    rintro e w1 ⟨rfl, hb1⟩
    go_wp2_with fail
    refine (HC2.out _ hb1).mono ?_
    rintro e w2 ⟨rfl, hb2⟩
    have hb := hb1.trans (hb2.mono hb1.size)
    clear hb1 hb2
    go_wp2_with fail
    refine (HX.out _).mono ?_
    rintro e w' ⟨rfl, rfl⟩
    go_wp2_with fail
    refine (HR.out _).mono ?_
    rintro e w' ⟨rfl, k, rfl⟩
    have hbk := below_drewN hb k
    go_wp2_with fail
    refine (HA.out _ hbk).mono ?_
    rintro e w3 ⟨rfl, hb3⟩
    go_wp2_with fail
    go_ret
    exact ⟨rfl, hbk.trans (hb3.mono hbk.size)⟩

set_option maxRecDepth 100000 in
set_option maxHeartbeats 1600000 in
theorem copies_apart (s A B x : ByteArray) (n m : Int) (w : World) (hs : (A.toList == B.toList) = false) (hnm : (n == m) = false) 
    (HC1 : Hid (Calls Tryd.prog 15 #[.string s, .int .i64 n] w fun e w' => e = .returned (.tuple #[.string A, .int .i64 0]) ∧ Below w.heap.size w w'))
    (HC2 : Hid (∀ W, Below w.heap.size w W → Calls Tryd.prog 15 #[.string s, .int .i64 m] W fun e w' => e = .returned (.tuple #[.string B, .int .i64 0]) ∧ Below W.heap.size W w'))
    (HX : Hid (∀ W, Calls Tryd.prog 13 #[.string s] W fun e w' => e = .returned (.string x) ∧ W = w'))
    (HY : Hid (1 ≤ x.size → x.size ≤ 7 → ∀ W, Calls Tryd.prog 13 #[.string A] W fun e w' => e = .returned (.string x) ∧ W = w'))
    (HR : Hid (∀ W, Calls Tryd.prog 10 #[.string A] W fun e w' => e = .returned (.int .i64 0) ∧ ∃ n, w' = W.drewN n))
    (HA : Hid (∀ W, Below w.heap.size w W → Calls Tryd.prog 12 #[] W fun e w' => e = .returned (.bool true) ∧ Below W.heap.size W w')) :
    Calls Tryd.prog 8 #[.string s, .int .i64 n, .int .i64 m] w fun e w' => e = .returned (.bool true) ∧ Below w.heap.size w w' := by
  by_cases h1 : 1 ≤ (x.size : Int)
  · by_cases h7 : (x.size : Int) ≤ 7
    · have HY' := Lib.hid (HY.out (by omega) (by omega))
      go_enter Tryd.func8, Tryd.ntmps8
      go_wp2_with fail
      refine HC1.out.mono ?_
      rintro e w1 ⟨rfl, hb1⟩
      go_wp2_with fail
      refine (HC2.out _ hb1).mono ?_
      rintro e w2 ⟨rfl, hb2⟩
      have hb := hb1.trans (hb2.mono hb1.size)
      clear hb1 hb2
      go_wp2_with fail
      refine (HX.out _).mono ?_
      rintro e w' ⟨rfl, rfl⟩
      go_wp2_with fail
      refine (HY'.out _).mono ?_
      rintro e w' ⟨rfl, rfl⟩
      go_wp2_with fail
      refine (HR.out _).mono ?_
      rintro e w' ⟨rfl, k, rfl⟩
      have hbk := below_drewN hb k
      go_wp2_with fail
      refine (HA.out _ hbk).mono ?_
      rintro e w3 ⟨rfl, hb3⟩
      go_wp2_with fail
      go_ret
      exact ⟨rfl, hbk.trans (hb3.mono hbk.size)⟩
    · go_enter Tryd.func8, Tryd.ntmps8
      go_wp2_with fail
      refine HC1.out.mono ?_
      rintro e w1 ⟨rfl, hb1⟩
      go_wp2_with fail
      refine (HC2.out _ hb1).mono ?_
      rintro e w2 ⟨rfl, hb2⟩
      have hb := hb1.trans (hb2.mono hb1.size)
      clear hb1 hb2
      go_wp2_with fail
      refine (HX.out _).mono ?_
      rintro e w' ⟨rfl, rfl⟩
      go_wp2_with fail
      refine (HR.out _).mono ?_
      rintro e w' ⟨rfl, k, rfl⟩
      have hbk := below_drewN hb k
      go_wp2_with fail
      refine (HA.out _ hbk).mono ?_
      rintro e w3 ⟨rfl, hb3⟩
      go_wp2_with fail
      go_ret
      exact ⟨rfl, hbk.trans (hb3.mono hbk.size)⟩
  · go_enter Tryd.func8, Tryd.ntmps8
    go_wp2_with fail
    refine HC1.out.mono ?_
    rintro e w1 ⟨rfl, hb1⟩
    go_wp2_with fail
    refine (HC2.out _ hb1).mono ?_
    rintro e w2 ⟨rfl, hb2⟩
    have hb := hb1.trans (hb2.mono hb1.size)
    clear hb1 hb2
    go_wp2_with fail
    refine (HX.out _).mono ?_
    rintro e w' ⟨rfl, rfl⟩
    go_wp2_with fail
    refine (HR.out _).mono ?_
    rintro e w' ⟨rfl, k, rfl⟩
    have hbk := below_drewN hb k
    go_wp2_with fail
    refine (HA.out _ hbk).mono ?_
    rintro e w3 ⟨rfl, hb3⟩
    go_wp2_with fail
    go_ret
    exact ⟨rfl, hbk.trans (hb3.mono hbk.size)⟩

theorem law_copies (s : ByteArray) (n m : Int) (w : World) (hs : s.size ≤ 140737488351232) (_ : -9223372036854775808 ≤ n) (_ : n ≤ 9223372036854775807) (_ : -9223372036854775808 ≤ m) (_ : m ≤ 9223372036854775807) (hT : Tab w) :
    Calls Tryd.prog 8 #[.string s, .int .i64 n, .int .i64 m] w fun e w' => e = .returned (.bool true) ∧ Below w.heap.size w w' := by
  have HC1 := copy_any s n w hs hT
  have HC2 := fun W (hb : Below w.heap.size w W) => copy_any s m W hs (hT.keeps hb)
  have HA := fun W (hb : Below w.heap.size w W) => awake_any W (hT.keeps hb)
  have HR := fun W => right_any s W hs
  by_cases hr : rightL s.data.toList = true
  · rw [rightN_ok hr] at HR
    by_cases hn : n < 1 ∨ 9999 < n
    · obtain ⟨e1, e2⟩ := copy_arg hr hn
      rw [e1, e2] at HC1
      exact copies_arg s _ _ n m _ w (by rw [toList_data]; rfl) HC1 HC2 HR HA
    · have hn' := copy_right hr hn
      have hlen : (copyL s.data.toList n).length ≤ 24 := by
        rw [hn'.1]
        obtain ⟨k, rfl⟩ : ∃ k : Nat, n = k := ⟨n.toNat, by omega⟩
        exact (rightL_parts (copyOk_right hr (by omega) (by omega))).2.1
      have hRA : ∀ W, Calls Tryd.prog 10 #[.string ⟨(copyL s.data.toList n).toArray⟩] W fun e w' => e = .returned (.int .i64 0) ∧ ∃ n, w' = W.drewN n := fun W => by
        have h := right_any ⟨(copyL s.data.toList n).toArray⟩ W (by rw [size_mk]; omega)
        have e : rightN (⟨(copyL s.data.toList n).toArray⟩ : ByteArray).data.toList = 0 := by
          show rightN (copyL s.data.toList n) = 0
          rw [hn'.1]
          obtain ⟨k, rfl⟩ : ∃ k : Nat, n = k := ⟨n.toNat, by omega⟩
          exact rightN_ok (copyOk_right hr (by omega) (by omega))
        rwa [e] at h
      have HX := fun W => ext_any s W hs
      have HY : 1 ≤ (⟨(extL s.data.toList).toArray⟩ : ByteArray).size → (⟨(extL s.data.toList).toArray⟩ : ByteArray).size ≤ 7 → ∀ W, Calls Tryd.prog 13 #[.string ⟨(copyL s.data.toList n).toArray⟩] W fun e w' => e = .returned (.string ⟨(extL s.data.toList).toArray⟩) ∧ W = w' := fun h1 h7 W => by
        rw [size_mk] at h1 h7
        have h := ext_any ⟨(copyL s.data.toList n).toArray⟩ W (by rw [size_mk]; omega)
        have e : extL (⟨(copyL s.data.toList n).toArray⟩ : ByteArray).data.toList = extL s.data.toList := by
          show extL (copyL s.data.toList n) = _
          rw [hn'.1]
          exact copyOk_ext h1 h7
        rwa [e] at h
      rw [hn'.2] at HC1
      by_cases hm : m < 1 ∨ 9999 < m
      · rw [(copy_arg hr hm).2] at HC2
        exact copies_one s _ _ _ n m w HC1 HC2 HX HY hRA HA
      · rw [(copy_right hr hm).2] at HC2
        by_cases e : n = m
        · refine copies_same s _ _ _ n m w ?_ (by simpa using e) HC1 HC2 HX HY hRA HA
          rw [e]
          exact beq_self_eq_true _
        · exact copies_apart s _ _ _ n m w (str_ne fun h => e (copies_eq hr hn hm h)) (by simpa using e) HC1 HC2 HX HY hRA HA
  · have hr : rightL s.data.toList = false := by simpa using hr
    rw [rightN_bad hr] at HR
    obtain ⟨e1, e2⟩ := copy_wrong n hr
    obtain ⟨e3, e4⟩ := copy_wrong m hr
    rw [e1, e2] at HC1
    rw [e3, e4] at HC2
    exact copies_wrong s _ _ n m w (by rw [toList_data]; rfl) HC1 HC2 HR HA
end Go.Proofs.YtopoheggngclaaaDoor
