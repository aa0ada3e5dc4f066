/-
  GlobBack and GlobOver.
-/
import Derived.Test.YtalkckalbmaghaaDoorGlp15
namespace Go.Proofs.YtalkckalbmaghaaDoor
open Go Go.RowKit Go.Lib

theorem linesL_mem {l : List Rul} {x : Rul} (h : x ∈ l) : x.text.size ≤ (linesL l).length := by
  induction l with
  | nil => cases h
  | cons y l ih =>
    have e : linesL (y :: l) = ruleL y ++ linesL l := rfl
    rw [e, List.length_append]
    rcases List.mem_cons.1 h with rfl | h
    · simp only [ruleL, List.length_append, size_eq]
      omega
    · have := ih h
      omega
theorem parse_small {t : List UInt8} (h : (parseG t).2 = 0) : ∀ x ∈ (parseG t).1, x.text.size ≤ t.length := by
  have h1 := parse_print h
  intro x hx
  unfold printG at h1
  split at h1
  · cases h1
  split at h1
  · have := linesL_mem hx
    rw [(Prod.mk.inj h1).1] at this
    exact this
  · cases h1
theorem print_size {l : List Rul} (h : ∀ x ∈ l, x.text.size ≤ 1000) : (ba (printG l).1).size ≤ 100000 := by
  rw [size_eq, ba_data]
  unfold printG
  split
  · exact Nat.zero_le _
  rename_i hl
  split
  · have h1 := linesL_size l h
    have h2 : l.length * (1000 + 9) ≤ 16 * (1000 + 9) := Nat.mul_le_mul_right _ (by omega)
    dsimp only
    omega
  · exact Nat.zero_le _
theorem under_iff {p d : ByteArray} : underB p d = true ↔ ∃ r, r ≠ [] ∧ p.data.toList = d.data.toList ++ 47 :: r := by
  unfold underB
  simp only [Bool.and_eq_true, decide_eq_true_eq]
  constructor
  · rintro ⟨⟨h1, h2⟩, h3⟩
    rw [size_eq, size_eq] at h1
    rw [size_eq] at h2 h3
    refine ⟨p.data.toList.drop (d.data.toList.length + 1), ?_, ?_⟩
    · intro e
      have := List.drop_eq_nil_iff.1 e
      omega
    · have h4 := (List.take_append_drop d.data.toList.length p.data.toList).symm
      rw [h2] at h4
      obtain ⟨hk, e⟩ := List.getElem?_eq_some_iff.1 h3
      rw [List.drop_eq_getElem_cons hk, e] at h4
      exact h4
  · rintro ⟨r, hr, e⟩
    rw [size_eq, size_eq, e]
    have := List.length_pos_iff.2 hr
    refine ⟨⟨?_, ?_⟩, ?_⟩
    · simp only [List.length_append, List.length_cons]
      omega
    · rw [List.take_left]
    · simp
theorem within_iff {p d : ByteArray} : withinG p d = true ↔ d = ⟨#[46]⟩ ∨ p = d ∨ ∃ r, r ≠ [] ∧ p.data.toList = d.data.toList ++ 47 :: r := by
  unfold withinG
  rw [Bool.or_eq_true, Bool.or_eq_true, decide_eq_true_eq, decide_eq_true_eq, under_iff, or_assoc]
theorem within_trans {a b c : ByteArray} (hb : b ≠ ⟨#[46]⟩) (h1 : withinG a b = true) (h2 : withinG b c = true) : withinG a c = true := by
  rw [within_iff] at h1 h2 ⊢
  rcases h2 with h2 | h2 | ⟨r, hr, h2⟩
  · exact .inl h2
  · rw [← h2]
    rcases h1 with h1 | h1
    · exact absurd h1 hb
    · exact .inr h1
  · rcases h1 with h1 | h1 | ⟨q, hq, h1⟩
    · exact absurd h1 hb
    · rw [h1]
      exact .inr (.inr ⟨r, hr, h2⟩)
    · refine .inr (.inr ⟨r ++ 47 :: q, by simp, ?_⟩)
      rw [h1, h2]
      simp
theorem within_self (a : ByteArray) : withinG a a = true := within_iff.2 (.inr (.inl rfl))
theorem within_all (a : ByteArray) : withinG a ⟨#[46]⟩ = true := within_iff.2 (.inl rfl)
theorem within_join {a b : ByteArray} (h : pathG b.data.toList = true) : withinG (a ++ ⟨#[47]⟩ ++ b) a = true := by
  refine within_iff.2 (.inr (.inr ⟨b.data.toList, ?_, ?_⟩))
  · intro e
    rw [e] at h
    exact absurd h (by decide)
  · rw [app_data, app_data]
    simp
set_option maxRecDepth 100000 in
set_option maxHeartbeats 3200000 in
theorem law_globBack (a : Option Addr) (cap : Nat) (l : List Rul) (s : ByteArray) (w : World) (hl : l.length ≤ 140737488351232) (ha : RowsAt rulLay w a l) (hm : MaxAt w) : Calls Tryd.prog 10 #[.slice a l.length cap, .string s] w fun e w' => e = .returned (.bool true) ∧ Below w.heap.size w w' := by
  have HAW := Lib.hid fun W hM => awake_any W hM
  have HF := Lib.hid (few09_any a cap l w hl ha)
  have hb0 := Below.refl w.heap.size w
  cases hf : fewR 100 1000 l with
  | false =>
    rw [hf] at HF
    clear hf
    go_enter Tryd.func10, Tryd.ntmps10
    go_wp2_with fail
    refine HF.out.mono ?_
    rintro e w1 ⟨rfl, rfl⟩
    by_cases ht : s.size ≤ 10000
    · have HT := Lib.hid fun W hM => parse_any s W (by omega) hM
      have HPB := Lib.hid (parse_print (l := s.data.toList))
      have HPS := Lib.hid (parse_small (t := s.data.toList))
      have HPX := Lib.hid (parse_bad (l := s.data.toList))
      have hlen := parse_len s.data.toList
      generalize parseG s.data.toList = R at *
      obtain ⟨m, f⟩ := R
      dsimp only at HT HPB HPS HPX hlen
      by_cases hf0 : f = 0
      · have hmp := HPB.out hf0
        have hms : ∀ x ∈ m, x.text.size ≤ 100000 := fun x hx => by
          have := HPS.out hf0 x hx
          rw [← size_eq] at this
          omega
        subst hf0
        have HW := Lib.hid fun a c W h hM => print_any a c m W hlen hms h hM
        rw [hmp, ba_back] at HW
        clear hmp hms HPB HPS HPX
        go_wp2_with fail
        refine (HT.out _ (hm.keeps hb0)).mono ?_
        rintro e wy ⟨v, rfl, hov, hby⟩
        obtain ⟨av, cv, rfl, hrow, hcap⟩ := hov.read
        have hbq := hb0.trans (hby.mono hb0.size)
        clear hov
        go_wp2_with fail
        refine (HW.out _ _ _ hrow (hm.keeps hbq)).mono ?_
        rintro e wx ⟨rfl, hbx⟩
        have hbp := hbq.trans (hbx.mono hbq.size)
        have es := str_eq (rfl : s = s)
        go_wp2_with fail
        refine (HAW.out _ (hm.keeps hbp)).mono ?_
        rintro e wz ⟨rfl, hbz⟩
        go_wp2_with fail
        go_ret
        exact ⟨rfl, hbp.trans (hbz.mono hbp.size)⟩
      · have hmn := HPX.out hf0
        have ef : (f != 0) = true := by rw [bne_iff_ne]; exact hf0
        subst hmn
        go_wp2_with fail
        refine (HT.out _ (hm.keeps hb0)).mono ?_
        rintro e wy ⟨v, rfl, hov, hby⟩
        obtain ⟨av, cv, rfl, hrow, hcap⟩ := hov.read
        have hbq := hb0.trans (hby.mono hb0.size)
        clear hov
        go_wp2_with fail
        refine (HAW.out _ (hm.keeps hbq)).mono ?_
        rintro e wz ⟨rfl, hbz⟩
        go_wp2_with fail
        go_ret
        exact ⟨rfl, hbq.trans (hbz.mono hbq.size)⟩
    · go_wp2_with fail
      refine (HAW.out _ (hm.keeps hb0)).mono ?_
      rintro e wz ⟨rfl, hbz⟩
      go_wp2_with fail
      go_ret
      exact ⟨rfl, hb0.trans (hbz.mono hb0.size)⟩
  | true =>
    rw [hf] at HF
    obtain ⟨hl1, hsz⟩ := fewR_parts hf
    have hps := print_size hsz
    have HP := Lib.hid (print_any a cap l w hl (fun x hx => by have := hsz x hx; omega) ha hm)
    have HQ := Lib.hid fun W hM => parse_any (ba (printG l).1) W hps hM
    rw [ba_data] at HQ
    clear hps hf
    by_cases h0 : (printG l).2 = 0
    · have hpp := print_parse h0
      rw [hpp] at HQ
      rw [h0] at HP
      generalize ba (printG l).1 = R at *
      dsimp only at HQ
      clear h0 hpp hsz
      go_enter Tryd.func10, Tryd.ntmps10
      go_wp2_with fail
      refine HF.out.mono ?_
      rintro e w1 ⟨rfl, rfl⟩
      go_wp2_with fail
      refine HP.out.mono ?_
      rintro e w1 ⟨rfl, hb1⟩
      go_wp2_with fail
      refine (HQ.out _ (hm.keeps hb1)).mono ?_
      rintro e w2 ⟨v, rfl, hov, hb2⟩
      obtain ⟨av, cv, rfl, hrow, hcap⟩ := hov.read
      have hb3 := hb1.trans (hb2.mono hb1.size)
      have HS := Lib.hid (rsame_any a av cap cv l l w2 hl (ha.keeps hb3) hrow)
      rw [show decide (l = l) = true from decide_eq_true rfl] at HS
      clear hov hrow
      go_wp2_with fail
      refine HS.out.mono ?_
      rintro e w3 ⟨rfl, n3, rfl⟩
      have hb4 := belowDrew hb3 n3
      generalize w2.drewN n3 = w4 at *
      by_cases ht : s.size ≤ 10000
      · have HT := Lib.hid fun W hM => parse_any s W (by omega) hM
        have HPB := Lib.hid (parse_print (l := s.data.toList))
        have HPS := Lib.hid (parse_small (t := s.data.toList))
        have HPX := Lib.hid (parse_bad (l := s.data.toList))
        have hlen := parse_len s.data.toList
        generalize parseG s.data.toList = R at *
        obtain ⟨m, f⟩ := R
        dsimp only at HT HPB HPS HPX hlen
        by_cases hf0 : f = 0
        · have hmp := HPB.out hf0
          have hms : ∀ x ∈ m, x.text.size ≤ 100000 := fun x hx => by
            have := HPS.out hf0 x hx
            rw [← size_eq] at this
            omega
          subst hf0
          have HW := Lib.hid fun a c W h hM => print_any a c m W hlen hms h hM
          rw [hmp, ba_back] at HW
          clear hmp hms HPB HPS HPX
          go_wp2_with fail
          refine (HT.out _ (hm.keeps hb4)).mono ?_
          rintro e wy ⟨v, rfl, hov, hby⟩
          obtain ⟨av, cv, rfl, hrow, hcap⟩ := hov.read
          have hbq := hb4.trans (hby.mono hb4.size)
          clear hov
          go_wp2_with fail
          refine (HW.out _ _ _ hrow (hm.keeps hbq)).mono ?_
          rintro e wx ⟨rfl, hbx⟩
          have hbp := hbq.trans (hbx.mono hbq.size)
          have es := str_eq (rfl : s = s)
          go_wp2_with fail
          refine (HAW.out _ (hm.keeps hbp)).mono ?_
          rintro e wz ⟨rfl, hbz⟩
          go_wp2_with fail
          go_ret
          exact ⟨rfl, hbp.trans (hbz.mono hbp.size)⟩
        · have hmn := HPX.out hf0
          have ef : (f != 0) = true := by rw [bne_iff_ne]; exact hf0
          subst hmn
          go_wp2_with fail
          refine (HT.out _ (hm.keeps hb4)).mono ?_
          rintro e wy ⟨v, rfl, hov, hby⟩
          obtain ⟨av, cv, rfl, hrow, hcap⟩ := hov.read
          have hbq := hb4.trans (hby.mono hb4.size)
          clear hov
          go_wp2_with fail
          refine (HAW.out _ (hm.keeps hbq)).mono ?_
          rintro e wz ⟨rfl, hbz⟩
          go_wp2_with fail
          go_ret
          exact ⟨rfl, hbq.trans (hbz.mono hbq.size)⟩
      · go_wp2_with fail
        refine (HAW.out _ (hm.keeps hb4)).mono ?_
        rintro e wz ⟨rfl, hbz⟩
        go_wp2_with fail
        go_ret
        exact ⟨rfl, hb4.trans (hbz.mono hb4.size)⟩
    · have e0 : ((printG l).2 == 0) = false := by rw [beq_eq_false_iff_ne]; exact h0
      have hov0 : ∃ m f, parseG (printG l).1 = (m, f) := ⟨_, _, rfl⟩
      obtain ⟨m0, f0, hq0⟩ := hov0
      rw [hq0] at HQ
      dsimp only at HQ
      generalize ba (printG l).1 = R at *
      generalize (printG l).2 = E at *
      clear h0 hq0 hsz
      go_enter Tryd.func10, Tryd.ntmps10
      go_wp2_with fail
      refine HF.out.mono ?_
      rintro e w1 ⟨rfl, rfl⟩
      go_wp2_with fail
      refine HP.out.mono ?_
      rintro e w1 ⟨rfl, hb1⟩
      go_wp2_with fail
      refine (HQ.out _ (hm.keeps hb1)).mono ?_
      rintro e w2 ⟨v, rfl, hov, hb2⟩
      have hb4 := hb1.trans (hb2.mono hb1.size)
      clear hov
      by_cases ht : s.size ≤ 10000
      · have HT := Lib.hid fun W hM => parse_any s W (by omega) hM
        have HPB := Lib.hid (parse_print (l := s.data.toList))
        have HPS := Lib.hid (parse_small (t := s.data.toList))
        have HPX := Lib.hid (parse_bad (l := s.data.toList))
        have hlen := parse_len s.data.toList
        generalize parseG s.data.toList = R at *
        obtain ⟨m, f⟩ := R
        dsimp only at HT HPB HPS HPX hlen
        by_cases hf0 : f = 0
        · have hmp := HPB.out hf0
          have hms : ∀ x ∈ m, x.text.size ≤ 100000 := fun x hx => by
            have := HPS.out hf0 x hx
            rw [← size_eq] at this
            omega
          subst hf0
          have HW := Lib.hid fun a c W h hM => print_any a c m W hlen hms h hM
          rw [hmp, ba_back] at HW
          clear hmp hms HPB HPS HPX
          go_wp2_with fail
          refine (HT.out _ (hm.keeps hb4)).mono ?_
          rintro e wy ⟨v, rfl, hov, hby⟩
          obtain ⟨av, cv, rfl, hrow, hcap⟩ := hov.read
          have hbq := hb4.trans (hby.mono hb4.size)
          clear hov
          go_wp2_with fail
          refine (HW.out _ _ _ hrow (hm.keeps hbq)).mono ?_
          rintro e wx ⟨rfl, hbx⟩
          have hbp := hbq.trans (hbx.mono hbq.size)
          have es := str_eq (rfl : s = s)
          go_wp2_with fail
          refine (HAW.out _ (hm.keeps hbp)).mono ?_
          rintro e wz ⟨rfl, hbz⟩
          go_wp2_with fail
          go_ret
          exact ⟨rfl, hbp.trans (hbz.mono hbp.size)⟩
        · have hmn := HPX.out hf0
          have ef : (f != 0) = true := by rw [bne_iff_ne]; exact hf0
          subst hmn
          go_wp2_with fail
          refine (HT.out _ (hm.keeps hb4)).mono ?_
          rintro e wy ⟨v, rfl, hov, hby⟩
          obtain ⟨av, cv, rfl, hrow, hcap⟩ := hov.read
          have hbq := hb4.trans (hby.mono hb4.size)
          clear hov
          go_wp2_with fail
          refine (HAW.out _ (hm.keeps hbq)).mono ?_
          rintro e wz ⟨rfl, hbz⟩
          go_wp2_with fail
          go_ret
          exact ⟨rfl, hbq.trans (hbz.mono hbq.size)⟩
      · go_wp2_with fail
        refine (HAW.out _ (hm.keeps hb4)).mono ?_
        rintro e wz ⟨rfl, hbz⟩
        go_wp2_with fail
        go_ret
        exact ⟨rfl, hb4.trans (hbz.mono hb4.size)⟩
set_option maxRecDepth 100000 in
set_option maxHeartbeats 3200000 in
theorem law_globOver (a b c : ByteArray) (w : World) (hm : MaxAt w) : Calls Tryd.prog 8 #[.string a, .string b, .string c] w fun e w' => e = .returned (.bool true) ∧ Below w.heap.size w w' := by
  have HAW := Lib.hid fun W hM => awake_any W hM
  by_cases h1 : a.size ≤ 1000
  · by_cases h2 : b.size ≤ 1000
    · by_cases h3 : c.size ≤ 1000
      · by_cases h4 : b = ⟨#[46]⟩
        · have e4 : (b.toList == [46]) = true := by rw [h4, toList_data]; rfl
          clear h4
          go_enter Tryd.func8, Tryd.ntmps8
          go_wp2_with fail
          refine (HAW.out _ hm).mono ?_
          rintro e wz ⟨rfl, hbz⟩
          go_wp2_with fail
          go_ret
          exact ⟨rfl, hbz⟩
        · have e4 := dot_ne h4
          have HT := Lib.hid (within_trans (a := a) (c := c) h4)
          have HAB := Lib.hid fun W => within_any a b W (by omega)
          have HBC := Lib.hid fun W => within_any b c W (by omega)
          have HAC := Lib.hid fun W => within_any a c W (by omega)
          have HAA := Lib.hid fun W => within_any a a W (by omega)
          have HAD := Lib.hid fun W => within_any a ⟨#[46]⟩ W (by decide)
          have HPA := Lib.hid fun W hM => path_any a W (by omega) hM
          have HPB := Lib.hid fun W hM => path_any b W (by omega) hM
          have HJ := Lib.hid fun (hp : pathG b.data.toList = true) => (fun (W : World) => (by have := within_any (a ++ ⟨#[47]⟩ ++ b) a W (by omega); rwa [within_join hp] at this) : ∀ W : World, Calls Tryd.prog 17 #[.string (a ++ ⟨#[47]⟩ ++ b), .string a] W fun e w' => e = .returned (.bool true) ∧ W = w')
          rw [within_self] at HAA
          rw [within_all] at HAD
          have hA1 : ¬ (a.size + 1 > 9223372036854775807) := by omega
          have hA2 : a.size + 1 ≤ 9223372036854775807 := by omega
          have hA3 : ¬ (a.size + 1 + b.size > 9223372036854775807) := by omega
          have hA4 : a.size + 1 + b.size ≤ 9223372036854775807 := by omega
          clear h4
          generalize withinG a c = ac at *
          generalize pathG a.data.toList = pa at *
          generalize pathG b.data.toList = pb at *
          obtain ⟨ab, hab⟩ : ∃ ab, withinG a b = ab := ⟨_, rfl⟩
          obtain ⟨bc, hbc⟩ : ∃ bc, withinG b c = bc := ⟨_, rfl⟩
          rw [hab] at HAB HT
          rw [hbc] at HBC HT
          clear hab hbc
          cases ab with
          | false =>
            go_enter Tryd.func8, Tryd.ntmps8
            go_wp2_with fail
            refine (HAB.out _).mono ?_
            rintro e w1 ⟨rfl, rfl⟩
            go_wp2_with fail
            refine (HAA.out _).mono ?_
            rintro e w1 ⟨rfl, rfl⟩
            go_wp2_with fail
            refine (HAD.out _).mono ?_
            rintro e w1 ⟨rfl, rfl⟩
            cases pa with
            | false =>
              go_wp2_with fail
              refine (HPA.out _ hm).mono ?_
              rintro e w1 ⟨rfl, hb1⟩
              go_wp2_with fail
              refine (HAW.out _ (hm.keeps hb1)).mono ?_
              rintro e wz ⟨rfl, hbz⟩
              go_wp2_with fail
              go_ret
              exact ⟨rfl, hb1.trans (hbz.mono hb1.size)⟩
            | true =>
              go_wp2_with fail
              refine (HPA.out _ hm).mono ?_
              rintro e w1 ⟨rfl, hb1⟩
              cases hpb : pb with
              | false =>
                rw [hpb] at HPB
                go_wp2_with fail
                refine (HPB.out _ (hm.keeps hb1)).mono ?_
                rintro e w2 ⟨rfl, hb2⟩
                have hb3 := hb1.trans (hb2.mono hb1.size)
                go_wp2_with fail
                refine (HAW.out _ (hm.keeps hb3)).mono ?_
                rintro e wz ⟨rfl, hbz⟩
                go_wp2_with fail
                go_ret
                exact ⟨rfl, hb3.trans (hbz.mono hb3.size)⟩
              | true =>
                rw [hpb] at HPB
                have HJ := Lib.hid (HJ.out hpb)
                clear hpb
                go_wp2_with fail
                refine (HPB.out _ (hm.keeps hb1)).mono ?_
                rintro e w2 ⟨rfl, hb2⟩
                have hb3 := hb1.trans (hb2.mono hb1.size)
                go_wp2_with fail
                refine (HJ.out _).mono ?_
                rintro e w3 ⟨rfl, rfl⟩
                go_wp2_with fail
                refine (HAW.out _ (hm.keeps hb3)).mono ?_
                rintro e wz ⟨rfl, hbz⟩
                go_wp2_with fail
                go_ret
                exact ⟨rfl, hb3.trans (hbz.mono hb3.size)⟩
          | true =>
            cases bc with
            | false =>
              go_enter Tryd.func8, Tryd.ntmps8
              go_wp2_with fail
              refine (HAB.out _).mono ?_
              rintro e w1 ⟨rfl, rfl⟩
              go_wp2_with fail
              refine (HBC.out _).mono ?_
              rintro e w1 ⟨rfl, rfl⟩
              go_wp2_with fail
              refine (HAA.out _).mono ?_
              rintro e w1 ⟨rfl, rfl⟩
              go_wp2_with fail
              refine (HAD.out _).mono ?_
              rintro e w1 ⟨rfl, rfl⟩
              cases pa with
              | false =>
                go_wp2_with fail
                refine (HPA.out _ hm).mono ?_
                rintro e w1 ⟨rfl, hb1⟩
                go_wp2_with fail
                refine (HAW.out _ (hm.keeps hb1)).mono ?_
                rintro e wz ⟨rfl, hbz⟩
                go_wp2_with fail
                go_ret
                exact ⟨rfl, hb1.trans (hbz.mono hb1.size)⟩
              | true =>
                go_wp2_with fail
                refine (HPA.out _ hm).mono ?_
                rintro e w1 ⟨rfl, hb1⟩
                cases hpb : pb with
                | false =>
                  rw [hpb] at HPB
                  go_wp2_with fail
                  refine (HPB.out _ (hm.keeps hb1)).mono ?_
                  rintro e w2 ⟨rfl, hb2⟩
                  have hb3 := hb1.trans (hb2.mono hb1.size)
                  go_wp2_with fail
                  refine (HAW.out _ (hm.keeps hb3)).mono ?_
                  rintro e wz ⟨rfl, hbz⟩
                  go_wp2_with fail
                  go_ret
                  exact ⟨rfl, hb3.trans (hbz.mono hb3.size)⟩
                | true =>
                  rw [hpb] at HPB
                  have HJ := Lib.hid (HJ.out hpb)
                  clear hpb
                  go_wp2_with fail
                  refine (HPB.out _ (hm.keeps hb1)).mono ?_
                  rintro e w2 ⟨rfl, hb2⟩
                  have hb3 := hb1.trans (hb2.mono hb1.size)
                  go_wp2_with fail
                  refine (HJ.out _).mono ?_
                  rintro e w3 ⟨rfl, rfl⟩
                  go_wp2_with fail
                  refine (HAW.out _ (hm.keeps hb3)).mono ?_
                  rintro e wz ⟨rfl, hbz⟩
                  go_wp2_with fail
                  go_ret
                  exact ⟨rfl, hb3.trans (hbz.mono hb3.size)⟩
            | true =>
              obtain rfl := HT.out rfl rfl
              go_enter Tryd.func8, Tryd.ntmps8
              go_wp2_with fail
              refine (HAB.out _).mono ?_
              rintro e w1 ⟨rfl, rfl⟩
              go_wp2_with fail
              refine (HBC.out _).mono ?_
              rintro e w1 ⟨rfl, rfl⟩
              go_wp2_with fail
              refine (HAC.out _).mono ?_
              rintro e w1 ⟨rfl, rfl⟩
              go_wp2_with fail
              refine (HAA.out _).mono ?_
              rintro e w1 ⟨rfl, rfl⟩
              go_wp2_with fail
              refine (HAD.out _).mono ?_
              rintro e w1 ⟨rfl, rfl⟩
              cases pa with
              | false =>
                go_wp2_with fail
                refine (HPA.out _ hm).mono ?_
                rintro e w1 ⟨rfl, hb1⟩
                go_wp2_with fail
                refine (HAW.out _ (hm.keeps hb1)).mono ?_
                rintro e wz ⟨rfl, hbz⟩
                go_wp2_with fail
                go_ret
                exact ⟨rfl, hb1.trans (hbz.mono hb1.size)⟩
              | true =>
                go_wp2_with fail
                refine (HPA.out _ hm).mono ?_
                rintro e w1 ⟨rfl, hb1⟩
                cases hpb : pb with
                | false =>
                  rw [hpb] at HPB
                  go_wp2_with fail
                  refine (HPB.out _ (hm.keeps hb1)).mono ?_
                  rintro e w2 ⟨rfl, hb2⟩
                  have hb3 := hb1.trans (hb2.mono hb1.size)
                  go_wp2_with fail
                  refine (HAW.out _ (hm.keeps hb3)).mono ?_
                  rintro e wz ⟨rfl, hbz⟩
                  go_wp2_with fail
                  go_ret
                  exact ⟨rfl, hb3.trans (hbz.mono hb3.size)⟩
                | true =>
                  rw [hpb] at HPB
                  have HJ := Lib.hid (HJ.out hpb)
                  clear hpb
                  go_wp2_with fail
                  refine (HPB.out _ (hm.keeps hb1)).mono ?_
                  rintro e w2 ⟨rfl, hb2⟩
                  have hb3 := hb1.trans (hb2.mono hb1.size)
                  go_wp2_with fail
                  refine (HJ.out _).mono ?_
                  rintro e w3 ⟨rfl, rfl⟩
                  go_wp2_with fail
                  refine (HAW.out _ (hm.keeps hb3)).mono ?_
                  rintro e wz ⟨rfl, hbz⟩
                  go_wp2_with fail
                  go_ret
                  exact ⟨rfl, hb3.trans (hbz.mono hb3.size)⟩
      · go_enter Tryd.func8, Tryd.ntmps8
        go_wp2_with fail
        refine (HAW.out _ hm).mono ?_
        rintro e wz ⟨rfl, hbz⟩
        go_wp2_with fail
        go_ret
        exact ⟨rfl, hbz⟩
    · go_enter Tryd.func8, Tryd.ntmps8
      go_wp2_with fail
      refine (HAW.out _ hm).mono ?_
      rintro e wz ⟨rfl, hbz⟩
      go_wp2_with fail
      go_ret
      exact ⟨rfl, hbz⟩
  · go_enter Tryd.func8, Tryd.ntmps8
    go_wp2_with fail
    refine (HAW.out _ hm).mono ?_
    rintro e wz ⟨rfl, hbz⟩
    go_wp2_with fail
    go_ret
    exact ⟨rfl, hbz⟩
end Go.Proofs.YtalkckalbmaghaaDoor
