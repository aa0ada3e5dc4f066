/-
  The chapter's examples; the laws of glob that have no loop of their own.
-/
import Derived.Test.YtalkckalbmaghaaDoorGlp14
import Derived.Test.YtalkckalbmaghaaDoorGlp9
import Derived.Test.YtalkckalbmaghaaDoorGlobW6
namespace Go.Proofs.YtalkckalbmaghaaDoor
open Go Go.RowKit Go.Lib

def exR : List Rul := [⟨1, ⟨#[97]⟩⟩, ⟨2, ⟨#[97, 47, 98]⟩⟩, ⟨3, ⟨#[103, 111]⟩⟩]
theorem ex_parse : parseG [119, 105, 116, 104, 32, 97, 10, 119, 105, 116, 104, 111, 117, 116, 32, 97, 47, 98, 10, 116, 121, 112, 101, 32, 103, 111, 10] = (exR, 0) := by decide +kernel
theorem ex_small : ∀ x ∈ exR, x.text.size ≤ 100000 := by decide +kernel
theorem ex_m0 : matchG exR ⟨#[97, 47, 120, 46, 103, 111]⟩ false = true := by decide +kernel
theorem ex_m1 : matchG exR ⟨#[97, 47, 98, 47, 120, 46, 103, 111]⟩ false = false := by decide +kernel
theorem ex_m2 : matchG exR ⟨#[97, 47, 120, 46, 116, 120, 116]⟩ false = false := by decide +kernel
theorem ex_m3 : matchG exR ⟨#[97]⟩ true = true := by decide +kernel
theorem ex_m4 : matchG exR ⟨#[99, 47, 120, 46, 103, 111]⟩ false = false := by decide +kernel
set_option maxRecDepth 100000 in
set_option maxHeartbeats 1600000 in
theorem awake_any (w : World) (hm : MaxAt w) : Calls Tryd.prog 11 #[] w fun e w' => e = .returned (.bool true) ∧ Below w.heap.size w w' := by
  have HP := Lib.hid (parse_any ⟨#[119, 105, 116, 104, 32, 97, 10, 119, 105, 116, 104, 111, 117, 116, 32, 97, 47, 98, 10, 116, 121, 112, 101, 32, 103, 111, 10]⟩ w (by decide) hm)
  rw [show (⟨#[119, 105, 116, 104, 32, 97, 10, 119, 105, 116, 104, 111, 117, 116, 32, 97, 47, 98, 10, 116, 121, 112, 101, 32, 103, 111, 10]⟩ : ByteArray).data.toList = [119, 105, 116, 104, 32, 97, 10, 119, 105, 116, 104, 111, 117, 116, 32, 97, 47, 98, 10, 116, 121, 112, 101, 32, 103, 111, 10] from rfl, ex_parse] at HP
  have HM0 := Lib.hid fun a c W h => match_any a c exR ⟨#[97, 47, 120, 46, 103, 111]⟩ false W ex_small (by decide) (by decide) h
  rw [ex_m0] at HM0
  have HM1 := Lib.hid fun a c W h => match_any a c exR ⟨#[97, 47, 98, 47, 120, 46, 103, 111]⟩ false W ex_small (by decide) (by decide) h
  rw [ex_m1] at HM1
  have HM2 := Lib.hid fun a c W h => match_any a c exR ⟨#[97, 47, 120, 46, 116, 120, 116]⟩ false W ex_small (by decide) (by decide) h
  rw [ex_m2] at HM2
  have HM3 := Lib.hid fun a c W h => match_any a c exR ⟨#[97]⟩ true W ex_small (by decide) (by decide) h
  rw [ex_m3] at HM3
  have HM4 := Lib.hid fun a c W h => match_any a c exR ⟨#[99, 47, 120, 46, 103, 111]⟩ false W ex_small (by decide) (by decide) h
  rw [ex_m4] at HM4
  obtain ⟨l, hl⟩ : ∃ l, l = exR := ⟨_, rfl⟩
  have hlen : ((l.length : Int) == 3) = true := by rw [hl]; rfl
  rw [← hl] at HP HM0 HM1 HM2 HM3 HM4
  clear hl
  go_enter Tryd.func11, Tryd.ntmps11
  go_wp2_with fail
  refine HP.out.mono ?_
  rintro e w1 ⟨v, rfl, hov, hb1⟩
  obtain ⟨av, cv, rfl, hrow, hcap⟩ := hov.read
  clear hov HP
  go_wp2_with fail
  refine (HM0.out _ _ _ hrow).mono ?_
  rintro e w2 ⟨rfl, hb2⟩
  replace hb1 := hb1.trans (hb2.mono hb1.size)
  replace hrow := hrow.keeps hb2
  go_wp2_with fail
  refine (HM1.out _ _ _ hrow).mono ?_
  rintro e w3 ⟨rfl, hb3⟩
  replace hb1 := hb1.trans (hb3.mono hb1.size)
  replace hrow := hrow.keeps hb3
  go_wp2_with fail
  refine (HM2.out _ _ _ hrow).mono ?_
  rintro e w4 ⟨rfl, hb4⟩
  replace hb1 := hb1.trans (hb4.mono hb1.size)
  replace hrow := hrow.keeps hb4
  go_wp2_with fail
  refine (HM3.out _ _ _ hrow).mono ?_
  rintro e w5 ⟨rfl, hb5⟩
  replace hb1 := hb1.trans (hb5.mono hb1.size)
  replace hrow := hrow.keeps hb5
  go_wp2_with fail
  refine (HM4.out _ _ _ hrow).mono ?_
  rintro e w6 ⟨rfl, hb6⟩
  replace hb1 := hb1.trans (hb6.mono hb1.size)
  replace hrow := hrow.keeps hb6
  go_wp2_with fail
  go_ret
  exact ⟨rfl, hb1⟩
theorem goG_len : ∀ (ls : List (List UInt8)) (acc m : List Rul), goG acc ls = some m → m.length = acc.length + ls.length
  | [], acc, m, h => by
    cases h
    rfl
  | l :: ls, acc, m, h => by
    have e1 : goG acc (l :: ls) = if (lineG l).2 then goG (acc ++ [(lineG l).1]) ls else none := rfl
    rw [e1] at h
    split at h
    · have := goG_len ls _ m h
      simp only [List.length_append, List.length_cons, List.length_nil] at this ⊢
      omega
    · cases h
theorem parse_len (l : List UInt8) : (parseG l).1.length ≤ 140737488351232 := by
  by_cases h : (parseG l).2 = 0
  · have h1 := parse_print h
    have h2 : ¬ 16 < (parseG l).1.length := by
      intro hb
      rw [print_big hb] at h1
      cases h1
    omega
  · rw [parse_bad h]
    exact Nat.zero_le _
set_option maxRecDepth 100000 in
set_option maxHeartbeats 1600000 in
theorem law_globParses (s : ByteArray) (w : World) (hm : MaxAt w) : Calls Tryd.prog 3 #[.string s] w fun e w' => e = .returned (.bool true) ∧ Below w.heap.size w w' := by
  have HAW := Lib.hid fun W hM => awake_any W hM
  by_cases hl : s.size ≤ 10000
  · have HP := Lib.hid (parse_any s w (by omega) hm)
    have HQ := Lib.hid fun W => rparse_any s W (by omega)
    have hlen : (parseG s.data.toList).1.length ≤ 140737488351232 := parse_len s.data.toList
    generalize parseG s.data.toList = R at *
    obtain ⟨rs, f⟩ := R
    dsimp only at HP HQ hlen
    go_enter Tryd.func3, Tryd.ntmps3
    go_wp2_with fail
    refine HP.out.mono ?_
    rintro e w1 ⟨v, rfl, hov, hb1⟩
    obtain ⟨av, cv, rfl, hrow, hcap⟩ := hov.read
    go_wp2_with fail
    refine (HQ.out _).mono ?_
    rintro e w2 ⟨v, rfl, hov2, hb2⟩
    obtain ⟨av2, cv2, rfl, hrow2, hcap2⟩ := hov2.read
    have HS := Lib.hid (rsame_any av av2 cv cv2 rs rs w2 hlen (hrow.keeps hb2) hrow2)
    rw [show decide (rs = rs) = true from decide_eq_true rfl] at HS
    have hb3 := hb1.trans (hb2.mono hb1.size)
    clear hov hov2 hrow hrow2
    go_wp2_with fail
    refine HS.out.mono ?_
    rintro e w3 ⟨rfl, n3, rfl⟩
    have hb4 := belowDrew hb3 n3
    go_wp2_with fail
    refine (HAW.out _ (hm.keeps hb4)).mono ?_
    rintro e w4 ⟨rfl, hb5⟩
    go_wp2_with fail
    go_ret
    exact ⟨rfl, hb4.trans (hb5.mono hb4.size)⟩
  · go_enter Tryd.func3, Tryd.ntmps3
    go_wp2_with fail
    refine (HAW.out _ hm).mono ?_
    rintro e w1 ⟨rfl, hb1⟩
    go_wp2_with fail
    go_ret
    exact ⟨rfl, hb1⟩
set_option maxRecDepth 100000 in
set_option maxHeartbeats 1600000 in
theorem law_globPath (s : ByteArray) (w : World) (hm : MaxAt w) : Calls Tryd.prog 4 #[.string s] w fun e w' => e = .returned (.bool true) ∧ Below w.heap.size w w' := by
  have HAW := Lib.hid fun W hM => awake_any W hM
  by_cases hl : s.size ≤ 10000
  · have HP := Lib.hid (path_any s w (by omega) hm)
    have HQ := Lib.hid fun W => rpath_any s W (by omega)
    generalize pathG s.data.toList = R at *
    go_enter Tryd.func4, Tryd.ntmps4
    go_wp2_with fail
    refine HP.out.mono ?_
    rintro e w1 ⟨rfl, hb1⟩
    go_wp2_with fail
    refine (HQ.out _).mono ?_
    rintro e w2 ⟨rfl, hb2⟩
    have hb3 := hb1.trans (hb2.mono hb1.size)
    have eR : (R == R) = true := beq_self_eq_true R
    go_wp2_with fail
    refine (HAW.out _ (hm.keeps hb3)).mono ?_
    rintro e w4 ⟨rfl, hb5⟩
    go_wp2_with fail
    go_ret
    exact ⟨rfl, hb3.trans (hb5.mono hb3.size)⟩
  · go_enter Tryd.func4, Tryd.ntmps4
    go_wp2_with fail
    refine (HAW.out _ hm).mono ?_
    rintro e w1 ⟨rfl, hb1⟩
    go_wp2_with fail
    go_ret
    exact ⟨rfl, hb1⟩
set_option maxRecDepth 100000 in
set_option maxHeartbeats 1600000 in
theorem law_globWithin (p d : ByteArray) (w : World) (hm : MaxAt w) : Calls Tryd.prog 5 #[.string p, .string d] w fun e w' => e = .returned (.bool true) ∧ Below w.heap.size w w' := by
  have HAW := Lib.hid fun W hM => awake_any W hM
  by_cases h1 : p.size ≤ 10000
  · by_cases h2 : d.size ≤ 10000
    · have HP := Lib.hid fun W => within_any p d W (by omega)
      have HQ := Lib.hid fun W => rwithin_any p d W (by omega)
      generalize withinG p d = R at *
      go_enter Tryd.func5, Tryd.ntmps5
      go_wp2_with fail
      refine (HP.out _).mono ?_
      rintro e w1 ⟨rfl, rfl⟩
      go_wp2_with fail
      refine (HQ.out _).mono ?_
      rintro e w1 ⟨rfl, rfl⟩
      have eR : (R == R) = true := beq_self_eq_true R
      go_wp2_with fail
      refine (HAW.out _ hm).mono ?_
      rintro e w4 ⟨rfl, hb5⟩
      go_wp2_with fail
      go_ret
      exact ⟨rfl, hb5⟩
    · go_enter Tryd.func5, Tryd.ntmps5
      go_wp2_with fail
      refine (HAW.out _ hm).mono ?_
      rintro e w1 ⟨rfl, hb1⟩
      go_wp2_with fail
      go_ret
      exact ⟨rfl, hb1⟩
  · go_enter Tryd.func5, Tryd.ntmps5
    go_wp2_with fail
    refine (HAW.out _ hm).mono ?_
    rintro e w1 ⟨rfl, hb1⟩
    go_wp2_with fail
    go_ret
    exact ⟨rfl, hb1⟩
set_option maxRecDepth 100000 in
set_option maxHeartbeats 1600000 in
theorem law_globMatches (a : Option Addr) (cap : Nat) (l : List Rul) (p : ByteArray) (dir : Bool) (w : World) (hl : l.length ≤ 140737488351232) (ha : RowsAt rulLay w a l) (hm : MaxAt w) : Calls Tryd.prog 6 #[.slice a l.length cap, .string p, .bool dir] w fun e w' => e = .returned (.bool true) ∧ Below w.heap.size w w' := by
  have HAW := Lib.hid fun W hM => awake_any W hM
  have HF := Lib.hid (few09_any a cap l w hl ha)
  cases hf : fewR 100 1000 l with
  | false =>
    rw [hf] at HF
    go_enter Tryd.func6, Tryd.ntmps6
    go_wp2_with fail
    refine HF.out.mono ?_
    rintro e w1 ⟨rfl, rfl⟩
    go_wp2_with fail
    refine (HAW.out _ hm).mono ?_
    rintro e w1 ⟨rfl, hb1⟩
    go_wp2_with fail
    go_ret
    exact ⟨rfl, hb1⟩
  | true =>
    rw [hf] at HF
    obtain ⟨hl1, hsz⟩ := fewR_parts hf
    by_cases h1 : p.size ≤ 1000
    · have HP := Lib.hid fun W h => match_any a cap l p dir W (fun x hx => by have := hsz x hx; omega) (by omega) (by omega) h
      have HQ := Lib.hid fun W h => rmatch_any a cap l p dir W (fun x hx => by have := hsz x hx; omega) (by omega) (by omega) h
      generalize matchG l p dir = R at *
      go_enter Tryd.func6, Tryd.ntmps6
      go_wp2_with fail
      refine HF.out.mono ?_
      rintro e w1 ⟨rfl, rfl⟩
      go_wp2_with fail
      refine (HP.out _ ha).mono ?_
      rintro e w1 ⟨rfl, hb1⟩
      go_wp2_with fail
      refine (HQ.out _ (ha.keeps hb1)).mono ?_
      rintro e w2 ⟨rfl, hb2⟩
      have hb3 := hb1.trans (hb2.mono hb1.size)
      have eR : (R == R) = true := beq_self_eq_true R
      go_wp2_with fail
      refine (HAW.out _ (hm.keeps hb3)).mono ?_
      rintro e w4 ⟨rfl, hb5⟩
      go_wp2_with fail
      go_ret
      exact ⟨rfl, hb3.trans (hb5.mono hb3.size)⟩
    · go_enter Tryd.func6, Tryd.ntmps6
      go_wp2_with fail
      refine HF.out.mono ?_
      rintro e w1 ⟨rfl, rfl⟩
      go_wp2_with fail
      refine (HAW.out _ hm).mono ?_
      rintro e w1 ⟨rfl, hb1⟩
      go_wp2_with fail
      go_ret
      exact ⟨rfl, hb1⟩
set_option maxRecDepth 100000 in
set_option maxHeartbeats 1600000 in
theorem law_globPrints (a : Option Addr) (cap : Nat) (l : List Rul) (w : World) (hl : l.length ≤ 140737488351232) (ha : RowsAt rulLay w a l) (hm : MaxAt w) : Calls Tryd.prog 9 #[.slice a l.length cap] w fun e w' => e = .returned (.bool true) ∧ Below w.heap.size w w' := by
  have HAW := Lib.hid fun W hM => awake_any W hM
  have HF := Lib.hid (few09_any a cap l w hl ha)
  cases hf : fewR 100 1000 l with
  | false =>
    rw [hf] at HF
    go_enter Tryd.func9, Tryd.ntmps9
    go_wp2_with fail
    refine HF.out.mono ?_
    rintro e w1 ⟨rfl, rfl⟩
    go_wp2_with fail
    refine (HAW.out _ hm).mono ?_
    rintro e w1 ⟨rfl, hb1⟩
    go_wp2_with fail
    go_ret
    exact ⟨rfl, hb1⟩
  | true =>
    rw [hf] at HF
    obtain ⟨hl1, hsz⟩ := fewR_parts hf
    have HP := Lib.hid (print_any a cap l w hl (fun x hx => by have := hsz x hx; omega) ha hm)
    have HQ := Lib.hid fun W h => rprint_any a cap l W hl (fun x hx => by have := hsz x hx; omega) h
    generalize ba (printG l).1 = R at *
    generalize (printG l).2 = E at *
    go_enter Tryd.func9, Tryd.ntmps9
    go_wp2_with fail
    refine HF.out.mono ?_
    rintro e w1 ⟨rfl, rfl⟩
    go_wp2_with fail
    refine HP.out.mono ?_
    rintro e w1 ⟨rfl, hb1⟩
    go_wp2_with fail
    refine (HQ.out _ (ha.keeps hb1)).mono ?_
    rintro e w2 ⟨rfl, hb2⟩
    have hb3 := hb1.trans (hb2.mono hb1.size)
    have eR := str_eq (rfl : R = R)
    have eE : (E == E) = true := beq_self_eq_true E
    go_wp2_with fail
    refine (HAW.out _ (hm.keeps hb3)).mono ?_
    rintro e w4 ⟨rfl, hb5⟩
    go_wp2_with fail
    go_ret
    exact ⟨rfl, hb3.trans (hb5.mono hb3.size)⟩
end Go.Proofs.YtalkckalbmaghaaDoor
