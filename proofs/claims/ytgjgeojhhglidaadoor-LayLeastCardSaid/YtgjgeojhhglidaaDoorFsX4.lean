/-
  few, Do; the reference's in and Dir.
-/
import Derived.Test.YtgjgeojhhglidaaDoorFsX2
import Derived.Test.YtgjgeojhhglidaaDoorFsArgs
namespace Go.Proofs.YtgjgeojhhglidaaDoor
open Go Go.RowKit Go.Lib

/-- Has a call not too much? -/
def fewA (x : Ask) : Bool := decide (x.path.size ≤ 1000) && decide (x.dest.size ≤ 1000) && decide (x.data.size ≤ 5000)
set_option maxRecDepth 100000 in
theorem few19_any (x : Ask) (w : World) : Calls Tryd.prog 14 #[x.val] w fun e w' => e = .returned (.bool (fewA x)) ∧ Below w.heap.size w w' := by
  obtain ⟨xk, xp, xt, xs⟩ := x
  show Calls _ _ #[.agg #[.int .i64 xk, .string xp, .string xt, .string xs]] _ _
  have hb := (Below.refl w.heap.size w).alloc (Nat.le_refl _) (.cells #[.int .i64 xk, .string xp, .string xt, .string xs] 30)
  by_cases h1 : xp.size ≤ 1000
  · have g1 : (xp.size : Int) ≤ 1000 := by omega
    by_cases h2 : xt.size ≤ 1000
    · have g2 : (xt.size : Int) ≤ 1000 := by omega
      by_cases h3 : xs.size ≤ 5000
      · have g3 : (xs.size : Int) ≤ 5000 := by omega
        have Hr := Lib.hid (show fewA ⟨xk, xp, xt, xs⟩ = true by unfold fewA; simp [h1, h2, h3])
        clear h1 h2 h3
        go_enter Tryd.func14, Tryd.ntmps14
        go_wp2_with fail
        go_ret
        exact ⟨ret_bool Hr.out.symm, hb⟩
      · have g3 : ¬ ((xs.size : Int) ≤ 5000) := by omega
        have Hr := Lib.hid (show fewA ⟨xk, xp, xt, xs⟩ = false by unfold fewA; simp [h3])
        clear h1 h2 h3
        go_enter Tryd.func14, Tryd.ntmps14
        go_wp2_with fail
        go_ret
        exact ⟨ret_bool Hr.out.symm, hb⟩
    · have g2 : ¬ ((xt.size : Int) ≤ 1000) := by omega
      have Hr := Lib.hid (show fewA ⟨xk, xp, xt, xs⟩ = false by unfold fewA; simp [h2])
      clear h1 h2
      go_enter Tryd.func14, Tryd.ntmps14
      go_wp2_with fail
      go_ret
      exact ⟨ret_bool Hr.out.symm, hb⟩
  · have g1 : ¬ ((xp.size : Int) ≤ 1000) := by omega
    have Hr := Lib.hid (show fewA ⟨xk, xp, xt, xs⟩ = false by unfold fewA; simp [h1])
    clear h1
    go_enter Tryd.func14, Tryd.ntmps14
    go_wp2_with fail
    go_ret
    exact ⟨ret_bool Hr.out.symm, hb⟩
theorem few_sizes {x : Ask} (h : fewA x = true) : x.path.size ≤ 1000 ∧ x.dest.size ≤ 1000 ∧ x.data.size ≤ 5000 := by
  unfold fewA at h
  simp only [Bool.and_eq_true, decide_eq_true_eq] at h
  exact ⟨h.1.1, h.1.2, h.2⟩
theorem op_0 {f : Fs} {x : Ask} (h : x.ask = 0) : opF f x = mkdirF f x.path := if_pos h
theorem op_1 {f : Fs} {x : Ask} (h : x.ask = 1) : opF f x = writeF f x.path x.data := by
  unfold opF
  rw [if_neg (by omega), if_pos h]
theorem op_2 {f : Fs} {x : Ask} (h : x.ask = 2) : opF f x = renameF f x.path x.dest := by
  unfold opF
  rw [if_neg (by omega), if_neg (by omega), if_pos h]
theorem op_3 {f : Fs} {x : Ask} (h0 : x.ask ≠ 0) (h1 : x.ask ≠ 1) (h2 : x.ask ≠ 2) : opF f x = removeF f x.path := by
  unfold opF
  rw [if_neg h0, if_neg h1, if_neg h2]
theorem int_ne {a b : Int} (h : a ≠ b) : (a == b) = false := beq_eq_false_iff_ne.2 h
set_option maxRecDepth 100000 in
set_option maxHeartbeats 1600000 in
/-- **Do.** -/
theorem fdo_any (fb mb : Nat) (f : Fs) (x : Ask) (w : World) (h : FAt w fb mb f) (hok : FsOK f) (hn : f.n ≤ 1000000) (hp : x.path.size ≤ 100000) (ht : x.dest.size ≤ 100000) (hm : MaxAt w) :
    Calls Tryd.prog 16 #[.pointer (some ⟨fb, 0, none⟩), x.val] w fun e w' => e = .returned (.int .i64 (opF f x).2) ∧ ∃ mb', FAt w' fb mb' (opF f x).1 ∧ (mb' = mb ∨ w.heap.size ≤ mb') ∧ Turned (FsS fb mb) w.heap.size w w' := by
  have H0 := op_0 (f := f) (x := x)
  have H1 := op_1 (f := f) (x := x)
  have H2 := op_2 (f := f) (x := x)
  have H3 := op_3 (f := f) (x := x)
  obtain ⟨r, hr⟩ : ∃ r, opF f x = r := ⟨_, rfl⟩
  rw [hr] at H0 H1 H2 H3 ⊢
  clear hr
  obtain ⟨xk, xp, xt, xs⟩ := x
  dsimp only at H0 H1 H2 H3 hp ht
  show Calls _ _ #[_, .agg #[.int .i64 xk, .string xp, .string xt, .string xs]] _ _
  have hb := (Below.refl w.heap.size w).alloc (Nat.le_refl _) (.cells #[.int .i64 xk, .string xp, .string xt, .string xs] 30)
  have hF := h.below hb
  have hM := hm.keeps hb
  have hfew := hok.few
  by_cases h0 : xk = 0
  · have Hr := Lib.hid (H0 h0)
    have HC := Lib.hid (fmkdir_any fb mb f xp _ hF hp hfew hn hM)
    subst h0
    clear H0 H1 H2 H3
    go_enter Tryd.func16, Tryd.ntmps16
    go_wp2_with fail
    refine HC.out.mono ?_
    rintro e w1 ⟨rfl, hF1, ht1⟩
    go_wp2_with fail
    go_ret
    rw [Hr.out]
    exact ⟨rfl, mb, hF1, .inl rfl, (Turned.of_below hb (Nat.le_refl _)).trans (ht1.mono hb.size (fun _ _ h => h))⟩
  have e0 := int_ne h0
  by_cases h1 : xk = 1
  · have Hr := Lib.hid (H1 h1)
    have HC := Lib.hid (fwrite_any fb mb f xp xs _ hF hp hfew hn hM)
    subst h1
    clear H0 H1 H2 H3 h0
    go_enter Tryd.func16, Tryd.ntmps16
    go_wp2_with fail
    refine HC.out.mono ?_
    rintro e w1 ⟨rfl, hF1, ht1⟩
    go_wp2_with fail
    go_ret
    rw [Hr.out]
    exact ⟨rfl, mb, hF1, .inl rfl, (Turned.of_below hb (Nat.le_refl _)).trans (ht1.mono hb.size (fun _ _ h => h))⟩
  have e1 := int_ne h1
  by_cases h2 : xk = 2
  · have Hr := Lib.hid (H2 h2)
    have HC := Lib.hid (frename_any fb mb f xp xt _ hF hok hp ht hM)
    subst h2
    clear H0 H1 H2 H3 h0 h1
    go_enter Tryd.func16, Tryd.ntmps16
    go_wp2_with fail
    refine HC.out.mono ?_
    rintro e w1 ⟨rfl, mb', hF1, hmb, ht1⟩
    have hz := hb.size
    go_wp2_with fail
    go_ret
    rw [Hr.out]
    exact ⟨rfl, mb', hF1, hmb.imp id (fun h => Nat.le_trans hz h), (Turned.of_below hb (Nat.le_refl _)).trans (ht1.mono hb.size (fun _ _ h => h))⟩
  have e2 := int_ne h2
  have Hr := Lib.hid (H3 h0 h1 h2)
  have HC := Lib.hid (fremove_any fb mb f xp _ hF hok hp)
  clear H0 H1 H2 H3 h0 h1 h2
  go_enter Tryd.func16, Tryd.ntmps16
  go_wp2_with fail
  refine HC.out.mono ?_
  rintro e w1 ⟨rfl, hF1, ht1⟩
  go_wp2_with fail
  go_ret
  rw [Hr.out]
  exact ⟨rfl, mb, hF1, .inl rfl, (Turned.of_below hb (Nat.le_refl _)).trans (ht1.mono hb.size (fun _ _ h => h))⟩
/-- A path's directory. -/
def dirE (p : ByteArray) : ByteArray := if slashI p < 0 then ⟨#[]⟩ else p.extract 0 (slashI p).toNat
theorem dir_none {p : ByteArray} (h : ∀ (j : Nat) (b : UInt8), p.data.toList[j]? = some b → b ≠ 47) : dirE p = ⟨#[]⟩ :=
  if_pos (slash_neg fun x hx => by
    obtain ⟨j, hj⟩ := List.mem_iff_getElem?.1 hx
    exact h j x hj)
theorem dir_at {p : ByteArray} {k : Nat} (hk : p.data.toList[k]? = some 47) (h : ∀ (j : Nat) (b : UInt8), k < j → p.data.toList[j]? = some b → b ≠ 47) : dirE p = p.extract 0 k := by
  have hlt := (List.getElem?_eq_some_iff.1 hk).1
  have e1 : p.data.toList = p.data.toList.take k ++ 47 :: p.data.toList.drop (k + 1) := by
    conv => lhs; rw [← List.take_append_drop k p.data.toList]
    rw [List.drop_eq_getElem_cons hlt, (List.getElem?_eq_some_iff.1 hk).2]
  have e2 := slash_split e1 fun x hx => by
    obtain ⟨j, hj⟩ := List.mem_iff_getElem?.1 hx
    rw [List.getElem?_drop] at hj
    exact h _ x (by omega) hj
  have e3 : slashI p = (k : Nat) := by rw [e2, List.length_take, Nat.min_eq_left (by omega)]
  unfold dirE
  rw [if_neg (by omega), e3, Int.toNat_natCast]
set_option maxRecDepth 100000 in
set_option maxHeartbeats 1600000 in
/-- **Dir.** -/
theorem rdir_any (p : ByteArray) (w : World) (hp : p.size ≤ 100000) : Calls Tryd.prog 25 #[.string p] w fun e w' => e = .returned (.string (dirE p)) ∧ w' = w := by
  go_enter Tryd.func25, Tryd.ntmps25
  go_wp2_with fail
  go_loopw [3] (fun i wr => ∃ k : Nat, k ≤ p.size ∧ i = .int .i64 ((k : Int) - 1) ∧ Hid (∀ (j : Nat) (b : UInt8), k ≤ j → p.data.toList[j]? = some b → b ≠ 47) ∧ wr = w) (fun i _ => (RowKit.intOf i + 1).toNat)
  case atStart => exact ⟨p.size, Nat.le_refl _, by go_num, Lib.hid (fun j b hj hb => absurd (List.getElem?_eq_some_iff.1 hb).1 (by rw [← size_eq]; omega)), rfl⟩
  case round =>
    obtain ⟨k, hk, rfl, HK, rfl⟩ := hrel
    cases k with
    | zero =>
      have Hr := Lib.hid (dir_none fun j b hb => HK.out j b (Nat.zero_le _) hb)
      go_wp2_with fail
      go_ret
      exact ⟨by rw [Hr.out]; rfl, rfl⟩
    | succ k =>
      have hi : ((k + 1 : Nat) : Int) - 1 = (k : Int) := by omega
      rw [hi]
      clear hi
      have hlt : k < p.size := by omega
      have hlo : (k : Int) < p.size := by omega
      have hl0 : (0 : Int) ≤ (k : Int) := by omega
      have hle : (k : Int) ≤ p.size := by omega
      have hat : p.data.toList[k]? = some p[k] := by rw [List.getElem?_eq_getElem (by rw [← size_eq]; omega)]; rfl
      by_cases h : p[k] = 47
      · have e1 : ((p[k].toNat : Int) == 47) = true := by rw [h]; rfl
        rw [h] at hat
        have Hr := Lib.hid (dir_at hat fun j b hj hb => HK.out j b (by omega) hb)
        clear h hat
        go_wp2_with fail
        go_ret
        exact ⟨by rw [Hr.out]; rfl, rfl⟩
      · have e1 : ((p[k].toNat : Int) == 47) = false := byte_ne h
        have Hne := Lib.hid h
        have Hat := Lib.hid hat
        clear h hat
        go_wp2_with fail
        go_roundw
        case rel =>
          refine ⟨k, by omega, by go_num, Lib.hid (fun j b hj hb => ?_), by first | rfl | trivial⟩
          by_cases e : j = k
          · subst e
            rw [Hat.out] at hb
            cases hb
            exact Hne.out
          · exact HK.out j b (by omega) hb
        case measure => simp [RowKit.intOf]
set_option maxRecDepth 100000 in
set_option maxHeartbeats 800000 in
/-- **in.** -/
theorem rin_any (p d : ByteArray) (w : World) (hd : d.size ≤ 100000) :
    Calls Tryd.prog 43 #[.string p, .string d] w fun e w' => e = .returned (.bool (underB p d)) ∧ w' = w := by
  by_cases h1 : d.size + 1 < p.size
  · have hlo : (d.size : Int) < p.size := by omega
    have hlt3 : d.size < p.size := by omega
    by_cases h2 : p.extract 0 d.size = d
    · have e3 := str_eq h2
      by_cases h3 : p[d.size] = 47
      · have e4 : ((p[d.size].toNat : Int) == 47) = true := by rw [h3]; rfl
        have Hr := Lib.hid (under_yes h1 h2 h3)
        clear h2 h3
        go_enter Tryd.func43, Tryd.ntmps43
        go_wp2_with fail
        go_ret
        exact ⟨ret_bool Hr.out.symm, rfl⟩
      · have e4 : ((p[d.size].toNat : Int) == 47) = false := byte_ne h3
        have Hr := Lib.hid (under_no3 hlt3 h3)
        clear h2 h3
        go_enter Tryd.func43, Tryd.ntmps43
        go_wp2_with fail
        go_ret
        exact ⟨ret_bool Hr.out.symm, rfl⟩
    · have e3 := str_ne h2
      have Hr := Lib.hid (under_no2 h2)
      clear h2
      go_enter Tryd.func43, Tryd.ntmps43
      go_wp2_with fail
      go_ret
      exact ⟨ret_bool Hr.out.symm, rfl⟩
  · have hu : underB p d = false := by unfold underB; simp [h1]
    have Hr := Lib.hid hu
    clear hu
    have h1 : ¬ ((d.size : Int) + 1 < p.size) := by omega
    go_enter Tryd.func43, Tryd.ntmps43
    go_wp2_with fail
    go_ret
    exact ⟨ret_bool Hr.out.symm, rfl⟩
end Go.Proofs.YtgjgeojhhglidaaDoor
