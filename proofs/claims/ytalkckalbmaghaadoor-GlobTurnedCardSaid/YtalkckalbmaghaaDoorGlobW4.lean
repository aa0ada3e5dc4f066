import Derived.Test.YtalkckalbmaghaaDoorGlobW3
namespace Go.Proofs.YtalkckalbmaghaaDoor
open Go.RowKit Go.Lib

theorem matchG_no {l : List Rul} {p : ByteArray} {dir : Bool} (h : ((bestG p l l.length).getD noRul).kind ≠ 1) : matchG l p dir = false := by
  unfold matchG
  cases hb : bestG p l l.length with
  | none => rfl
  | some y =>
    rw [hb] at h
    have h' : (y.kind == 1) = false := by rw [beq_eq_false_iff_ne]; exact h
    simp only [h', Bool.false_and]
theorem matchG_yes {l : List Rul} {p : ByteArray} {dir : Bool} (h : ((bestG p l l.length).getD noRul).kind = 1) : matchG l p dir = (dir || !l.any (fun x => x.kind == 3) || l.any fun x => x.kind == 3 && decide (x.text = endG p)) := by
  unfold matchG
  cases hb : bestG p l l.length with
  | none => rw [hb] at h; exact absurd h (by decide)
  | some y =>
    rw [hb] at h
    have h' : (y.kind == 1) = true := by rw [beq_iff_eq]; exact h
    simp only [h', Bool.true_and]
theorem fieldRule (k : Int) (t : ByteArray) (W : World) : (Instr.field 33 (.agg #[.int .i64 k, .string t]) 0).run Tryd.prog W = .ok (.int .i64 k) W := by kernel_rfl
theorem last_in (s : ByteArray) : -1 ≤ Lib.lastIndexByte s 47 ∧ Lib.lastIndexByte s 47 < s.size := by
  rcases Lib.lastIndexByte_spec s 47 with ⟨e, _⟩ | ⟨i, hi, e, _⟩
  · rw [e]; omega
  · rw [e]; omega

set_option maxRecDepth 100000 in
set_option maxHeartbeats 1600000 in
theorem match_any (a : Option Addr) (cap : Nat) (l : List Rul) (p : ByteArray) (dir : Bool) (w : World) (hsz : ∀ x ∈ l, x.text.size ≤ 100000) (hl : l.length ≤ 1000) (hp : p.size ≤ 100000) (ha : RowsAt rulLay w a l) :
    Calls Tryd.prog 20 #[.slice a l.length cap, .string p, .bool dir] w fun e w' => e = .returned (.bool (matchG l p dir)) ∧ Below w.heap.size w w' := by
  have HD := Lib.hid (decides_any a cap l p w hsz (by omega) ha)
  have HT := Lib.hid fun W (hb : Below w.heap.size w W) => typed_any a cap l W (by omega) (ha.keeps hb)
  have HC := Lib.hid fun r W (hb : Below w.heap.size w W) => hasRule_any a cap l r W (by omega) (ha.keeps hb)
  have HL := Lib.hid fun W => Tryd.strings_LastIndexByte p 47 (by omega) W
  have HE := Lib.hid fun q W (hq : q.size ≤ 100000) => ext_any q W (by omega)
  have hr := last_in p
  clear ha
  by_cases hk : ((bestG p l l.length).getD noRul).kind = 1
  · have hm := matchG_yes (dir := dir) hk
    have e1 : (((bestG p l l.length).getD noRul).kind != 1) = false := by rw [hk]; rfl
    have hend : endG p = ⟨(extL (p.extract (Lib.lastIndexByte p 47 + 1).toNat p.size).data.toList).toArray⟩ := rfl
    have Hm := Lib.hid hm
    clear hm hk
    generalize (bestG p l l.length).getD noRul = bb at *
    obtain ⟨bk, bt⟩ := bb
    dsimp only at e1 HD
    have hfld := fieldRule bk bt
    generalize hty : (l.any fun x => x.kind == 3) = ty at *
    cases dir with
    | true =>
      go_enter Tryd.func20, Tryd.ntmps20
      go_wp2_with fail
      refine HD.out.mono ?_
      rintro e w1 ⟨rfl, hb1⟩
      go_wp2_with fail
      refine (HT.out _ hb1).mono ?_
      rintro e w2 ⟨rfl, hb2⟩
      go_wp2_with fail
      go_ret
      exact ⟨by rw [Hm.out]; simp, hb1.trans (hb2.mono hb1.size)⟩
    | false =>
      cases ty with
      | false =>
        go_enter Tryd.func20, Tryd.ntmps20
        go_wp2_with fail
        refine HD.out.mono ?_
        rintro e w1 ⟨rfl, hb1⟩
        go_wp2_with fail
        refine (HT.out _ hb1).mono ?_
        rintro e w2 ⟨rfl, hb2⟩
        go_wp2_with fail
        go_ret
        exact ⟨by rw [Hm.out]; simp, hb1.trans (hb2.mono hb1.size)⟩
      | true =>
        have Hend := Lib.hid hend
        clear hend
        generalize Lib.lastIndexByte p 47 = r at *
        obtain ⟨r1, r2⟩ := hr
        obtain ⟨n, hn⟩ : ∃ n : Nat, r + 1 = n := ⟨(r + 1).toNat, by omega⟩
        have hn2 : n ≤ p.size := by omega
        have hr' : r = (n : Int) - 1 := by omega
        subst hr'
        have he : (((n : Int) - 1 + 1).toNat) = n := by omega
        rw [he] at Hend
        clear r1 r2 hn he
        go_enter Tryd.func20, Tryd.ntmps20
        go_wp2_with fail
        refine HD.out.mono ?_
        rintro e w1 ⟨rfl, hb1⟩
        go_wp2_with fail
        refine (HT.out _ hb1).mono ?_
        rintro e w2 ⟨rfl, hb2⟩
        have hb3 := hb1.trans (hb2.mono hb1.size)
        go_wp2_with fail
        refine (HL.out _).mono ?_
        rintro e w3 ⟨rfl, rfl⟩
        go_wp2_with fail
        have hq : (p.extract n p.size).size ≤ 100000 := by rw [ByteArray.size_extract]; omega
        refine (HE.out _ _ hq).mono ?_
        rintro e w4 ⟨rfl, rfl⟩
        rw [← Hend.out]
        go_wp2_with fail
        refine (HC.out ⟨3, endG p⟩ _ hb3).mono ?_
        rintro e w5 ⟨rfl, hb5⟩
        go_wp2_with fail
        go_ret
        exact ⟨by rw [Hm.out]; simp, hb3.trans (hb5.mono hb3.size)⟩
  · have Hm := Lib.hid (matchG_no (dir := dir) hk)
    have e1 : (((bestG p l l.length).getD noRul).kind != 1) = true := by rw [bne_iff_ne]; exact hk
    clear hk
    generalize (bestG p l l.length).getD noRul = bb at *
    obtain ⟨bk, bt⟩ := bb
    dsimp only at e1 HD
    have hfld := fieldRule bk bt
    go_enter Tryd.func20, Tryd.ntmps20
    go_wp2_with fail
    refine HD.out.mono ?_
    rintro e w1 ⟨rfl, hb1⟩
    go_wp2_with fail
    go_ret
    exact ⟨ret_bool Hm.out.symm, hb1⟩
end Go.Proofs.YtalkckalbmaghaaDoor
