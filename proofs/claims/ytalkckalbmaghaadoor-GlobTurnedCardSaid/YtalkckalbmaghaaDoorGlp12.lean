/-
  The reference's Print: what it returns.
-/
import Derived.Test.YtalkckalbmaghaaDoorGlp11
namespace Go.Proofs.YtalkckalbmaghaaDoor
open Go Go.RowKit Go.Lib

theorem ba_app (a b : List UInt8) : ba a ++ ba b = ba (a ++ b) := by
  apply ByteArray.ext
  simp [ba]
set_option maxRecDepth 100000 in
set_option maxHeartbeats 3200000 in
theorem rprint_any (a : Option Addr) (cap : Nat) (l : List Rul) (w : World) (hl : l.length ≤ 140737488351232) (hsz : ∀ x ∈ l, x.text.size ≤ 100000) (ha : RowsAt rulLay w a l) :
    Calls Tryd.prog 23 #[.slice a l.length cap] w fun e w' => e = .returned (.tuple #[.string (ba (printG l).1), .int .i64 (printG l).2]) ∧ Below w.heap.size w w' := by
  have HA := Lib.hid ha
  have Hsz := Lib.hid hsz
  clear ha hsz
  by_cases hbig : 16 < l.length
  · rw [print_big hbig]
    go_enter Tryd.func23, Tryd.ntmps23
    go_wp2_with fail
    go_ret2
    exact ⟨rfl, Below.refl _ _⟩
  · obtain ⟨R, HR⟩ : ∃ R, Hid (printG l = R) := ⟨_, Lib.hid rfl⟩
    rw [HR.out]
    go_enter Tryd.func23, Tryd.ntmps23
    go_wp2_with fail
    go_loopw [4, 5] (fun o i wr => ∃ k : Nat, k ≤ l.length ∧ i = .int .i64 k ∧ o = .string (ba (linesL (l.take k))) ∧ Below w.heap.size w wr ∧ Hid (∀ j y, j < k → l[j]? = some y → ruleG y = true)) (fun _ i _ => l.length - (RowKit.intOf i).toNat)
    case atStart => exact ⟨0, Nat.zero_le _, rfl, rfl, Below.refl _ _, Lib.hid (fun j _ hj => absurd hj (Nat.not_lt_zero _))⟩
    case round =>
      obtain ⟨k, hk, rfl, rfl, hb, Hk⟩ := hrel
      by_cases hlt : k < l.length
      · obtain ⟨x, hx⟩ := at_some hlt
        obtain ⟨b, off, rfl, hbl, c0, c1⟩ := rul_at (HA.out.keeps hb) hx
        have hxs := Hsz.out x (List.mem_of_getElem? hx)
        have Hx := Lib.hid hx
        have Hst := Lib.hid (linesL_step hx)
        have Hln := Lib.hid (show (linesL (l.take k)).length ≤ 16 * 100009 from by
          have h1 := linesL_size (n := 100000) (l.take k) (fun y hy => Hsz.out y (List.mem_of_mem_take hy))
          have h2 : (l.take k).length ≤ 16 := by rw [List.length_take]; omega
          exact Nat.le_trans h1 (Nat.mul_le_mul_right _ h2))
        obtain ⟨xk, xt⟩ := x
        dsimp only at c0 c1 hxs
        clear hx
        have HG := Lib.hid fun W => rgright_any xk xt W hxs
        have hos : (ba (linesL (l.take k))).size ≤ 16 * 100009 := by rw [size_eq, ba_data]; exact Hln.out
        have Ho := Lib.hid (show ba (linesL (l.take (k + 1))) = ba (linesL (l.take k)) ++ ba (wordG xk) ++ xt ++ ⟨#[10]⟩ from by
          rw [Hst.out, ← ba_app]
          unfold ruleL
          rw [← ba_app, ← ba_app, ba_back, ← ByteArray.append_assoc, ← ByteArray.append_assoc]
          rfl)
        generalize ba (linesL (l.take k)) = o at *
        go_wp2_with fail
        refine (HG.out _).mono ?_
        rintro e w2 ⟨rfl, hb2⟩
        have hb2w := hb.trans (hb2.mono hb.size)
        cases hq : ruleG ⟨xk, xt⟩ with
        | false =>
          have Hr := Lib.hid (print_bad hbig Hx.out hq)
          go_wp2_with fail
          go_ret2
          exact ⟨by rw [← HR.out, Hr.out]; rfl, hb2w⟩
        | true =>
          have hkd := rule_kind hq
          have Hq := Lib.hid hq
          clear hq
          have HWd := Lib.hid fun W => rword_any xk W hkd
          have hws := word_size xk
          dsimp only at hkd
          clear hkd
          generalize ba (wordG xk) = q at *
          have e0 := (hb2.cell (p := ⟨b, off + k * 2, none⟩) hbl).trans c0
          have e1 := (hb2.cell (p := ⟨b, off + k * 2 + 1, none⟩) hbl).trans c1
          have hA1 : ¬ (o.size + q.size > 9223372036854775807) := by omega
          have hA2 : o.size + q.size ≤ 9223372036854775807 := by omega
          have hA3 : ¬ (o.size + q.size + xt.size > 9223372036854775807) := by omega
          have hA4 : o.size + q.size + xt.size ≤ 9223372036854775807 := by omega
          have hA5 : ¬ (o.size + q.size + xt.size + 1 > 9223372036854775807) := by omega
          have hA6 : o.size + q.size + xt.size + 1 ≤ 9223372036854775807 := by omega
          clear c0 c1
          go_wp2_with fail
          have hkc : w2.drew.cell? ⟨b, off + k * 2, none⟩ = some (.int .i64 xk) ∧ w2.drew.cell? ⟨b, off + k * 2 + 1, none⟩ = some (.string xt) := ⟨e0, e1⟩
          go_region_held3 (fun w' => w'.cell? ⟨b, off + k * 2, none⟩ = some (.int .i64 xk) ∧ w'.cell? ⟨b, off + k * 2 + 1, none⟩ = some (.string xt))
            (first | exact hkc | (exact ⟨by assumption, by assumption⟩))
            ((go_at_call 30; refine (HWd.out _).mono ?_; rintro e w3 ⟨rfl, rfl⟩))
          have hb3w := hb2w.drew
          go_wp2_with fail
          go_roundw
          case rel =>
            refine ⟨k + 1, by omega, by go_num, by rw [Ho.out], hb3w, Lib.hid fun j y hj hy => ?_⟩
            by_cases e : j = k
            · subst e
              rw [Hx.out] at hy
              cases hy
              exact Hq.out
            · exact Hk.out j y (by omega) hy
          case measure => simp [RowKit.intOf]; omega
      · obtain rfl : k = l.length := by omega
        have hR := HR.out
        rw [print_ok hbig (fun j y hj hy => Hk.out j y hj hy)] at hR
        rw [List.take_length]
        have Hr := Lib.hid hR
        clear hR
        go_wp2_with fail
        go_ret2
        exact ⟨by rw [← Hr.out]; rfl, hb⟩
end Go.Proofs.YtalkckalbmaghaaDoor
