import Derived.Test.YtalkckalbmaghaaDoorGlobW1
import Derived.Test.YtalkckalbmaghaaDoorBoxes
import Derived.IntWalk
namespace Go.Proofs.YtalkckalbmaghaaDoor
open Go.RowKit Go.Lib

theorem saysG_no {p : ByteArray} {x : Rul} (h1 : x.kind ≠ 1) (h2 : x.kind ≠ 2) : saysG p x = false := by simp [saysG, h1, h2]
theorem saysG_in {p : ByteArray} {x : Rul} (h : x.kind = 1 ∨ x.kind = 2) : saysG p x = withinG p x.text := by simp [saysG, h]
theorem longG_in (t : ByteArray) : -1 ≤ longG t ∧ longG t ≤ t.size := by unfold longG; split <;> omega
theorem keep4 {W w1 w2 : World} {p1 p2 p3 p4 : Addr} {v1 v2 v3 v4 : Value} (hb : Below W.heap.size W w1) (h : Below w1.heap.size w1 w2)
    (c1 : W.cell? p1 = some v1) (c2 : W.cell? p2 = some v2) (c3 : W.cell? p3 = some v3) (c4 : W.cell? p4 = some v4) (l1 : p1.block < W.heap.size) (l2 : p2.block < W.heap.size) (l3 : p3.block < W.heap.size) (l4 : p4.block < W.heap.size) :
    Below W.heap.size W w2 ∧ w2.cell? p1 = some v1 ∧ w2.cell? p2 = some v2 ∧ w2.cell? p3 = some v3 ∧ w2.cell? p4 = some v4 := by
  have hb2 := hb.trans (h.mono hb.size)
  exact ⟨hb2, (hb2.cell l1).trans c1, (hb2.cell l2).trans c2, (hb2.cell l3).trans c3, (hb2.cell l4).trans c4⟩
/-- The two variables of glob.decides: the result's, and the best rule so far. -/
def DecAt (w wr : World) (k : Int) (t : ByteArray) : Prop := Below w.heap.size w wr ∧ w.heap.size + 2 ≤ wr.heap.size ∧
  wr.cell? ⟨w.heap.size, 0, none⟩ = some (.int .i64 0) ∧ wr.cell? ⟨w.heap.size, 1, none⟩ = some (.string ⟨#[]⟩) ∧ (∀ i, wr.frozen? ⟨w.heap.size, i, none⟩ = false) ∧
  wr.cell? ⟨w.heap.size + 1, 0, none⟩ = some (.int .i64 k) ∧ wr.cell? ⟨w.heap.size + 1, 1, none⟩ = some (.string t) ∧ (∀ i, wr.frozen? ⟨w.heap.size + 1, i, none⟩ = false)
theorem DecAt.keeps {w wr w2 : World} {k : Int} {t : ByteArray} (h : DecAt w wr k t) (hb : Below wr.heap.size wr w2) : DecAt w w2 k t := by
  obtain ⟨h1, hs, r0, r1, rf, b0, b1, bf⟩ := h
  have la : w.heap.size < wr.heap.size := by omega
  have lb : w.heap.size + 1 < wr.heap.size := by omega
  have := hb.size
  exact ⟨h1.trans (hb.mono h1.size), by omega, (hb.cell (p := ⟨_, 0, none⟩) la).trans r0, (hb.cell (p := ⟨_, 1, none⟩) la).trans r1, fun i => (hb.frozen (p := ⟨_, i, none⟩) la).trans (rf i), (hb.cell (p := ⟨_, 0, none⟩) lb).trans b0, (hb.cell (p := ⟨_, 1, none⟩) lb).trans b1, fun i => (hb.frozen (p := ⟨_, i, none⟩) lb).trans (bf i)⟩
theorem DecAt.set {w wr : World} {k k' : Int} {t t' : ByteArray} (h : DecAt w wr k t) : DecAt w ((wr.setCell ⟨w.heap.size + 1, 0, none⟩ (.int .i64 k')).setCell ⟨w.heap.size + 1, 1, none⟩ (.string t')) k' t' := by
  obtain ⟨h1, hs, r0, r1, rf, b0, b1, bf⟩ := h
  obtain ⟨s0, s1, so, sf, ss, sb⟩ := two_set (v0 := .int .i64 k') (v1 := .string t') b0 b1
  exact ⟨sb _ _ (by omega) h1, by omega, (so _ _ (by omega)).trans r0, (so _ _ (by omega)).trans r1, fun i => (sf _ i).trans (rf i), s0, s1, fun i => (sf _ i).trans (bf i)⟩
theorem better_some {y x : Rul} : betterG (some y) x = (decide (longG y.text < longG x.text) || (longG x.text == longG y.text && x.kind == 2)) := rfl

set_option maxRecDepth 100000 in
set_option maxHeartbeats 3200000 in
theorem decides_any (a : Option Addr) (cap : Nat) (l : List Rul) (p : ByteArray) (w : World) (hsz : ∀ x ∈ l, x.text.size ≤ 100000) (hl : l.length ≤ 140737488351232) (ha : RowsAt rulLay w a l) :
    Calls Tryd.prog 38 #[.slice a l.length cap, .string p] w fun e w' => e = .returned (.agg #[.int .i64 ((bestG p l l.length).getD noRul).kind, .string ((bestG p l l.length).getD noRul).text]) ∧ Below w.heap.size w w' := by
  have HA := Lib.hid ha
  have Hsz := Lib.hid hsz
  clear ha hsz
  go_enter Tryd.func38, Tryd.ntmps38
  go_wp2_with fail
  go_loopw [8, 11] (fun _ i wr => ∃ k : Nat, k ≤ l.length ∧ i = .int .i64 k ∧ DecAt w wr ((bestG p l k).getD noRul).kind ((bestG p l k).getD noRul).text) (fun _ i _ => l.length - (RowKit.intOf i).toNat)
  case atStart =>
    refine ⟨0, Nat.zero_le _, rfl, ((Below.refl _ _).alloc (Nat.le_refl _) _).alloc (by simp) _, by simp, ?_, ?_, ?_, ?_, ?_, ?_⟩
    · simp
    · simp
    · intro i; simp
    · simp [noRul, bestG]
    · simp [noRul, bestG]
    · intro i; simp
  case round =>
    obtain ⟨k, hk, rfl, hdec⟩ := hrel
    have hb := hdec.1
    by_cases hlt : k < l.length
    · obtain ⟨x, hx⟩ := at_some hlt
      obtain ⟨b, off, rfl, hbl, c0, c1⟩ := rul_at (HA.out.keeps hb) hx
      have htx := Hsz.out x (List.mem_of_getElem? hx)
      obtain ⟨xk, xt⟩ := x
      dsimp only at c0 c1 htx
      have hst := bestG_step (p := p) hx
      have HW := Lib.hid fun W => within_any p xt W htx
      have hby : ∀ y, bestG p l k = some y → (y.kind = 1 ∨ y.kind = 2) ∧ y.text.size ≤ 100000 := fun y hy => ⟨(bestG_says p l k y hy).1, Hsz.out y (bestG_says p l k y hy).2⟩
      have Hst := Lib.hid hst
      clear hst hx
      generalize bestG p l k = best at *
      have hdx := hdec.keeps ((Below.refl _ wr).alloc (Nat.le_refl _) (.cells #[.int .i64 xk, .string xt] 33))
      by_cases hk1 : xk = 1
      · subst hk1
        rw [saysG_in (.inl rfl)] at Hst
        dsimp only at Hst
        generalize withinG p xt = wi at *
        cases wi with
        | false =>
          clear hby
          go_wp2_with fail
          refine (HW.out _).mono ?_
          rintro e w1 ⟨rfl, rfl⟩
          go_wp2_with fail
          go_roundw
          case rel =>
            refine ⟨k + 1, by omega, by go_num, ?_⟩
            rw [Hst.out]
            exact hdx
          case measure => simp [RowKit.intOf]; omega
        | true =>
          obtain ⟨WX, hWX⟩ : ∃ WX, WX = wr.alloc (.cells #[.int .i64 1, .string xt] 33) := ⟨_, rfl⟩
          have x0 : WX.cell? ⟨wr.heap.size, 0, none⟩ = some (.int .i64 1) := by rw [hWX]; simp
          have x1 : WX.cell? ⟨wr.heap.size, 1, none⟩ = some (.string xt) := by rw [hWX]; simp
          have l1 : wr.heap.size < WX.heap.size := by rw [hWX]; simp
          go_wp2_with fail
          refine (HW.out _).mono ?_
          rintro e w1 ⟨rfl, rfl⟩
          go_wp2_with fail
          rw [← hWX] at hdx ⊢
          clear hWX c0 c1
          have hdx' := hdx
          obtain ⟨_, l2', _, _, _, y0, y1, _⟩ := hdx'
          have l2 : w.heap.size + 1 < WX.heap.size := by omega
          have hn1 := longG_in xt
          cases best with
          | none =>
            clear hby
            have y0 : WX.cell? ⟨w.heap.size + 1, 0, none⟩ = some (.int .i64 0) := y0
            have y1 : WX.cell? ⟨w.heap.size + 1, 1, none⟩ = some (.string ⟨#[]⟩) := y1
            have hn2 := longG_in (⟨#[]⟩ : ByteArray)
            have hz : (ByteArray.size ⟨#[]⟩ : Int) = 0 := rfl
            have hkk := keep4 (Below.refl WX.heap.size WX) (Below.refl WX.heap.size WX).drew x0 x1 y0 y1 l1 l1 l2 l2
            go_region_held3 (fun w' => Below WX.heap.size WX w' ∧ w'.cell? ⟨wr.heap.size, 0, none⟩ = some (.int .i64 1) ∧ w'.cell? ⟨wr.heap.size, 1, none⟩ = some (.string xt) ∧ w'.cell? ⟨w.heap.size + 1, 0, none⟩ = some (.int .i64 0) ∧ w'.cell? ⟨w.heap.size + 1, 1, none⟩ = some (.string ⟨#[]⟩))
              (first | go_keep | (go_split_ands; exact keep4 (by assumption) hbl x0 x1 y0 y1 l1 l1 l2 l2) | exact hkk)
              (first | (go_at_call_of 61 (Value.agg #[.int .i64 1, .string xt]); refine (length_any ⟨1, xt⟩ _).mono ?_; rintro e w' ⟨rfl, hbl⟩) | (go_at_call_of 61 (Value.agg #[.int .i64 0, .string ⟨#[]⟩]); refine (length_any ⟨0, ⟨#[]⟩⟩ _).mono ?_; rintro e w' ⟨rfl, hbl⟩))
            rename_i hH
            obtain ⟨hbz, z0, z1, z2, z3⟩ := hH
            have hdz := hdx.keeps hbz
            clear hkk x0 x1 y0 y1 hn1 hn2 hz
            have bf := hdz.2.2.2.2.2.2.2
            go_wp2_with fail
            go_roundw
            case rel =>
              refine ⟨k + 1, by omega, by go_num, ?_⟩
              rw [Hst.out, show betterG none _ = true from rfl]
              exact hdz.set
            case measure => simp [RowKit.intOf]; omega
          | some y =>
            obtain ⟨hyk, hyt⟩ := hby y rfl
            clear hby
            obtain ⟨bk, bt⟩ := y
            dsimp only at hyk hyt
            have y0 : WX.cell? ⟨w.heap.size + 1, 0, none⟩ = some (.int .i64 bk) := y0
            have y1 : WX.cell? ⟨w.heap.size + 1, 1, none⟩ = some (.string bt) := y1
            have hn2 := longG_in bt
            have e0 : (bk == 0) = false := by rw [beq_eq_false_iff_ne]; omega
            have hbet : betterG (some ⟨bk, bt⟩) ⟨1, xt⟩ = (decide (longG bt < longG xt) || (longG xt == longG bt && (1 : Int) == 2)) := rfl
            have Hbet := Lib.hid hbet
            clear hbet
            have hkk := keep4 (Below.refl WX.heap.size WX) (Below.refl WX.heap.size WX).drew x0 x1 y0 y1 l1 l1 l2 l2
            go_region_held3 (fun w' => Below WX.heap.size WX w' ∧ w'.cell? ⟨wr.heap.size, 0, none⟩ = some (.int .i64 1) ∧ w'.cell? ⟨wr.heap.size, 1, none⟩ = some (.string xt) ∧ w'.cell? ⟨w.heap.size + 1, 0, none⟩ = some (.int .i64 bk) ∧ w'.cell? ⟨w.heap.size + 1, 1, none⟩ = some (.string bt))
              (first | go_keep | (go_split_ands; exact keep4 (by assumption) hbl x0 x1 y0 y1 l1 l1 l2 l2) | exact hkk)
              (first | (go_at_call_of 61 (Value.agg #[.int .i64 1, .string xt]); refine (length_any ⟨1, xt⟩ _).mono ?_; rintro e w' ⟨rfl, hbl⟩) | (go_at_call_of 61 (Value.agg #[.int .i64 bk, .string bt]); refine (length_any ⟨bk, bt⟩ _).mono ?_; rintro e w' ⟨rfl, hbl⟩))
            rename_i hH
            obtain ⟨hbz, z0, z1, z2, z3⟩ := hH
            have hdz := hdx.keeps hbz
            have bf := hdz.2.2.2.2.2.2.2
            have hw : IntKind.i64.wrap (longG xt - longG bt) = longG xt - longG bt := IntWalk.i64_in _ (by omega)
            rw [hw]
            clear hw hkk x0 x1 y0 y1 hyk hyt
            rcases Int.lt_trichotomy (longG bt) (longG xt) with hd | hd | hd
            · have e2 : ¬ longG xt ≤ longG bt := by omega
              have Hb := Lib.hid (show betterG (some ⟨bk, bt⟩) ⟨1, xt⟩ = true by rw [Hbet.out]; simp [hd])
              clear hd hn1 hn2
              go_wp2_with fail
              go_roundw
              case rel =>
                refine ⟨k + 1, by omega, by go_num, ?_⟩
                rw [Hst.out, Hb.out]
                exact hdz.set
              case measure => simp [RowKit.intOf]; omega
            · have e2 : longG xt ≤ longG bt := by omega
              have e3 : (longG xt - longG bt == 0) = true := by rw [beq_iff_eq]; omega
              have Hb := Lib.hid (show betterG (some ⟨bk, bt⟩) ⟨1, xt⟩ = false by rw [Hbet.out, hd]; simp)
              clear hd hn1 hn2
              go_wp2_with fail
              go_roundw
              case rel =>
                refine ⟨k + 1, by omega, by go_num, ?_⟩
                rw [Hst.out, Hb.out]
                exact hdz
              case measure => simp [RowKit.intOf]; omega
            · have e2 : longG xt ≤ longG bt := by omega
              have e3 : (longG xt - longG bt == 0) = false := by rw [beq_eq_false_iff_ne]; omega
              have Hb := Lib.hid (show betterG (some ⟨bk, bt⟩) ⟨1, xt⟩ = false by
                have h1 : ¬ longG bt < longG xt := by omega
                have h2 : (longG xt == longG bt) = false := by rw [beq_eq_false_iff_ne]; omega
                rw [Hbet.out, h2]; simp [h1])
              clear hd hn1 hn2
              go_wp2_with fail
              go_roundw
              case rel =>
                refine ⟨k + 1, by omega, by go_num, ?_⟩
                rw [Hst.out, Hb.out]
                exact hdz
              case measure => simp [RowKit.intOf]; omega
      · by_cases hk2 : xk = 2
        · subst hk2
          rw [saysG_in (.inr rfl)] at Hst
          dsimp only at Hst
          generalize withinG p xt = wi at *
          cases wi with
          | false =>
            clear hby
            go_wp2_with fail
            refine (HW.out _).mono ?_
            rintro e w1 ⟨rfl, rfl⟩
            go_wp2_with fail
            go_roundw
            case rel =>
              refine ⟨k + 1, by omega, by go_num, ?_⟩
              rw [Hst.out]
              exact hdx
            case measure => simp [RowKit.intOf]; omega
          | true =>
            obtain ⟨WX, hWX⟩ : ∃ WX, WX = wr.alloc (.cells #[.int .i64 2, .string xt] 33) := ⟨_, rfl⟩
            have x0 : WX.cell? ⟨wr.heap.size, 0, none⟩ = some (.int .i64 2) := by rw [hWX]; simp
            have x1 : WX.cell? ⟨wr.heap.size, 1, none⟩ = some (.string xt) := by rw [hWX]; simp
            have l1 : wr.heap.size < WX.heap.size := by rw [hWX]; simp
            go_wp2_with fail
            refine (HW.out _).mono ?_
            rintro e w1 ⟨rfl, rfl⟩
            go_wp2_with fail
            rw [← hWX] at hdx ⊢
            clear hWX c0 c1
            have hdx' := hdx
            obtain ⟨_, l2', _, _, _, y0, y1, _⟩ := hdx'
            have l2 : w.heap.size + 1 < WX.heap.size := by omega
            have hn1 := longG_in xt
            cases best with
            | none =>
              clear hby
              have y0 : WX.cell? ⟨w.heap.size + 1, 0, none⟩ = some (.int .i64 0) := y0
              have y1 : WX.cell? ⟨w.heap.size + 1, 1, none⟩ = some (.string ⟨#[]⟩) := y1
              have hn2 := longG_in (⟨#[]⟩ : ByteArray)
              have hz : (ByteArray.size ⟨#[]⟩ : Int) = 0 := rfl
              have hkk := keep4 (Below.refl WX.heap.size WX) (Below.refl WX.heap.size WX).drew x0 x1 y0 y1 l1 l1 l2 l2
              go_region_held3 (fun w' => Below WX.heap.size WX w' ∧ w'.cell? ⟨wr.heap.size, 0, none⟩ = some (.int .i64 2) ∧ w'.cell? ⟨wr.heap.size, 1, none⟩ = some (.string xt) ∧ w'.cell? ⟨w.heap.size + 1, 0, none⟩ = some (.int .i64 0) ∧ w'.cell? ⟨w.heap.size + 1, 1, none⟩ = some (.string ⟨#[]⟩))
                (first | go_keep | (go_split_ands; exact keep4 (by assumption) hbl x0 x1 y0 y1 l1 l1 l2 l2) | exact hkk)
                (first | (go_at_call_of 61 (Value.agg #[.int .i64 2, .string xt]); refine (length_any ⟨2, xt⟩ _).mono ?_; rintro e w' ⟨rfl, hbl⟩) | (go_at_call_of 61 (Value.agg #[.int .i64 0, .string ⟨#[]⟩]); refine (length_any ⟨0, ⟨#[]⟩⟩ _).mono ?_; rintro e w' ⟨rfl, hbl⟩))
              rename_i hH
              obtain ⟨hbz, z0, z1, z2, z3⟩ := hH
              have hdz := hdx.keeps hbz
              clear hkk x0 x1 y0 y1 hn1 hn2 hz
              have bf := hdz.2.2.2.2.2.2.2
              go_wp2_with fail
              go_roundw
              case rel =>
                refine ⟨k + 1, by omega, by go_num, ?_⟩
                rw [Hst.out, show betterG none _ = true from rfl]
                exact hdz.set
              case measure => simp [RowKit.intOf]; omega
            | some y =>
              obtain ⟨hyk, hyt⟩ := hby y rfl
              clear hby
              obtain ⟨bk, bt⟩ := y
              dsimp only at hyk hyt
              have y0 : WX.cell? ⟨w.heap.size + 1, 0, none⟩ = some (.int .i64 bk) := y0
              have y1 : WX.cell? ⟨w.heap.size + 1, 1, none⟩ = some (.string bt) := y1
              have hn2 := longG_in bt
              have e0 : (bk == 0) = false := by rw [beq_eq_false_iff_ne]; omega
              have hbet : betterG (some ⟨bk, bt⟩) ⟨2, xt⟩ = (decide (longG bt < longG xt) || (longG xt == longG bt && (2 : Int) == 2)) := rfl
              have Hbet := Lib.hid hbet
              clear hbet
              have hkk := keep4 (Below.refl WX.heap.size WX) (Below.refl WX.heap.size WX).drew x0 x1 y0 y1 l1 l1 l2 l2
              go_region_held3 (fun w' => Below WX.heap.size WX w' ∧ w'.cell? ⟨wr.heap.size, 0, none⟩ = some (.int .i64 2) ∧ w'.cell? ⟨wr.heap.size, 1, none⟩ = some (.string xt) ∧ w'.cell? ⟨w.heap.size + 1, 0, none⟩ = some (.int .i64 bk) ∧ w'.cell? ⟨w.heap.size + 1, 1, none⟩ = some (.string bt))
                (first | go_keep | (go_split_ands; exact keep4 (by assumption) hbl x0 x1 y0 y1 l1 l1 l2 l2) | exact hkk)
                (first | (go_at_call_of 61 (Value.agg #[.int .i64 2, .string xt]); refine (length_any ⟨2, xt⟩ _).mono ?_; rintro e w' ⟨rfl, hbl⟩) | (go_at_call_of 61 (Value.agg #[.int .i64 bk, .string bt]); refine (length_any ⟨bk, bt⟩ _).mono ?_; rintro e w' ⟨rfl, hbl⟩))
              rename_i hH
              obtain ⟨hbz, z0, z1, z2, z3⟩ := hH
              have hdz := hdx.keeps hbz
              have bf := hdz.2.2.2.2.2.2.2
              have hw : IntKind.i64.wrap (longG xt - longG bt) = longG xt - longG bt := IntWalk.i64_in _ (by omega)
              rw [hw]
              clear hw hkk x0 x1 y0 y1 hyk hyt
              rcases Int.lt_trichotomy (longG bt) (longG xt) with hd | hd | hd
              · have e2 : ¬ longG xt ≤ longG bt := by omega
                have Hb := Lib.hid (show betterG (some ⟨bk, bt⟩) ⟨2, xt⟩ = true by rw [Hbet.out]; simp [hd])
                clear hd hn1 hn2
                go_wp2_with fail
                go_roundw
                case rel =>
                  refine ⟨k + 1, by omega, by go_num, ?_⟩
                  rw [Hst.out, Hb.out]
                  exact hdz.set
                case measure => simp [RowKit.intOf]; omega
              · have e2 : longG xt ≤ longG bt := by omega
                have e3 : (longG xt - longG bt == 0) = true := by rw [beq_iff_eq]; omega
                have Hb := Lib.hid (show betterG (some ⟨bk, bt⟩) ⟨2, xt⟩ = true by rw [Hbet.out, hd]; simp)
                clear hd hn1 hn2
                go_wp2_with fail
                go_roundw
                case rel =>
                  refine ⟨k + 1, by omega, by go_num, ?_⟩
                  rw [Hst.out, Hb.out]
                  exact hdz.set
                case measure => simp [RowKit.intOf]; omega
              · have e2 : longG xt ≤ longG bt := by omega
                have e3 : (longG xt - longG bt == 0) = false := by rw [beq_eq_false_iff_ne]; omega
                have Hb := Lib.hid (show betterG (some ⟨bk, bt⟩) ⟨2, xt⟩ = false by
                  have h1 : ¬ longG bt < longG xt := by omega
                  have h2 : (longG xt == longG bt) = false := by rw [beq_eq_false_iff_ne]; omega
                  rw [Hbet.out, h2]; simp [h1])
                clear hd hn1 hn2
                go_wp2_with fail
                go_roundw
                case rel =>
                  refine ⟨k + 1, by omega, by go_num, ?_⟩
                  rw [Hst.out, Hb.out]
                  exact hdz
                case measure => simp [RowKit.intOf]; omega
        · have Hs := Lib.hid (saysG_no (p := p) (x := ⟨xk, xt⟩) hk1 hk2)
          have e1 : (xk != 1) = true := by rw [bne_iff_ne]; exact hk1
          have e2 : (xk != 2) = true := by rw [bne_iff_ne]; exact hk2
          clear hk1 hk2 hby
          go_wp2_with fail
          go_roundw
          case rel =>
            refine ⟨k + 1, by omega, by go_num, ?_⟩
            rw [Hst.out, Hs.out]
            exact hdx
          case measure => simp [RowKit.intOf]; omega
    · obtain rfl : k = l.length := by omega
      obtain ⟨h1, hs, r0, r1, rf, b0, b1, bf⟩ := hdec
      obtain ⟨s0, s1, so, sf, ss, sb⟩ := two_set (v0 := .int .i64 ((bestG p l l.length).getD noRul).kind) (v1 := .string ((bestG p l l.length).getD noRul).text) r0 r1
      go_wp2_with fail
      refine bodyPost_ret (v := .agg #[.int .i64 ((bestG p l l.length).getD noRul).kind, .string ((bestG p l l.length).getD noRul).text]) (by simp [results, Tryd.results38, go_sem, s0, s1]) rfl ⟨rfl, sb _ _ (Nat.le_refl _) h1⟩
end Go.Proofs.YtalkckalbmaghaaDoor
