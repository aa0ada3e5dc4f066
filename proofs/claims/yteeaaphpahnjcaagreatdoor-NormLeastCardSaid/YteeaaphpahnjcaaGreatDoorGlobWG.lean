/-
  
-/
import Derived.Test.YteeaaphpahnjcaaGreatDoorNamesW2
import Derived.Test.YteeaaphpahnjcaaGreatDoorGlobPure
import Derived.Test.YteeaaphpahnjcaaGreatDoorDrawn
import Derived.Test.YteeaaphpahnjcaaGreatDoorCut
import Derived.StillTailTactics
import Derived.Test.YteeaaphpahnjcaaGreatDoorBoxes
import Derived.IntWalk
namespace Go.Proofs.YteeaaphpahnjcaaGreatDoor
open Go.RowKit Go.Lib

theorem within_dot {p d : ByteArray} (h : d = ⟨#[46]⟩) : withinG p d = true := by simp [withinG, h]
theorem within_same {p d : ByteArray} (h : p = d) : withinG p d = true := by simp [withinG, h]
theorem within_else {p d : ByteArray} (h1 : ¬ d = ⟨#[46]⟩) (h2 : ¬ p = d) : withinG p d = underB p d := by simp [withinG, h1, h2]

theorem dot_ne {d : ByteArray} (h : d ≠ ⟨#[46]⟩) : (d.toList == [46]) = false := by
  rw [toList_data, beq_eq_false_iff_ne]
  exact fun e => h (ba_ext e)
set_option maxHeartbeats 800000 in
theorem within_any (p d : ByteArray) (w : World) (hd : d.size ≤ 100000) :
    Calls Tryz.prog 36 #[.string p, .string d] w fun e w' => e = .returned (.bool (withinG p d)) ∧ w = w' := by
  obtain ⟨r, c, hu, hc⟩ := cut_call p d
  have HC := Lib.hid hc
  by_cases h1 : d = ⟨#[46]⟩
  · have Hr := Lib.hid (within_dot (p := p) h1)
    subst h1
    clear hu hc
    go_enter Tryz.func36, Tryz.ntmps36
    go_wp2_with fail
    refine (HC.out w).mono ?_
    rintro e w1 ⟨rfl, rfl⟩
    go_wp2_with fail
    go_ret
    exact ⟨ret_bool Hr.out.symm, rfl⟩
  have e1 := dot_ne h1
  by_cases h2 : p = d
  · have Hr := Lib.hid (within_same h2)
    have e2 := str_eq h2
    clear h1 h2 hu hc
    go_enter Tryz.func36, Tryz.ntmps36
    go_wp2_with fail
    refine (HC.out w).mono ?_
    rintro e w1 ⟨rfl, rfl⟩
    go_wp2_with fail
    go_ret
    exact ⟨ret_bool Hr.out.symm, rfl⟩
  have e2 := str_ne h2
  have Hr := Lib.hid ((within_else h1 h2).trans hu)
  clear h1 h2 hu hc
  cases c with
  | false =>
    go_enter Tryz.func36, Tryz.ntmps36
    go_wp2_with fail
    refine (HC.out w).mono ?_
    rintro e w1 ⟨rfl, rfl⟩
    go_wp2_with fail
    go_ret
    exact ⟨ret_bool Hr.out.symm, rfl⟩
  | true =>
    go_enter Tryz.func36, Tryz.ntmps36
    go_wp2_with fail
    refine (HC.out w).mono ?_
    rintro e w1 ⟨rfl, rfl⟩
    go_wp2_with fail
    go_ret
    exact ⟨by rw [Hr.out]; simp, rfl⟩

set_option maxHeartbeats 800000 in
theorem length_any (x : Rul) (w : World) :
    Calls Tryz.prog 37 #[.agg #[.int .i64 x.kind, .string x.text]] w fun e w' => e = .returned (.int .i64 (longG x.text)) ∧ Below w.heap.size w w' := by
  obtain ⟨k, t⟩ := x
  dsimp only
  have hb := (Below.refl w.heap.size w).alloc (Nat.le_refl _) (.cells #[.int .i64 k, .string t] 29)
  by_cases h : t = ⟨#[46]⟩
  · have Hr := Lib.hid (show longG t = -1 by unfold longG; rw [if_pos h])
    have e1 := str_eq h
    subst h
    go_enter Tryz.func37, Tryz.ntmps37
    go_wp2_with fail
    go_ret
    exact ⟨ret_int Hr.out.symm, hb⟩
  · have Hr := Lib.hid (show longG t = t.size by unfold longG; rw [if_neg h])
    have e1 := dot_ne h
    clear h
    go_enter Tryz.func37, Tryz.ntmps37
    go_wp2_with fail
    go_ret
    exact ⟨ret_int Hr.out.symm, hb⟩
end Go.Proofs.YteeaaphpahnjcaaGreatDoor

namespace Go.Proofs.YteeaaphpahnjcaaGreatDoor
open Go.RowKit Go.Lib

theorem saysG_no {p : ByteArray} {x : Rul} (h1 : x.kind ≠ 1) (h2 : x.kind ≠ 2) : saysG p x = false := by simp [saysG, h1, h2]
theorem saysG_in {p : ByteArray} {x : Rul} (h : x.kind = 1 ∨ x.kind = 2) : saysG p x = withinG p x.text := by simp [saysG, h]
theorem longG_in (t : ByteArray) : -1 ≤ longG t ∧ longG t ≤ t.size := by unfold longG; split <;> omega
theorem keep4 {W w1 w2 : World} {p1 p2 p3 p4 : Addr} {v1 v2 v3 v4 : Value} (hb : Below W.heap.size W w1) (h : Below w1.heap.size w1 w2)
    (c1 : W.cell? p1 = some v1) (c2 : W.cell? p2 = some v2) (c3 : W.cell? p3 = some v3) (c4 : W.cell? p4 = some v4) (l1 : p1.block < W.heap.size) (l2 : p2.block < W.heap.size) (l3 : p3.block < W.heap.size) (l4 : p4.block < W.heap.size) :
    Below W.heap.size W w2 ∧ w2.cell? p1 = some v1 ∧ w2.cell? p2 = some v2 ∧ w2.cell? p3 = some v3 ∧ w2.cell? p4 = some v4 := by
  have hb2 := hb.trans (h.mono hb.size)
  exact ⟨hb2, (hb2.cell l1).trans c1, (hb2.cell l2).trans c2, (hb2.cell l3).trans c3, (hb2.cell l4).trans c4⟩
/-- The two variables of glob.decides: the result's, and the best rule so far. -/
def DecAt (w wr : World) (k : Int) (t : ByteArray) : Prop := Below w.heap.size w wr ∧ w.heap.size + 2 ≤ wr.heap.size ∧
  wr.cell? ⟨w.heap.size, 0, none⟩ = some (.int .i64 0) ∧ wr.cell? ⟨w.heap.size, 1, none⟩ = some (.string ⟨#[]⟩) ∧ (∀ i, wr.frozen? ⟨w.heap.size, i, none⟩ = false) ∧
  wr.cell? ⟨w.heap.size + 1, 0, none⟩ = some (.int .i64 k) ∧ wr.cell? ⟨w.heap.size + 1, 1, none⟩ = some (.string t) ∧ (∀ i, wr.frozen? ⟨w.heap.size + 1, i, none⟩ = false)
theorem DecAt.keeps {w wr w2 : World} {k : Int} {t : ByteArray} (h : DecAt w wr k t) (hb : Below wr.heap.size wr w2) : DecAt w w2 k t := by
  obtain ⟨h1, hs, r0, r1, rf, b0, b1, bf⟩ := h
  have la : w.heap.size < wr.heap.size := by omega
  have lb : w.heap.size + 1 < wr.heap.size := by omega
  have := hb.size
  exact ⟨h1.trans (hb.mono h1.size), by omega, (hb.cell (p := ⟨_, 0, none⟩) la).trans r0, (hb.cell (p := ⟨_, 1, none⟩) la).trans r1, fun i => (hb.frozen (p := ⟨_, i, none⟩) la).trans (rf i), (hb.cell (p := ⟨_, 0, none⟩) lb).trans b0, (hb.cell (p := ⟨_, 1, none⟩) lb).trans b1, fun i => (hb.frozen (p := ⟨_, i, none⟩) lb).trans (bf i)⟩
theorem DecAt.set {w wr : World} {k k' : Int} {t t' : ByteArray} (h : DecAt w wr k t) : DecAt w ((wr.setCell ⟨w.heap.size + 1, 0, none⟩ (.int .i64 k')).setCell ⟨w.heap.size + 1, 1, none⟩ (.string t')) k' t' := by
  obtain ⟨h1, hs, r0, r1, rf, b0, b1, bf⟩ := h
  obtain ⟨s0, s1, so, sf, ss, sb⟩ := two_set (v0 := .int .i64 k') (v1 := .string t') b0 b1
  exact ⟨sb _ _ (by omega) h1, by omega, (so _ _ (by omega)).trans r0, (so _ _ (by omega)).trans r1, fun i => (sf _ i).trans (rf i), s0, s1, fun i => (sf _ i).trans (bf i)⟩
theorem better_some {y x : Rul} : betterG (some y) x = (decide (longG y.text < longG x.text) || (longG x.text == longG y.text && x.kind == 2)) := rfl

set_option maxRecDepth 100000 in
set_option maxHeartbeats 3200000 in
theorem decides_any (a : Option Addr) (cap : Nat) (l : List Rul) (p : ByteArray) (w : World) (hsz : ∀ x ∈ l, x.text.size ≤ 100000) (hl : l.length ≤ 140737488351232) (ha : RowsAt rulLay w a l) :
    Calls Tryz.prog 18 #[.slice a l.length cap, .string p] w fun e w' => e = .returned (.agg #[.int .i64 ((bestG p l l.length).getD noRul).kind, .string ((bestG p l l.length).getD noRul).text]) ∧ Below w.heap.size w w' := by
  have HA := Lib.hid ha
  have Hsz := Lib.hid hsz
  clear ha hsz
  go_enter Tryz.func18, Tryz.ntmps18
  go_wp2_with fail
  go_loopw [8, 11] (fun _ i wr => ∃ k : Nat, k ≤ l.length ∧ i = .int .i64 k ∧ DecAt w wr ((bestG p l k).getD noRul).kind ((bestG p l k).getD noRul).text) (fun _ i _ => l.length - (RowKit.intOf i).toNat)
  case atStart =>
    refine ⟨0, Nat.zero_le _, rfl, ((Below.refl _ _).alloc (Nat.le_refl _) _).alloc (by simp) _, by simp, ?_, ?_, ?_, ?_, ?_, ?_⟩
    · simp
    · simp
    · intro i; simp
    · simp [noRul, bestG]
    · simp [noRul, bestG]
    · intro i; simp
  case round =>
    obtain ⟨k, hk, rfl, hdec⟩ := hrel
    have hb := hdec.1
    by_cases hlt : k < l.length
    · obtain ⟨x, hx⟩ := at_some hlt
      obtain ⟨b, off, rfl, hbl, c0, c1⟩ := rul_at (HA.out.keeps hb) hx
      have htx := Hsz.out x (List.mem_of_getElem? hx)
      obtain ⟨xk, xt⟩ := x
      dsimp only at c0 c1 htx
      have hst := bestG_step (p := p) hx
      have HW := Lib.hid fun W => within_any p xt W htx
      have hby : ∀ y, bestG p l k = some y → (y.kind = 1 ∨ y.kind = 2) ∧ y.text.size ≤ 100000 := fun y hy => ⟨(bestG_says p l k y hy).1, Hsz.out y (bestG_says p l k y hy).2⟩
      have Hst := Lib.hid hst
      clear hst hx
      generalize bestG p l k = best at *
      have hdx := hdec.keeps ((Below.refl _ wr).alloc (Nat.le_refl _) (.cells #[.int .i64 xk, .string xt] 29))
      by_cases hk1 : xk = 1
      · subst hk1
        rw [saysG_in (.inl rfl)] at Hst
        dsimp only at Hst
        generalize withinG p xt = wi at *
        cases wi with
        | false =>
          clear hby
          go_wp2_with fail
          refine (HW.out _).mono ?_
          rintro e w1 ⟨rfl, rfl⟩
          go_wp2_with fail
          go_roundw
          case rel =>
            refine ⟨k + 1, by omega, by go_num, ?_⟩
            rw [Hst.out]
            exact hdx
          case measure => simp [RowKit.intOf]; omega
        | true =>
          obtain ⟨WX, hWX⟩ : ∃ WX, WX = wr.alloc (.cells #[.int .i64 1, .string xt] 29) := ⟨_, rfl⟩
          have x0 : WX.cell? ⟨wr.heap.size, 0, none⟩ = some (.int .i64 1) := by rw [hWX]; simp
          have x1 : WX.cell? ⟨wr.heap.size, 1, none⟩ = some (.string xt) := by rw [hWX]; simp
          have l1 : wr.heap.size < WX.heap.size := by rw [hWX]; simp
          go_wp2_with fail
          refine (HW.out _).mono ?_
          rintro e w1 ⟨rfl, rfl⟩
          go_wp2_with fail
          rw [← hWX] at hdx ⊢
          clear hWX c0 c1
          have hdx' := hdx
          obtain ⟨_, l2', _, _, _, y0, y1, _⟩ := hdx'
          have l2 : w.heap.size + 1 < WX.heap.size := by omega
          have hn1 := longG_in xt
          cases best with
          | none =>
            clear hby
            have y0 : WX.cell? ⟨w.heap.size + 1, 0, none⟩ = some (.int .i64 0) := y0
            have y1 : WX.cell? ⟨w.heap.size + 1, 1, none⟩ = some (.string ⟨#[]⟩) := y1
            have hn2 := longG_in (⟨#[]⟩ : ByteArray)
            have hz : (ByteArray.size ⟨#[]⟩ : Int) = 0 := rfl
            have hkk := keep4 (Below.refl WX.heap.size WX) (Below.refl WX.heap.size WX).drew x0 x1 y0 y1 l1 l1 l2 l2
            go_region_held3 (fun w' => Below WX.heap.size WX w' ∧ w'.cell? ⟨wr.heap.size, 0, none⟩ = some (.int .i64 1) ∧ w'.cell? ⟨wr.heap.size, 1, none⟩ = some (.string xt) ∧ w'.cell? ⟨w.heap.size + 1, 0, none⟩ = some (.int .i64 0) ∧ w'.cell? ⟨w.heap.size + 1, 1, none⟩ = some (.string ⟨#[]⟩))
              (first | go_keep | (go_split_ands; exact keep4 (by assumption) hbl x0 x1 y0 y1 l1 l1 l2 l2) | exact hkk)
              (first | (go_at_call_of 37 (Value.agg #[.int .i64 1, .string xt]); refine (length_any ⟨1, xt⟩ _).mono ?_; rintro e w' ⟨rfl, hbl⟩) | (go_at_call_of 37 (Value.agg #[.int .i64 0, .string ⟨#[]⟩]); refine (length_any ⟨0, ⟨#[]⟩⟩ _).mono ?_; rintro e w' ⟨rfl, hbl⟩))
            rename_i hH
            obtain ⟨hbz, z0, z1, z2, z3⟩ := hH
            have hdz := hdx.keeps hbz
            clear hkk x0 x1 y0 y1 hn1 hn2 hz
            have bf := hdz.2.2.2.2.2.2.2
            go_wp2_with fail
            go_roundw
            case rel =>
              refine ⟨k + 1, by omega, by go_num, ?_⟩
              rw [Hst.out, show betterG none _ = true from rfl]
              exact hdz.set
            case measure => simp [RowKit.intOf]; omega
          | some y =>
            obtain ⟨hyk, hyt⟩ := hby y rfl
            clear hby
            obtain ⟨bk, bt⟩ := y
            dsimp only at hyk hyt
            have y0 : WX.cell? ⟨w.heap.size + 1, 0, none⟩ = some (.int .i64 bk) := y0
            have y1 : WX.cell? ⟨w.heap.size + 1, 1, none⟩ = some (.string bt) := y1
            have hn2 := longG_in bt
            have e0 : (bk == 0) = false := by rw [beq_eq_false_iff_ne]; omega
            have hbet : betterG (some ⟨bk, bt⟩) ⟨1, xt⟩ = (decide (longG bt < longG xt) || (longG xt == longG bt && (1 : Int) == 2)) := rfl
            have Hbet := Lib.hid hbet
            clear hbet
            have hkk := keep4 (Below.refl WX.heap.size WX) (Below.refl WX.heap.size WX).drew x0 x1 y0 y1 l1 l1 l2 l2
            go_region_held3 (fun w' => Below WX.heap.size WX w' ∧ w'.cell? ⟨wr.heap.size, 0, none⟩ = some (.int .i64 1) ∧ w'.cell? ⟨wr.heap.size, 1, none⟩ = some (.string xt) ∧ w'.cell? ⟨w.heap.size + 1, 0, none⟩ = some (.int .i64 bk) ∧ w'.cell? ⟨w.heap.size + 1, 1, none⟩ = some (.string bt))
              (first | go_keep | (go_split_ands; exact keep4 (by assumption) hbl x0 x1 y0 y1 l1 l1 l2 l2) | exact hkk)
              (first | (go_at_call_of 37 (Value.agg #[.int .i64 1, .string xt]); refine (length_any ⟨1, xt⟩ _).mono ?_; rintro e w' ⟨rfl, hbl⟩) | (go_at_call_of 37 (Value.agg #[.int .i64 bk, .string bt]); refine (length_any ⟨bk, bt⟩ _).mono ?_; rintro e w' ⟨rfl, hbl⟩))
            rename_i hH
            obtain ⟨hbz, z0, z1, z2, z3⟩ := hH
            have hdz := hdx.keeps hbz
            have bf := hdz.2.2.2.2.2.2.2
            have hw : IntKind.i64.wrap (longG xt - longG bt) = longG xt - longG bt := IntWalk.i64_in _ (by omega)
            rw [hw]
            clear hw hkk x0 x1 y0 y1 hyk hyt
            rcases Int.lt_trichotomy (longG bt) (longG xt) with hd | hd | hd
            · have e2 : ¬ longG xt ≤ longG bt := by omega
              have Hb := Lib.hid (show betterG (some ⟨bk, bt⟩) ⟨1, xt⟩ = true by rw [Hbet.out]; simp [hd])
              clear hd hn1 hn2
              go_wp2_with fail
              go_roundw
              case rel =>
                refine ⟨k + 1, by omega, by go_num, ?_⟩
                rw [Hst.out, Hb.out]
                exact hdz.set
              case measure => simp [RowKit.intOf]; omega
            · have e2 : longG xt ≤ longG bt := by omega
              have e3 : (longG xt - longG bt == 0) = true := by rw [beq_iff_eq]; omega
              have Hb := Lib.hid (show betterG (some ⟨bk, bt⟩) ⟨1, xt⟩ = false by rw [Hbet.out, hd]; simp)
              clear hd hn1 hn2
              go_wp2_with fail
              go_roundw
              case rel =>
                refine ⟨k + 1, by omega, by go_num, ?_⟩
                rw [Hst.out, Hb.out]
                exact hdz
              case measure => simp [RowKit.intOf]; omega
            · have e2 : longG xt ≤ longG bt := by omega
              have e3 : (longG xt - longG bt == 0) = false := by rw [beq_eq_false_iff_ne]; omega
              have Hb := Lib.hid (show betterG (some ⟨bk, bt⟩) ⟨1, xt⟩ = false by
                have h1 : ¬ longG bt < longG xt := by omega
                have h2 : (longG xt == longG bt) = false := by rw [beq_eq_false_iff_ne]; omega
                rw [Hbet.out, h2]; simp [h1])
              clear hd hn1 hn2
              go_wp2_with fail
              go_roundw
              case rel =>
                refine ⟨k + 1, by omega, by go_num, ?_⟩
                rw [Hst.out, Hb.out]
                exact hdz
              case measure => simp [RowKit.intOf]; omega
      · by_cases hk2 : xk = 2
        · subst hk2
          rw [saysG_in (.inr rfl)] at Hst
          dsimp only at Hst
          generalize withinG p xt = wi at *
          cases wi with
          | false =>
            clear hby
            go_wp2_with fail
            refine (HW.out _).mono ?_
            rintro e w1 ⟨rfl, rfl⟩
            go_wp2_with fail
            go_roundw
            case rel =>
              refine ⟨k + 1, by omega, by go_num, ?_⟩
              rw [Hst.out]
              exact hdx
            case measure => simp [RowKit.intOf]; omega
          | true =>
            obtain ⟨WX, hWX⟩ : ∃ WX, WX = wr.alloc (.cells #[.int .i64 2, .string xt] 29) := ⟨_, rfl⟩
            have x0 : WX.cell? ⟨wr.heap.size, 0, none⟩ = some (.int .i64 2) := by rw [hWX]; simp
            have x1 : WX.cell? ⟨wr.heap.size, 1, none⟩ = some (.string xt) := by rw [hWX]; simp
            have l1 : wr.heap.size < WX.heap.size := by rw [hWX]; simp
            go_wp2_with fail
            refine (HW.out _).mono ?_
            rintro e w1 ⟨rfl, rfl⟩
            go_wp2_with fail
            rw [← hWX] at hdx ⊢
            clear hWX c0 c1
            have hdx' := hdx
            obtain ⟨_, l2', _, _, _, y0, y1, _⟩ := hdx'
            have l2 : w.heap.size + 1 < WX.heap.size := by omega
            have hn1 := longG_in xt
            cases best with
            | none =>
              clear hby
              have y0 : WX.cell? ⟨w.heap.size + 1, 0, none⟩ = some (.int .i64 0) := y0
              have y1 : WX.cell? ⟨w.heap.size + 1, 1, none⟩ = some (.string ⟨#[]⟩) := y1
              have hn2 := longG_in (⟨#[]⟩ : ByteArray)
              have hz : (ByteArray.size ⟨#[]⟩ : Int) = 0 := rfl
              have hkk := keep4 (Below.refl WX.heap.size WX) (Below.refl WX.heap.size WX).drew x0 x1 y0 y1 l1 l1 l2 l2
              go_region_held3 (fun w' => Below WX.heap.size WX w' ∧ w'.cell? ⟨wr.heap.size, 0, none⟩ = some (.int .i64 2) ∧ w'.cell? ⟨wr.heap.size, 1, none⟩ = some (.string xt) ∧ w'.cell? ⟨w.heap.size + 1, 0, none⟩ = some (.int .i64 0) ∧ w'.cell? ⟨w.heap.size + 1, 1, none⟩ = some (.string ⟨#[]⟩))
                (first | go_keep | (go_split_ands; exact keep4 (by assumption) hbl x0 x1 y0 y1 l1 l1 l2 l2) | exact hkk)
                (first | (go_at_call_of 37 (Value.agg #[.int .i64 2, .string xt]); refine (length_any ⟨2, xt⟩ _).mono ?_; rintro e w' ⟨rfl, hbl⟩) | (go_at_call_of 37 (Value.agg #[.int .i64 0, .string ⟨#[]⟩]); refine (length_any ⟨0, ⟨#[]⟩⟩ _).mono ?_; rintro e w' ⟨rfl, hbl⟩))
              rename_i hH
              obtain ⟨hbz, z0, z1, z2, z3⟩ := hH
              have hdz := hdx.keeps hbz
              clear hkk x0 x1 y0 y1 hn1 hn2 hz
              have bf := hdz.2.2.2.2.2.2.2
              go_wp2_with fail
              go_roundw
              case rel =>
                refine ⟨k + 1, by omega, by go_num, ?_⟩
                rw [Hst.out, show betterG none _ = true from rfl]
                exact hdz.set
              case measure => simp [RowKit.intOf]; omega
            | some y =>
              obtain ⟨hyk, hyt⟩ := hby y rfl
              clear hby
              obtain ⟨bk, bt⟩ := y
              dsimp only at hyk hyt
              have y0 : WX.cell? ⟨w.heap.size + 1, 0, none⟩ = some (.int .i64 bk) := y0
              have y1 : WX.cell? ⟨w.heap.size + 1, 1, none⟩ = some (.string bt) := y1
              have hn2 := longG_in bt
              have e0 : (bk == 0) = false := by rw [beq_eq_false_iff_ne]; omega
              have hbet : betterG (some ⟨bk, bt⟩) ⟨2, xt⟩ = (decide (longG bt < longG xt) || (longG xt == longG bt && (2 : Int) == 2)) := rfl
              have Hbet := Lib.hid hbet
              clear hbet
              have hkk := keep4 (Below.refl WX.heap.size WX) (Below.refl WX.heap.size WX).drew x0 x1 y0 y1 l1 l1 l2 l2
              go_region_held3 (fun w' => Below WX.heap.size WX w' ∧ w'.cell? ⟨wr.heap.size, 0, none⟩ = some (.int .i64 2) ∧ w'.cell? ⟨wr.heap.size, 1, none⟩ = some (.string xt) ∧ w'.cell? ⟨w.heap.size + 1, 0, none⟩ = some (.int .i64 bk) ∧ w'.cell? ⟨w.heap.size + 1, 1, none⟩ = some (.string bt))
                (first | go_keep | (go_split_ands; exact keep4 (by assumption) hbl x0 x1 y0 y1 l1 l1 l2 l2) | exact hkk)
                (first | (go_at_call_of 37 (Value.agg #[.int .i64 2, .string xt]); refine (length_any ⟨2, xt⟩ _).mono ?_; rintro e w' ⟨rfl, hbl⟩) | (go_at_call_of 37 (Value.agg #[.int .i64 bk, .string bt]); refine (length_any ⟨bk, bt⟩ _).mono ?_; rintro e w' ⟨rfl, hbl⟩))
              rename_i hH
              obtain ⟨hbz, z0, z1, z2, z3⟩ := hH
              have hdz := hdx.keeps hbz
              have bf := hdz.2.2.2.2.2.2.2
              have hw : IntKind.i64.wrap (longG xt - longG bt) = longG xt - longG bt := IntWalk.i64_in _ (by omega)
              rw [hw]
              clear hw hkk x0 x1 y0 y1 hyk hyt
              rcases Int.lt_trichotomy (longG bt) (longG xt) with hd | hd | hd
              · have e2 : ¬ longG xt ≤ longG bt := by omega
                have Hb := Lib.hid (show betterG (some ⟨bk, bt⟩) ⟨2, xt⟩ = true by rw [Hbet.out]; simp [hd])
                clear hd hn1 hn2
                go_wp2_with fail
                go_roundw
                case rel =>
                  refine ⟨k + 1, by omega, by go_num, ?_⟩
                  rw [Hst.out, Hb.out]
                  exact hdz.set
                case measure => simp [RowKit.intOf]; omega
              · have e2 : longG xt ≤ longG bt := by omega
                have e3 : (longG xt - longG bt == 0) = true := by rw [beq_iff_eq]; omega
                have Hb := Lib.hid (show betterG (some ⟨bk, bt⟩) ⟨2, xt⟩ = true by rw [Hbet.out, hd]; simp)
                clear hd hn1 hn2
                go_wp2_with fail
                go_roundw
                case rel =>
                  refine ⟨k + 1, by omega, by go_num, ?_⟩
                  rw [Hst.out, Hb.out]
                  exact hdz.set
                case measure => simp [RowKit.intOf]; omega
              · have e2 : longG xt ≤ longG bt := by omega
                have e3 : (longG xt - longG bt == 0) = false := by rw [beq_eq_false_iff_ne]; omega
                have Hb := Lib.hid (show betterG (some ⟨bk, bt⟩) ⟨2, xt⟩ = false by
                  have h1 : ¬ longG bt < longG xt := by omega
                  have h2 : (longG xt == longG bt) = false := by rw [beq_eq_false_iff_ne]; omega
                  rw [Hbet.out, h2]; simp [h1])
                clear hd hn1 hn2
                go_wp2_with fail
                go_roundw
                case rel =>
                  refine ⟨k + 1, by omega, by go_num, ?_⟩
                  rw [Hst.out, Hb.out]
                  exact hdz
                case measure => simp [RowKit.intOf]; omega
        · have Hs := Lib.hid (saysG_no (p := p) (x := ⟨xk, xt⟩) hk1 hk2)
          have e1 : (xk != 1) = true := by rw [bne_iff_ne]; exact hk1
          have e2 : (xk != 2) = true := by rw [bne_iff_ne]; exact hk2
          clear hk1 hk2 hby
          go_wp2_with fail
          go_roundw
          case rel =>
            refine ⟨k + 1, by omega, by go_num, ?_⟩
            rw [Hst.out, Hs.out]
            exact hdx
          case measure => simp [RowKit.intOf]; omega
    · obtain rfl : k = l.length := by omega
      obtain ⟨h1, hs, r0, r1, rf, b0, b1, bf⟩ := hdec
      obtain ⟨s0, s1, so, sf, ss, sb⟩ := two_set (v0 := .int .i64 ((bestG p l l.length).getD noRul).kind) (v1 := .string ((bestG p l l.length).getD noRul).text) r0 r1
      go_wp2_with fail
      refine bodyPost_ret (v := .agg #[.int .i64 ((bestG p l l.length).getD noRul).kind, .string ((bestG p l l.length).getD noRul).text]) (by simp [results, Tryz.results18, go_sem, s0, s1]) rfl ⟨rfl, sb _ _ (Nat.le_refl _) h1⟩
end Go.Proofs.YteeaaphpahnjcaaGreatDoor

namespace Go.Proofs.YteeaaphpahnjcaaGreatDoor
open Go.RowKit Go.Lib

set_option maxHeartbeats 800000 in
theorem isType_any (x : Rul) (w : World) :
    Calls Tryz.prog 20 #[.agg #[.int .i64 x.kind, .string x.text]] w fun e w' => e = .returned (.bool (x.kind == 3)) ∧ Below w.heap.size w w' := by
  have hb := (Below.refl w.heap.size w).alloc (Nat.le_refl _) (.cells #[.int .i64 x.kind, .string x.text] 29)
  go_enter Tryz.func20, Tryz.ntmps20
  go_wp2_with fail
  go_ret
  exact ⟨rfl, hb⟩

theorem idxT_miss {l : List Rul} (h : ∀ j y, j < l.length → l[j]? = some y → y.kind ≠ 3) : (l.any fun x => x.kind == 3) = false := by
  rw [List.any_eq_false]
  intro x hx
  obtain ⟨j, hj, e⟩ := List.getElem_of_mem hx
  have := h j x hj (by rw [List.getElem?_eq_getElem hj, e])
  simpa using this
theorem idxT_hit {l : List Rul} {k : Nat} {x : Rul} (hx : l[k]? = some x) (h : x.kind = 3) : (l.any fun x => x.kind == 3) = true := by
  rw [List.any_eq_true]
  exact ⟨x, List.mem_of_getElem? hx, by simpa using h⟩

set_option maxRecDepth 100000 in
set_option maxHeartbeats 800000 in
theorem typedAt_any (a : Option Addr) (cap : Nat) (l : List Rul) (w : World) (hl : l.length ≤ 140737488351232) (ha : RowsAt rulLay w a l) :
    Calls Tryz.prog 38 #[.slice a l.length cap, .func (.func 20) #[] #[]] w fun e w' => ∃ n : Int, e = .returned (.int .i64 n) ∧ (decide (0 ≤ n) = l.any fun x => x.kind == 3) ∧ Below w.heap.size w w' := by
  have HA := Lib.hid ha
  clear ha
  go_enter Tryz.func38, Tryz.ntmps38
  go_wp2_with fail
  go_loopw [5, 8] (fun _ i wr => ∃ k : Nat, k ≤ l.length ∧ i = .int .i64 k ∧ Hid (∀ j y, j < k → l[j]? = some y → y.kind ≠ 3) ∧ Below w.heap.size w wr) (fun _ i _ => l.length - (RowKit.intOf i).toNat)
  case atStart => exact ⟨0, Nat.zero_le _, rfl, fun j _ hj => absurd hj (Nat.not_lt_zero _), Below.refl _ _⟩
  case round =>
    obtain ⟨k, hk, rfl, Hk, hb⟩ := hrel
    by_cases hlt : k < l.length
    · obtain ⟨x, hx⟩ := at_some hlt
      obtain ⟨b, off, rfl, hbl, c0, c1⟩ := rul_at (HA.out.keeps hb) hx
      obtain ⟨xk, xt⟩ := x
      dsimp only at c0 c1
      have Hx := Lib.hid hx
      clear hx
      by_cases h3 : xk = 3
      · have Hr := Lib.hid (idxT_hit Hx.out h3)
        have e1 : (xk == 3) = true := by rw [beq_iff_eq]; exact h3
        clear h3
        go_wp2_with fail
        refine (isType_any ⟨xk, xt⟩ _).mono ?_
        rintro e w1 ⟨rfl, hb1⟩
        have hb2 := hb.trans (hb1.mono hb.size)
        go_wp2_with fail
        go_ret
        exact ⟨_, rfl, by rw [Hr.out]; simp, hb2⟩
      · have Hn := Lib.hid h3
        have e1 : (xk == 3) = false := by rw [beq_eq_false_iff_ne]; exact h3
        clear h3
        go_wp2_with fail
        refine (isType_any ⟨xk, xt⟩ _).mono ?_
        rintro e w1 ⟨rfl, hb1⟩
        have hb2 := hb.trans (hb1.mono hb.size)
        go_wp2_with fail
        go_roundw
        case rel =>
          refine ⟨k + 1, by omega, by go_num, fun j y hj hy => ?_, hb2⟩
          by_cases e : j = k
          · subst e
            rw [Hx.out] at hy
            cases hy
            exact Hn.out
          · exact Hk.out j y (by omega) hy
        case measure => simp [RowKit.intOf]; omega
    · have Hr := Lib.hid (idxT_miss (l := l) (fun j y hj => Hk.out j y (by omega)))
      go_wp2_with fail
      go_ret
      exact ⟨_, rfl, by rw [Hr.out]; simp, hb⟩

set_option maxRecDepth 100000 in
set_option maxHeartbeats 800000 in
theorem typed_any (a : Option Addr) (cap : Nat) (l : List Rul) (w : World) (hl : l.length ≤ 140737488351232) (ha : RowsAt rulLay w a l) :
    Calls Tryz.prog 19 #[.slice a l.length cap, .func (.func 20) #[] #[]] w fun e w' => e = .returned (.bool (l.any fun x => x.kind == 3)) ∧ Below w.heap.size w w' := by
  have HC := Lib.hid (typedAt_any a cap l w hl ha)
  clear ha
  go_enter Tryz.func19, Tryz.ntmps19
  go_wp2_with fail
  refine HC.out.mono ?_
  rintro e w1 ⟨n, rfl, hn, hb⟩
  go_wp2_with fail
  go_ret
  exact ⟨by rw [← hn]; rfl, hb⟩
theorem idxR_miss {l : List Rul} {r : Rul} (h : ∀ j y, j < l.length → l[j]? = some y → ¬ (y.kind = r.kind ∧ y.text = r.text)) : (l.any fun x => x.kind == r.kind && decide (x.text = r.text)) = false := by
  rw [List.any_eq_false]
  intro x hx
  obtain ⟨j, hj, e⟩ := List.getElem_of_mem hx
  have := h j x hj (by rw [List.getElem?_eq_getElem hj, e])
  simpa using this
theorem idxR_hit {l : List Rul} {r : Rul} {k : Nat} {x : Rul} (hx : l[k]? = some x) (h1 : x.kind = r.kind) (h2 : x.text = r.text) : (l.any fun x => x.kind == r.kind && decide (x.text = r.text)) = true := by
  rw [List.any_eq_true]
  exact ⟨x, List.mem_of_getElem? hx, by simp [h1, h2]⟩

set_option maxRecDepth 100000 in
set_option maxHeartbeats 800000 in
theorem ruleAt_any (a : Option Addr) (cap : Nat) (l : List Rul) (r : Rul) (w : World) (hl : l.length ≤ 140737488351232) (ha : RowsAt rulLay w a l) :
    Calls Tryz.prog 39 #[.slice a l.length cap, .agg #[.int .i64 r.kind, .string r.text]] w fun e w' => ∃ n : Int, e = .returned (.int .i64 n) ∧ (decide (0 ≤ n) = l.any fun x => x.kind == r.kind && decide (x.text = r.text)) ∧ Below w.heap.size w w' := by
  obtain ⟨rk, rt⟩ := r
  dsimp only
  have hb0 := (Below.refl w.heap.size w).alloc (Nat.le_refl _) (.cells #[.int .i64 rk, .string rt] 29)
  have HA := Lib.hid (ha.keeps hb0)
  clear ha
  go_enter Tryz.func39, Tryz.ntmps39
  go_wp2_with fail
  have r0 : (w.alloc (.cells #[.int .i64 rk, .string rt] 29)).cell? ⟨w.heap.size, 0, none⟩ = some (.int .i64 rk) := by simp
  have r1 : (w.alloc (.cells #[.int .i64 rk, .string rt] 29)).cell? ⟨w.heap.size, 1, none⟩ = some (.string rt) := by simp
  generalize w.alloc (.cells #[.int .i64 rk, .string rt] 29) = wo at *
  go_loopw [5, 8] (fun _ i wr => ∃ k : Nat, k ≤ l.length ∧ i = .int .i64 k ∧ Hid (∀ j y, j < k → l[j]? = some y → ¬ (y.kind = rk ∧ y.text = rt)) ∧ ∃ n, wr = wo.drewN n) (fun _ i _ => l.length - (RowKit.intOf i).toNat)
  case atStart => exact ⟨0, Nat.zero_le _, rfl, fun j _ hj => absurd hj (Nat.not_lt_zero _), Drawn.refl _⟩
  case round =>
    obtain ⟨k, hk, rfl, Hk, n, rfl⟩ := hrel
    by_cases hlt : k < l.length
    · obtain ⟨x, hx⟩ := at_some hlt
      obtain ⟨b, off, rfl, hbl, c0, c1⟩ := rul_at HA.out hx
      obtain ⟨xk, xt⟩ := x
      dsimp only at c0 c1
      have Hx := Lib.hid hx
      clear hx
      have hk1 : (0 : Int) ≤ k := by omega
      have hk2 : (k : Int) < l.length := by omega
      by_cases h1 : xk = rk ∧ xt = rt
      · obtain ⟨rfl, rfl⟩ := h1
        have Hr := Lib.hid (idxR_hit (r := ⟨xk, xt⟩) Hx.out rfl rfl)
        go_wp2_with fail
        go_quiet (fail)
        go_wp2_with fail
        go_ret
        exact ⟨_, rfl, by rw [Hr.out]; simp, below_drewN (below_drewN hb0 n) nq⟩
      · have Hn := Lib.hid h1
        by_cases hk3 : xk = rk
        · have e2 : (rt.toList == xt.toList) = false := str_ne fun e => h1 ⟨hk3, e.symm⟩
          subst hk3
          clear h1
          go_wp2_with fail
          go_quiet (fail)
          go_wp2_with fail
          go_roundw
          case rel =>
            refine ⟨k + 1, by omega, by go_num, fun j y hj hy => ?_, n + nq, by simp⟩
            by_cases e : j = k
            · subst e
              rw [Hx.out] at hy
              cases hy
              exact fun hh => Hn.out ⟨trivial, hh.2⟩
            · exact Hk.out j y (by omega) hy
          case measure => simp [RowKit.intOf]; omega
        · have e1 : (rk == xk) = false := by rw [beq_eq_false_iff_ne]; exact fun e => hk3 e.symm
          clear h1 hk3
          go_wp2_with fail
          go_quiet (fail)
          go_wp2_with fail
          go_roundw
          case rel =>
            refine ⟨k + 1, by omega, by go_num, fun j y hj hy => ?_, n + nq, by simp⟩
            by_cases e : j = k
            · subst e
              rw [Hx.out] at hy
              cases hy
              exact Hn.out
            · exact Hk.out j y (by omega) hy
          case measure => simp [RowKit.intOf]; omega
    · have Hr := Lib.hid (idxR_miss (l := l) (r := ⟨rk, rt⟩) (fun j y hj => Hk.out j y (by omega)))
      go_wp2_with fail
      go_ret
      exact ⟨_, rfl, by rw [Hr.out]; simp, below_drewN hb0 n⟩

set_option maxRecDepth 100000 in
set_option maxHeartbeats 800000 in
theorem hasRule_any (a : Option Addr) (cap : Nat) (l : List Rul) (r : Rul) (w : World) (hl : l.length ≤ 140737488351232) (ha : RowsAt rulLay w a l) :
    Calls Tryz.prog 21 #[.slice a l.length cap, .agg #[.int .i64 r.kind, .string r.text]] w fun e w' => e = .returned (.bool (l.any fun x => x.kind == r.kind && decide (x.text = r.text))) ∧ Below w.heap.size w w' := by
  have hb0 := (Below.refl w.heap.size w).alloc (Nat.le_refl _) (.cells #[.int .i64 r.kind, .string r.text] 29)
  have HC := Lib.hid (ruleAt_any a cap l r _ hl (ha.keeps hb0))
  obtain ⟨rk, rt⟩ := r
  dsimp only at hb0 HC ⊢
  clear ha
  go_enter Tryz.func21, Tryz.ntmps21
  go_wp2_with fail
  refine HC.out.mono ?_
  rintro e w1 ⟨n, rfl, hn, hb⟩
  have hb1 := hb0.trans (hb.mono (by simp))
  go_wp2_with fail
  go_ret
  exact ⟨by rw [← hn]; rfl, hb1⟩
end Go.Proofs.YteeaaphpahnjcaaGreatDoor

namespace Go.Proofs.YteeaaphpahnjcaaGreatDoor
open Go.RowKit Go.Lib

theorem matchG_no {l : List Rul} {p : ByteArray} {dir : Bool} (h : ((bestG p l l.length).getD noRul).kind ≠ 1) : matchG l p dir = false := by
  unfold matchG
  cases hb : bestG p l l.length with
  | none => rfl
  | some y =>
    rw [hb] at h
    have h' : (y.kind == 1) = false := by rw [beq_eq_false_iff_ne]; exact h
    simp only [h', Bool.false_and]
theorem matchG_yes {l : List Rul} {p : ByteArray} {dir : Bool} (h : ((bestG p l l.length).getD noRul).kind = 1) : matchG l p dir = (dir || !l.any (fun x => x.kind == 3) || l.any fun x => x.kind == 3 && decide (x.text = endG p)) := by
  unfold matchG
  cases hb : bestG p l l.length with
  | none => rw [hb] at h; exact absurd h (by decide)
  | some y =>
    rw [hb] at h
    have h' : (y.kind == 1) = true := by rw [beq_iff_eq]; exact h
    simp only [h', Bool.true_and]
theorem fieldRule (k : Int) (t : ByteArray) (W : World) : (Instr.field 29 (.agg #[.int .i64 k, .string t]) 0).run Tryz.prog W = .ok (.int .i64 k) W := by kernel_rfl
theorem last_in (s : ByteArray) : -1 ≤ Lib.lastIndexByte s 47 ∧ Lib.lastIndexByte s 47 < s.size := by
  rcases Lib.lastIndexByte_spec s 47 with ⟨e, _⟩ | ⟨i, hi, e, _⟩
  · rw [e]; omega
  · rw [e]; omega

set_option maxRecDepth 100000 in
set_option maxHeartbeats 1600000 in
theorem match_any (a : Option Addr) (cap : Nat) (l : List Rul) (p : ByteArray) (dir : Bool) (w : World) (hsz : ∀ x ∈ l, x.text.size ≤ 100000) (hl : l.length ≤ 1000) (hp : p.size ≤ 100000) (ha : RowsAt rulLay w a l) :
    Calls Tryz.prog 9 #[.slice a l.length cap, .string p, .bool dir] w fun e w' => e = .returned (.bool (matchG l p dir)) ∧ Below w.heap.size w w' := by
  have HD := Lib.hid (decides_any a cap l p w hsz (by omega) ha)
  have HT := Lib.hid fun W (hb : Below w.heap.size w W) => typed_any a cap l W (by omega) (ha.keeps hb)
  have HC := Lib.hid fun r W (hb : Below w.heap.size w W) => hasRule_any a cap l r W (by omega) (ha.keeps hb)
  have HL := Lib.hid fun W => Tryz.strings_LastIndexByte p 47 (by omega) W
  have HE := Lib.hid fun q W (hq : q.size ≤ 100000) => ext_any q W (by omega)
  have hr := last_in p
  clear ha
  by_cases hk : ((bestG p l l.length).getD noRul).kind = 1
  · have hm := matchG_yes (dir := dir) hk
    have e1 : (((bestG p l l.length).getD noRul).kind != 1) = false := by rw [hk]; rfl
    have hend : endG p = ⟨(extL (p.extract (Lib.lastIndexByte p 47 + 1).toNat p.size).data.toList).toArray⟩ := rfl
    have Hm := Lib.hid hm
    clear hm hk
    generalize (bestG p l l.length).getD noRul = bb at *
    obtain ⟨bk, bt⟩ := bb
    dsimp only at e1 HD
    have hfld := fieldRule bk bt
    generalize hty : (l.any fun x => x.kind == 3) = ty at *
    cases dir with
    | true =>
      go_enter Tryz.func9, Tryz.ntmps9
      go_wp2_with fail
      refine HD.out.mono ?_
      rintro e w1 ⟨rfl, hb1⟩
      go_wp2_with fail
      refine (HT.out _ hb1).mono ?_
      rintro e w2 ⟨rfl, hb2⟩
      go_wp2_with fail
      go_ret
      exact ⟨by rw [Hm.out]; simp, hb1.trans (hb2.mono hb1.size)⟩
    | false =>
      cases ty with
      | false =>
        go_enter Tryz.func9, Tryz.ntmps9
        go_wp2_with fail
        refine HD.out.mono ?_
        rintro e w1 ⟨rfl, hb1⟩
        go_wp2_with fail
        refine (HT.out _ hb1).mono ?_
        rintro e w2 ⟨rfl, hb2⟩
        go_wp2_with fail
        go_ret
        exact ⟨by rw [Hm.out]; simp, hb1.trans (hb2.mono hb1.size)⟩
      | true =>
        have Hend := Lib.hid hend
        clear hend
        generalize Lib.lastIndexByte p 47 = r at *
        obtain ⟨r1, r2⟩ := hr
        obtain ⟨n, hn⟩ : ∃ n : Nat, r + 1 = n := ⟨(r + 1).toNat, by omega⟩
        have hn2 : n ≤ p.size := by omega
        have hr' : r = (n : Int) - 1 := by omega
        subst hr'
        have he : (((n : Int) - 1 + 1).toNat) = n := by omega
        rw [he] at Hend
        clear r1 r2 hn he
        go_enter Tryz.func9, Tryz.ntmps9
        go_wp2_with fail
        refine HD.out.mono ?_
        rintro e w1 ⟨rfl, hb1⟩
        go_wp2_with fail
        refine (HT.out _ hb1).mono ?_
        rintro e w2 ⟨rfl, hb2⟩
        have hb3 := hb1.trans (hb2.mono hb1.size)
        go_wp2_with fail
        refine (HL.out _).mono ?_
        rintro e w3 ⟨rfl, rfl⟩
        go_wp2_with fail
        have hq : (p.extract n p.size).size ≤ 100000 := by rw [ByteArray.size_extract]; omega
        refine (HE.out _ _ hq).mono ?_
        rintro e w4 ⟨rfl, rfl⟩
        rw [← Hend.out]
        go_wp2_with fail
        refine (HC.out ⟨3, endG p⟩ _ hb3).mono ?_
        rintro e w5 ⟨rfl, hb5⟩
        go_wp2_with fail
        go_ret
        exact ⟨by rw [Hm.out]; simp, hb3.trans (hb5.mono hb3.size)⟩
  · have Hm := Lib.hid (matchG_no (dir := dir) hk)
    have e1 : (((bestG p l l.length).getD noRul).kind != 1) = true := by rw [bne_iff_ne]; exact hk
    clear hk
    generalize (bestG p l l.length).getD noRul = bb at *
    obtain ⟨bk, bt⟩ := bb
    dsimp only at e1 HD
    have hfld := fieldRule bk bt
    go_enter Tryz.func9, Tryz.ntmps9
    go_wp2_with fail
    refine HD.out.mono ?_
    rintro e w1 ⟨rfl, hb1⟩
    go_wp2_with fail
    go_ret
    exact ⟨ret_bool Hm.out.symm, hb1⟩
end Go.Proofs.YteeaaphpahnjcaaGreatDoor

namespace Go.Proofs.YteeaaphpahnjcaaGreatDoor
open Go.RowKit Go.Lib

/-- What arbourref09.Split has behind i bytes: the parts, and where the next one begins. -/
def splG (s : ByteArray) (c : UInt8) : Nat → List ByteArray × Nat
  | 0 => ([], 0)
  | i + 1 => if s.data.toList[i]? = some c then ((splG s c i).1 ++ [s.extract (splG s c i).2 i], i + 1) else splG s c i
def splitG (s : ByteArray) (c : UInt8) : List ByteArray := (splG s c s.size).1 ++ [s.extract (splG s c s.size).2 s.size]
theorem splG_le (s : ByteArray) (c : UInt8) : ∀ i, (splG s c i).2 ≤ i ∧ (splG s c i).1.length ≤ i
  | 0 => ⟨Nat.le_refl _, Nat.le_refl _⟩
  | i + 1 => by
    have := splG_le s c i
    unfold splG
    split
    · simp; omega
    · omega
theorem splG_yes {s : ByteArray} {c : UInt8} {i : Nat} (hi : i < s.size) (h : s[i] = c) : splG s c (i + 1) = ((splG s c i).1 ++ [s.extract (splG s c i).2 i], i + 1) := by
  have : s.data.toList[i]? = some c := by
    rw [List.getElem?_eq_getElem (by rw [← size_eq]; exact hi)]
    exact congrArg some h
  rw [splG, if_pos this]
theorem splG_no {s : ByteArray} {c : UInt8} {i : Nat} (hi : i < s.size) (h : ¬ s[i] = c) : splG s c (i + 1) = splG s c i := by
  have : ¬ s.data.toList[i]? = some c := by
    rw [List.getElem?_eq_getElem (by rw [← size_eq]; exact hi)]
    exact fun e => h (Option.some.inj e)
  rw [splG, if_neg this]

end Go.Proofs.YteeaaphpahnjcaaGreatDoor

namespace Go.Proofs.YteeaaphpahnjcaaGreatDoor
open Go.RowKit Go.Lib

theorem splG_last (s : ByteArray) (c : UInt8) : ∀ k, k ≤ s.size → (splG s c k).2 = (Lib.lastIdx s c.toNat k + 1).toNat := by
  intro k
  induction k with
  | zero => intro _; rfl
  | succ k ih =>
    intro hk
    have hl : k < s.data.toList.length := by rw [← size_eq]; omega
    have hb : s.data[k]! = s.data.toList[k] := by
      rw [getElem!_pos s.data k (by simpa using hl)]
      simp
    by_cases hc : s.data.toList[k] = c
    · have h1 : s.data.toList[k]? = some c := by rw [List.getElem?_eq_getElem hl, hc]
      rw [splG, if_pos h1, Lib.lastIdx_hit s c.toNat k (by rw [hb, hc])]
      dsimp only
      omega
    · have h1 : ¬ s.data.toList[k]? = some c := by rw [List.getElem?_eq_getElem hl]; exact fun e => hc (Option.some.inj e)
      have h2 : ¬ ((s.data[k]!).toNat : Int) = c.toNat := by
        rw [hb]
        exact fun e => hc (by rw [← UInt8.toNat_inj]; exact Int.ofNat.inj e)
      rw [splG, if_neg h1, ih (by omega)]
      congr 2
      simp only [Lib.lastIdx, h2, if_false]
theorem split_lastG (p : ByteArray) : ∃ out, splitG p 47 = out ++ [p.extract (Lib.lastIndexByte p 47 + 1).toNat p.size] ∧ out.length ≤ p.size := by
  refine ⟨(splG p 47 p.size).1, ?_, (splG_le p 47 p.size).2⟩
  unfold splitG
  rw [splG_last p 47 p.size (Nat.le_refl _)]
  rfl

end Go.Proofs.YteeaaphpahnjcaaGreatDoor

