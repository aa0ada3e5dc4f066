/-
  glob.Print: what it returns.
-/
import Derived.Test.YteeaaphpahnjcaaGreatDoorGlobBack
import Derived.Test.YteeaaphpahnjcaaGreatDoorGlp10
import Derived.Test.YteeaaphpahnjcaaGreatDoorBuilder
import Derived.Deep.RegionHeld3
namespace Go.Proofs.YteeaaphpahnjcaaGreatDoor
open Go Go.RowKit Go.Lib

theorem word_any (k : Int) (w : World) (h : k = 1 ∨ k = 2 ∨ k = 3) : Calls Tryz.prog 31 #[.int .i64 k] w fun e w' => e = .returned (.string (ba (wordG k))) ∧ w = w' := by
  rcases h with rfl | rfl | rfl
  · exact word1_any w
  · exact word2_any w
  · exact word3_any w
theorem word_size (k : Int) : (ba (wordG k)).size ≤ 8 := by
  rw [size_eq, ba_data]
  unfold wordG
  split
  · decide
  split
  · decide
  · decide
theorem app_data (a b : ByteArray) : (a ++ b : ByteArray).data.toList = a.data.toList ++ b.data.toList := by simp
theorem linesL_snoc (l : List Rul) (x : Rul) : linesL (l ++ [x]) = linesL l ++ ruleL x := by simp [linesL]
theorem linesL_step {l : List Rul} {k : Nat} {x : Rul} (h : l[k]? = some x) : linesL (l.take (k + 1)) = linesL (l.take k) ++ ruleL x := by
  obtain ⟨hk, e⟩ := List.getElem?_eq_some_iff.1 h
  rw [List.take_add_one, h, Option.toList_some, linesL_snoc]
theorem ruleL_size (x : Rul) : (ruleL x).length ≤ x.text.size + 9 := by
  have := word_size x.kind
  rw [size_eq, ba_data] at this
  simp only [ruleL, List.length_append, List.length_cons, List.length_nil, size_eq]
  omega
theorem linesL_size {n : Nat} : ∀ l : List Rul, (∀ x ∈ l, x.text.size ≤ n) → (linesL l).length ≤ l.length * (n + 9)
  | [], _ => by simp [linesL]
  | x :: l, h => by
    have h1 := linesL_size l (fun y hy => h y (List.mem_cons_of_mem _ hy))
    have h2 := ruleL_size x
    have h3 := h x List.mem_cons_self
    have e : linesL (x :: l) = ruleL x ++ linesL l := rfl
    rw [e, List.length_append, List.length_cons, Nat.succ_mul]
    omega
theorem print_big {l : List Rul} (h : 16 < l.length) : printG l = ([], 40) := if_pos h
theorem print_bad {l : List Rul} (h : ¬ 16 < l.length) {k : Nat} {x : Rul} (hx : l[k]? = some x) (hr : ruleG x = false) : printG l = ([], 30) := by
  unfold printG
  rw [if_neg h, if_neg]
  intro ha
  have := List.all_eq_true.1 ha x (List.mem_of_getElem? hx)
  rw [hr] at this
  cases this
theorem print_ok {l : List Rul} (h : ¬ 16 < l.length) (ha : ∀ j y, j < l.length → l[j]? = some y → ruleG y = true) : printG l = (linesL l, 0) := by
  unfold printG
  rw [if_neg h, if_pos]
  refine List.all_eq_true.2 fun y hy => ?_
  obtain ⟨j, hj, e⟩ := List.mem_iff_getElem.1 hy
  exact ha j y hj (by rw [List.getElem?_eq_getElem hj, e])
set_option maxRecDepth 100000 in
set_option maxHeartbeats 3200000 in
theorem print_any (a : Option Addr) (cap : Nat) (l : List Rul) (w : World) (hl : l.length ≤ 140737488351232) (hsz : ∀ x ∈ l, x.text.size ≤ 100000) (ha : RowsAt rulLay w a l) (hm : MaxAt w) :
    Calls Tryz.prog 11 #[.slice a l.length cap] w fun e w' => e = .returned (.tuple #[.string (ba (printG l).1), .int .i64 (printG l).2]) ∧ Below w.heap.size w w' := by
  have HA := Lib.hid ha
  have Hsz := Lib.hid hsz
  have HM := Lib.hid hm
  clear ha hsz hm
  by_cases hbig : 16 < l.length
  · rw [print_big hbig]
    go_enter Tryz.func11, Tryz.ntmps11
    go_wp2_with fail
    go_ret2
    exact ⟨rfl, Below.refl _ _⟩
  · obtain ⟨R, HR⟩ : ∃ R, Hid (printG l = R) := ⟨_, Lib.hid rfl⟩
    rw [HR.out]
    go_enter Tryz.func11, Tryz.ntmps11
    go_wp2_with fail
    go_loopw [6, 12] (fun _ i wr => ∃ k : Nat, k ≤ l.length ∧ i = .int .i64 k ∧ Lib.IsBuilder 58 5 w.heap.size w.heap.size (Lib.byteCells (linesL (l.take k))) wr ∧ Below w.heap.size w wr ∧ w.heap.size < wr.heap.size ∧ Hid (∀ j y, j < k → l[j]? = some y → ruleG y = true)) (fun _ i _ => l.length - (RowKit.intOf i).toNat)
    case atStart => exact ⟨0, Nat.zero_le _, rfl, Lib.fresh_isBuilder _ _ w, (Below.refl _ _).alloc (Nat.le_refl _) _, by simp, Lib.hid (fun j _ hj => absurd hj (Nat.not_lt_zero _))⟩
    case round =>
      obtain ⟨k, hk, rfl, hbu, hb, hlw, Hk⟩ := hrel
      by_cases hlt : k < l.length
      · obtain ⟨x, hx⟩ := at_some hlt
        obtain ⟨b, off, rfl, hbl, c0, c1⟩ := rul_at (HA.out.keeps hb) hx
        have hxs := Hsz.out x (List.mem_of_getElem? hx)
        have Hx := Lib.hid hx
        have Hst := Lib.hid (linesL_step hx)
        obtain ⟨xk, xt⟩ := x
        dsimp only at c0 c1 hxs
        clear hx
        have HG := Lib.hid fun W hM => gright_any xk xt W hxs hM
        have hal := (Below.refl wr.heap.size wr).alloc (Nat.le_refl _) (.cells #[.int .i64 xk, .string xt] 29)
        have hbx := hb.trans (hal.mono hb.size)
        have hbux := builder_far hbu hal
        have d0 : (wr.alloc (.cells #[.int .i64 xk, .string xt] 29)).cell? ⟨wr.heap.size, 0, none⟩ = some (.int .i64 xk) := cells_new_at wr _ _ _ rfl 0 _ rfl
        have d1 : (wr.alloc (.cells #[.int .i64 xk, .string xt] 29)).cell? ⟨wr.heap.size, 1, none⟩ = some (.string xt) := cells_new_at wr _ _ _ rfl 1 _ rfl
        have hz : wr.heap.size < (wr.alloc (.cells #[.int .i64 xk, .string xt] 29)).heap.size := by simp
        have hmx := HM.out.keeps hbx
        have hhx : (wr.alloc (.cells #[.int .i64 xk, .string xt] 29)).heap[wr.heap.size]? = some (.cells #[.int .i64 xk, .string xt] 29 (0, 0)) := heap_alloc_new wr _
        go_wp2_with fail
        generalize wr.alloc (.cells #[.int .i64 xk, .string xt] 29) = W1 at *
        refine (HG.out _ hmx).mono ?_
        rintro e w2 ⟨rfl, hb2⟩
        have hb2w := hbx.trans (hb2.mono hbx.size)
        have hs2 := hb2.size
        cases hq : ruleG ⟨xk, xt⟩ with
        | false =>
          have Hr := Lib.hid (print_bad hbig Hx.out hq)
          go_wp2_with fail
          go_ret2
          exact ⟨by rw [← HR.out, Hr.out]; rfl, hb2w⟩
        | true =>
          have hkd := rule_kind hq
          have Hq := Lib.hid hq
          clear hq
          have HWd := Lib.hid fun W => word_any xk W hkd
          have hws := word_size xk
          have Hrl := Lib.hid (show ruleL ⟨xk, xt⟩ = (ba (wordG xk) ++ xt ++ ⟨#[10]⟩ : ByteArray).data.toList by rw [app_data, app_data]; rfl)
          have Hln := Lib.hid (show (linesL (l.take k)).length ≤ 16 * 100009 from by
            have h1 := linesL_size (n := 100000) (l.take k) (fun y hy => Hsz.out y (List.mem_of_mem_take hy))
            have h2 : (l.take k).length ≤ 16 := by rw [List.length_take]; omega
            exact Nat.le_trans h1 (Nat.mul_le_mul_right _ h2))
          dsimp only at hkd
          clear hkd
          generalize ba (wordG xk) = q at *
          have e0 := (hb2.cell (p := ⟨wr.heap.size, 0, none⟩) hz).trans d0
          have e1 := (hb2.cell (p := ⟨wr.heap.size, 1, none⟩) hz).trans d1
          have hbu2 := builder_far hbux hb2
          have hA1 : ¬ (q.size + xt.size > 9223372036854775807) := by omega
          have hA2 : q.size + xt.size ≤ 9223372036854775807 := by omega
          have hA3 : ¬ (q.size + xt.size + 1 > 9223372036854775807) := by omega
          have hA4 : q.size + xt.size + 1 ≤ 9223372036854775807 := by omega
          have hbud := builder_far hbu2 (Below.refl w2.heap.size w2).drew
          have hqs : (q ++ xt ++ ⟨#[10]⟩ : ByteArray).size = q.size + xt.size + 1 := by rw [ByteArray.size_append, ByteArray.size_append]; rfl
          have HWr := Lib.hid (write_any w.heap.size w.heap.size _ (q ++ xt ++ ⟨#[10]⟩) w2.drew hbud (by have := Hln.out; rw [Lib.byteCells_length, hqs]; omega) (by show w.heap.size ≤ w2.heap.size; omega))
          clear hbu hbux hbu2 c0 c1 d0 d1 hqs
          go_wp2_with fail
          have hh2 : w2.drew.heap[wr.heap.size]? = some (.cells #[.int .i64 xk, .string xt] 29 (0, 0)) := (hb2.block _ hz).trans hhx
          have hkc : w2.drew.cell? ⟨wr.heap.size, 0, none⟩ = some (.int .i64 xk) ∧ w2.drew.cell? ⟨wr.heap.size, 1, none⟩ = some (.string xt) := ⟨e0, e1⟩
          go_region_held3 (fun w' => w'.cell? ⟨wr.heap.size, 0, none⟩ = some (.int .i64 xk) ∧ w'.cell? ⟨wr.heap.size, 1, none⟩ = some (.string xt))
            (first | exact hkc | (exact ⟨by assumption, by assumption⟩))
            (first | (go_at_call 31; refine (HWd.out _).mono ?_; rintro e w3 ⟨rfl, rfl⟩) | (go_at_call 30; refine HWr.out.mono ?_; rintro e w3 ⟨rfl, hbu3, hb3, hk3⟩; have hh3 := hk3 _ _ hh2 (by simp; omega) (by intro c fz h; simp at h); have z0 := Lib.cell_of_heap hh3 0; have z1 := Lib.cell_of_heap hh3 1))
          have hs3 := hb3.size
          have hb3w := hb2w.drew.trans hb3
          have hs2d : w2.drew.heap.size = w2.heap.size := rfl
          clear z0 z1 hkc
          go_wp2_with fail
          go_roundw
          case rel =>
            refine ⟨k + 1, by omega, by go_num, ?_, hb3w, by omega, Lib.hid fun j y hj hy => ?_⟩
            · rw [Hst.out, Hrl.out, ← byteCells_append, ← strCells_bytes]
              exact .inr hbu3
            · by_cases e : j = k
              · subst e
                rw [Hx.out] at hy
                cases hy
                exact Hq.out
              · exact Hk.out j y (by omega) hy
          case measure => simp [RowKit.intOf]; omega
      · obtain rfl : k = l.length := by omega
        have hR := HR.out
        rw [print_ok hbig (fun j y hj hy => Hk.out j y hj hy)] at hR
        rw [List.take_length] at hbu
        have hf := Lib.IsBuilderF.of hbu
        have HS := Lib.hid fun W h hB => Tryz.Builder_String_any_f w.heap.size w.heap.size (linesL l) W h hB
        have Hr := Lib.hid hR
        clear hR hbu
        go_wp2_with fail
        refine (HS.out _ hf (Nat.le_of_lt hlw)).mono ?_
        rintro e w3 ⟨rfl, -, hb3⟩
        go_wp2_with fail
        go_ret2
        exact ⟨by rw [← Hr.out]; rfl, hb.trans hb3⟩
end Go.Proofs.YteeaaphpahnjcaaGreatDoor
