/-
  glob.Parse, whole.
-/
import Derived.Test.YtalkckalbmaghaaDoorGlp8
namespace Go.Proofs.YtalkckalbmaghaaDoor
open Go Go.RowKit Go.Lib Go.Shelf

attribute [local go_sem] Oper.semAt_some

theorem parse_all_nil (s : ByteArray) (h : s = ⟨#[]⟩) : parseG s.data.toList = ansG (goG [] (((linesF (s.size + 1) s.data.toList).map ba).map trimB)) := by
  subst h
  rfl
set_option maxRecDepth 100000 in
set_option maxHeartbeats 3200000 in
theorem parse_nil_in (s : ByteArray) (w : World) (hs : s.size ≤ 100000) (hm : MaxAt w) (h : s = ⟨#[]⟩) : CallsIn Fence.wide 10 Tryd.prog 12 #[.string s] w fun e w' => ∃ v, e = .returned (.tuple #[v, .int .i64 (parseG s.data.toList).2]) ∧
      OwnRows rulLay w' w.heap.size 33 v (parseG s.data.toList).1 ∧ Below w.heap.size w w' := by
  have HC := Lib.hid fun (m : Nat) (W : World) => (callsIn_wide (n := m)).2 ((Tryd.strings_Count_one s 10 W).mono fun _ _ h => (⟨h.1, h.2.symm⟩ : _ ∧ W = _))
  have HLn := Lib.hid fun (m : Nat) (W : World) => (callsIn_wide (n := m)).2 (lines_any s W)
  rw [show Lib.countByte s.data.toList 10 = s.data.toList.count 10 from rfl] at HC
  have he : s.toList.isEmpty = true := by rw [h, toList_data]; rfl
  have hc0 : s.data.toList.count 10 = 0 := by rw [h]; rfl
  have hall0 := parse_all_nil s h
  clear h
  generalize hc : s.data.toList.count 10 = c at *
  have hd : decide ((16 : Int) < (c : Int)) = false := decide_eq_false (by omega)
  have hV2 : VarAt ((w.alloc (.cells #[.slice none 0 0] 23)).alloc (.cells #[.int .i64 0] 24)) w.heap.size [.slice none 0 0] := (VarAt.new w _ _).keeps ((Below.refl _ _).alloc (Nat.le_refl _) _) (by simp)
  have hV3 : VarAt ((w.alloc (.cells #[.slice none 0 0] 23)).alloc (.cells #[.int .i64 0] 24)) (w.alloc (.cells #[.slice none 0 0] 23)).heap.size [.int .i64 0] := VarAt.new _ _ _
  have hB := ((Below.refl w.heap.size w).alloc (Nat.le_refl _) (.cells #[.slice none 0 0] 23)).alloc (by simp) (.cells #[.int .i64 0] 24)
  have hsz : ((w.alloc (.cells #[.slice none 0 0] 23)).alloc (.cells #[.int .i64 0] 24)).heap.size = w.heap.size + 2 := by simp
  rw [World.size_alloc] at hV3
  refine callsIn_of_wp_marks Tryd.func12 rfl trivial ?_ rfl
  simp only [Tryd.ntmps12, List.size_toArray, List.length_cons, List.length_nil, Nat.reduceAdd, Nat.reduceSub, Array.replicate_succ, Array.replicate_zero, List.push_toArray, List.append_toArray, List.nil_append, List.cons_append]
  gi_wp2
  generalize (w.alloc (.cells #[.slice none 0 0] 23)).alloc (.cells #[.int .i64 0] 24) = W1 at *
  refine ⟨trivial, ?_⟩
  gi_wp2
  refine ⟨trivial, (HC.out _ _).mono ?_⟩
  rintro e w1 ⟨rfl, rfl⟩
  gi_wp2
  refine ⟨trivial, (HLn.out _ _).mono ?_⟩
  rintro e w1 ⟨rfl, rfl⟩
  gi_wp2
  have hal4 := (Below.refl W1.heap.size W1).alloc (Nat.le_refl _) (.cells #[.slice none 0 0] 23)
  have hal5 := (Below.refl (W1.alloc (.cells #[.slice none 0 0] 23)).heap.size (W1.alloc (.cells #[.slice none 0 0] 23))).alloc (Nat.le_refl _) (.cells #[.string s] 9)
  have hV4 := (VarAt.new W1 #[.slice none 0 0] 23).keeps hal5 (by simp)
  have hV5 := VarAt.new (W1.alloc (.cells #[.slice none 0 0] 23)) #[.string s] 9
  have hV2' := (hV2.keeps hal4 hV2.1).keeps hal5 (by have := hV2.1; simp; omega)
  have hV3' := (hV3.keeps hal4 hV3.1).keeps hal5 (by have := hV3.1; simp; omega)
  have hB' := (hB.alloc hB.size (.cells #[.slice none 0 0] 23)).alloc (by simp; omega) (.cells #[.string s] 9)
  have hsz4 : ((W1.alloc (.cells #[.slice none 0 0] 23)).alloc (.cells #[.string s] 9)).heap.size = w.heap.size + 4 := by simp [hsz]
  rw [World.size_alloc] at hV5
  rw [hsz] at hV4 hV5
  generalize (W1.alloc (.cells #[.slice none 0 0] 23)).alloc (.cells #[.string s] 9) = W0 at *
  have hP0 : PI w [] W0 := ⟨[], .slice none 0 0, rfl, hV4, OwnRows.nil _ _ _ _, hV2', hV3', hB', by omega⟩
  clear hal4 hal5 hV2 hV3 hV4 hV2' hV3' hB' hB
  have hall := hall0
  clear hall0
  generalize hxs : (linesF (s.size + 1) s.data.toList).map ba = xs at *
  have hseq := lines_box 9 (by decide) s hs (w.heap.size + 3) W0 (hV5.2.2 0 _ rfl) (hV5.2.1 0)
  rw [hxs] at hseq
  refine wpIn_rangeFunc_box (n := 10) (w0 := W0) (bx := w.heap.size + 3) (xs := xs) rfl (by decide) (gf := 54) (lb := #[.pointer (some ⟨w.heap.size + 3, 0, none⟩)]) rfl trivial (fun args w => by simp [go_sem]) hseq (Below.refl _ _) (by omega) rfl
    (PI w) (PX w xs) (fun pre W v h => h.set v) (fun pre W h => h.drew) (fun pre W l o o' h hl ho hc => h.putObj (by omega) ho hc o') (fun c pre W l o o' h hl _ _ => h.putObj (by omega) o')
    (fun o o' => (hP0.alloc o).alloc o') ?fr ?hassign ?hbody ?hdone ?hstop
  case hassign =>
    intro l x W K hK
    gi_wp2
    exact hK
  case hdone =>
    rintro W ⟨acc, v, q1, q2, q3, q4, q5, q6, q7⟩ hD
    rw [hsz4] at hD
    obtain ⟨av, cv, rfl, _, _⟩ := q3.read
    have k2 := q4.2.2 0 _ rfl
    have f2 := q4.2.1 0
    have k3 := q5.2.2 0 _ rfl
    have f3 := q5.2.1 0
    have k4 := q2.2.2 0 _ rfl
    have f4 := q2.2.1 0
    have g2 := (q4.set 0 (.slice av acc.length cv) (by simp)).other (k := w.heap.size + 1) (i := 0) (.int .i64 0) (by omega)
    have g3 := (q5.other (k := w.heap.size) (i := 0) (.slice av acc.length cv) (by omega)).set 0 (.int .i64 0) (by simp)
    have hb := (q6.setCell (p := ⟨w.heap.size, 0, none⟩) (Nat.le_refl _) (.slice av acc.length cv)).setCell (p := ⟨w.heap.size + 1, 0, none⟩) (Nat.le_succ _) (.int .i64 0)
    have hK : ((W.setCell ⟨w.heap.size, 0, none⟩ (.slice av acc.length cv)).setCell ⟨w.heap.size + 1, 0, none⟩ (.int .i64 0)).heap[w.heap.size + 4]? = some (.deferred (some [])) := (heap_other _ _ (by omega)).trans ((heap_other _ _ (by omega)).trans hD)
    have ho := ((q3.kept (grownBy_setCell' W w.heap.size (.slice av acc.length cv)) (.inr (fun e => by have := (q3.lt e).1; omega))).kept (grownBy_setCell' _ (w.heap.size + 1) (.int .i64 0)) (.inr (fun e => by have := (q3.lt e).1; omega))).putObj hK rfl (.deferred none)
    have t2 := (g2.putObj (l := w.heap.size + 4) (by omega) (.deferred none)).2.2 0 _ rfl
    have t3 := (g3.putObj (l := w.heap.size + 4) (by omega) (.deferred none)).2.2 0 _ rfl
    gi_wp2
    refine ⟨by simp, .inl ⟨_, _, hsz4 ▸ rfl, run_takeDeferred hK, ?_⟩⟩
    refine ⟨.tuple #[.slice av acc.length cv, .int .i64 0], ?_, _, rfl, ho.lower (by omega), below_putObj hb (by omega) _⟩
    simp [results, Tryd.results12, go_sem, t2, t3]
  case hstop =>
    rintro c' pre W ⟨rfl, q1, q2, q4, q5, q6, q7⟩ hD
    rw [hsz4] at hD
    have t2 := (q4.putObj (l := w.heap.size + 4) (by omega) (.deferred none)).2.2 0 _ rfl
    have t3 := (q5.putObj (l := w.heap.size + 4) (by omega) (.deferred none)).2.2 0 _ rfl
    gi_wp2
    rw [goG_stops q1 q2]
    refine ⟨by simp, .inl ⟨_, _, hsz4 ▸ rfl, run_takeDeferred hD, ?_⟩⟩
    refine ⟨.tuple #[.slice none 0 0, .int .i64 30], ?_, _, rfl, OwnRows.nil _ _ _ _, below_putObj q6 (by omega) _⟩
    simp [results, Tryd.results12, go_sem, t2, t3]
  case hbody =>
    rintro l pre x W r ⟨acc, v, q1, q2, q3, q4, q5, q6, q7⟩ hpre hD hL
    have hx : x.size ≤ 100000 := by
      have hmem : x ∈ (linesF (s.size + 1) s.data.toList).map ba := by
        rw [hxs]
        exact hpre.subset (by simp)
      obtain ⟨y, hy, rfl⟩ := List.mem_map.1 hmem
      have := linesF_size _ _ _ hy
      rw [size_eq, ba_data]
      rw [size_eq] at hs
      omega
    have hz : (ba (trimB x)).size ≤ 100000 := by
      have := trimB_size x
      rw [size_eq, ba_data]
      omega
    have HT := Lib.hid fun (m : Nat) (W : World) => ((callsIn_wide (n := m)).2 ((Tryd.strings_TrimSuffix x ⟨#[10]⟩ W (by omega)).mono fun _ _ h => (⟨h.1, h.2.symm⟩ : _ ∧ W = _))).inRound l
    have HL := Lib.hid fun (m : Nat) => ((callsIn_wide (n := m)).2 (line_any (ba (trimB x)) W hz (hm.keeps q6))).inRound l
    rw [show (⟨(Lib.trimSuffix x.data.toList (⟨#[10]⟩ : ByteArray).data.toList).toArray⟩ : ByteArray) = ba (trimB x) from rfl] at HT
    rw [ba_data] at HL
    have HG := Lib.hid (goG_one x q1)
    gi_wp2
    refine ⟨trivial, (HT.out _ _).mono ?_⟩
    rintro e w1 ⟨rfl, rfl⟩
    gi_wp2
    refine ⟨trivial, (HL.out _).mono ?_⟩
    rintro e w5 ⟨rfl, hb5⟩
    generalize lineG (trimB x) = y at *
    obtain ⟨y, yb⟩ := y
    dsimp only at HG
    dsimp only
    have hal := (Below.refl w5.heap.size w5).alloc (Nat.le_refl _) (.cells #[.int .i64 y.kind, .string y.text] 33)
    have hb6 := hb5.trans (hal.mono hb5.size)
    have m2 := q4.keeps hb6 q4.1
    have m3 := q5.keeps hb6 q5.1
    have m4 := q2.keeps hb6 q2.1
    have mB := q6.trans (hb6.mono q6.size)
    have k2 := m2.2.2 0 _ rfl
    have f2 := m2.2.1 0
    have k3 := m3.2.2 0 _ rfl
    have f3 := m3.2.1 0
    have k4 := m4.2.2 0 _ rfl
    have f4 := m4.2.1 0
    cases yb with
    | false =>
      have l4 : w.heap.size + 4 < W.heap.size := by have := (Array.getElem?_eq_some_iff.1 hD).1; omega
      have l5 : w.heap.size + 4 + 1 < W.heap.size := by have := (Array.getElem?_eq_some_iff.1 hL).1; omega
      have n2 := (m2.set 0 (.slice none 0 0) (by simp)).other (k := w.heap.size + 1) (i := 0) (.int .i64 30) (by omega)
      have n3 := (m3.other (k := w.heap.size) (i := 0) (.slice none 0 0) (by omega)).set 0 (.int .i64 30) (by simp)
      have nb := (mB.setCell (p := ⟨w.heap.size, 0, none⟩) (Nat.le_refl _) (.slice none 0 0)).setCell (p := ⟨w.heap.size + 1, 0, none⟩) (Nat.le_succ _) (.int .i64 30)
      have hz6 := hb6.size
      gi_wp2
      exact ⟨⟨(heap_other _ _ (by omega)).trans ((heap_other _ _ (by omega)).trans (hb6.block _ l4)), (heap_other _ _ (by omega)).trans ((heap_other _ _ (by omega)).trans (hb6.block _ l5))⟩, rfl, hpre, HG.out, n2, n3, nb, by simp at hz6 ⊢; omega⟩
    | true =>
      have c1 : (w5.alloc (.cells #[.int .i64 y.kind, .string y.text] 33)).cell? ⟨w5.heap.size, 0, none⟩ = some (.int .i64 y.kind) := cells_new_at w5 _ _ _ rfl 0 _ rfl
      have c2 : (w5.alloc (.cells #[.int .i64 y.kind, .string y.text] 33)).cell? ⟨w5.heap.size, 1, none⟩ = some (.string y.text) := cells_new_at w5 _ _ _ rfl 1 _ rfl
      obtain ⟨i0, hi, hi0, hi1, hi2⟩ := info_parts rulInfo
      have hlen : acc.length ≤ 1000000 := by
        have h1 := goG_length _ _ _ q1
        have h2 : (pre ++ [x]).length ≤ xs.length := hpre.length_le
        have h3 := linesF_len (s.size + 1) s.data.toList
        rw [← hxs, List.length_map] at h2
        simp only [List.length_append, List.length_cons, List.length_nil, List.length_map] at h1 h2
        omega
      have ho6 := (q3.below hb5).alloc (.cells #[.int .i64 y.kind, .string y.text] 33)
      have hs5 := hb5.size
      have hal8 := (Below.refl (w5.alloc (.cells #[.int .i64 y.kind, .string y.text] 33)).heap.size (w5.alloc (.cells #[.int .i64 y.kind, .string y.text] 33))).alloc (Nat.le_refl _) (.cells #[.int .i64 y.kind, .string y.text] 33)
      have m8 := m4.keeps hal8 m4.1
      gi_wp2_with (gi_at_builtin; refine wpListIn_append_rows (w := (w5.alloc (.cells #[.int .i64 y.kind, .string y.text] 33)).alloc (.cells #[.int .i64 y.kind, .string y.text] 33)) rfl _ _ 23 rfl rulLay (w.heap.size + 4) 33 i0 _ 24 Tryd.underlying23 hi hi0 hi1 hi2 rfl (by decide) v acc rfl (ho6.alloc _) ⟨w5.heap.size + 1, 0, none⟩ 1 y rfl (cells_new_at _ _ _ _ (by simp)) (by unfold maxLen; omega) (by omega) (by simp; omega) ?_; intro v' w7 ho7 hg7 hat; obtain ⟨av, cv, rfl, _, _⟩ := ho7.read; have m7 := m8.same (hg7.block (w.heap.size + 2) m8.1 (fun e => by have := (q3.lt e.symm).1; omega)) hg7.size; have k7 := m7.2.2 0 _ rfl; have f7 := m7.2.1 0; go_frame)
      have hl1 : (acc ++ [y]).length = acc.length + 1 := by simp
      rw [hl1] at ho7
      have hsame : ∀ k, k < W.heap.size → some k ≠ v.ownBlock → k ≠ w.heap.size + 2 → (w7.setCell ⟨w.heap.size + 2, 0, none⟩ (.slice av (acc.length + 1) cv)).heap[k]? = W.heap[k]? := fun k hk hne h2 =>
        (heap_other _ _ h2).trans ((hg7.block k (by simp; omega) hne).trans ((hal8.block k (by simp; omega)).trans (hb6.block k hk)))
      have hsize : W.heap.size ≤ (w7.setCell ⟨w.heap.size + 2, 0, none⟩ (.slice av (acc.length + 1) cv)).heap.size := by
        have h1 := hg7.size
        simp at h1 ⊢
        omega
      have hlow : ∀ k, k < w.heap.size + 4 → some k ≠ v.ownBlock := fun k hk e => by
        have := (q3.lt e.symm).1
        omega
      have nb := ((mB.alloc mB.size (.cells #[.int .i64 y.kind, .string y.text] 33)).grown hg7 (by have := q6.size; simp; omega) (fun k e => by have := (q3.lt e).1; omega)).setCell (p := ⟨w.heap.size + 2, 0, none⟩) (show w.heap.size ≤ w.heap.size + 2 by omega) (.slice av (acc.length + 1) cv)
      have l4 : w.heap.size + 4 < W.heap.size := by have := (Array.getElem?_eq_some_iff.1 hD).1; omega
      have l5 : w.heap.size + 4 + 1 < W.heap.size := by have := (Array.getElem?_eq_some_iff.1 hL).1; omega
      have hD' : W.heap[w.heap.size + 4]? = some (.deferred (some [])) := by rw [← hsz4]; exact hD
      have hL' : W.heap[w.heap.size + 4 + 1]? = some (.loop r) := by rw [← hsz4]; exact hL
      exact ⟨⟨hsame _ (by omega) (hlow _ (by omega)) (by omega), hsame _ l4 (fun e => q3.not_block hD' rfl e.symm) (by omega), hsame _ l5 (fun e => q3.not_block hL' rfl e.symm) (by omega)⟩,
        acc ++ [y], _, HG.out, m7.set 0 _ (by simp), ho7.kept (grownBy_setCell' _ _ _) (.inr (fun e => by have := (ho7.lt e).1; omega)),
        q4.same (hsame _ q4.1 (hlow _ (by omega)) (by omega)) hsize, q5.same (hsame _ q5.1 (hlow _ (by omega)) (by omega)) hsize, nb, by omega⟩
/-- **glob.Parse**: what it returns; nothing that lay has turned. -/
theorem parse_any (s : ByteArray) (w : World) (hs : s.size ≤ 100000) (hm : MaxAt w) : Calls Tryd.prog 12 #[.string s] w fun e w' => ∃ v, e = .returned (.tuple #[v, .int .i64 (parseG s.data.toList).2]) ∧
      OwnRows rulLay w' w.heap.size 33 v (parseG s.data.toList).1 ∧ Below w.heap.size w w' := by
  refine (callsIn_wide (n := 10)).1 ?_
  by_cases h0 : s = ⟨#[]⟩
  · exact parse_nil_in s w hs hm h0
  have hne : s.data.toList ≠ [] := fun e => h0 (by rw [← ba_back s, e]; rfl)
  cases hf : Lib.hasSuffix s.data.toList [10] with
  | false => exact parse_short_in s w hs ⟨hne, hf⟩
  | true =>
    by_cases h2 : 16 < s.data.toList.count 10
    · exact parse_many_in s w hs hf h2
    · exact parse_loop_in s w hs hm hf h2
end Go.Proofs.YtalkckalbmaghaaDoor
