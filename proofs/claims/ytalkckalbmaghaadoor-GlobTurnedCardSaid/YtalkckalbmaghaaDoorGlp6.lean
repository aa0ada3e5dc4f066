/-
  glob.Parse: the ways out ahead of its loop.
-/
import Derived.Test.YtalkckalbmaghaaDoorGlp5
namespace Go.Proofs.YtalkckalbmaghaaDoor
open Go Go.RowKit Go.Lib Go.Shelf

attribute [local go_sem] Oper.semAt_some

theorem parse_short (s : ByteArray) (h : s.data.toList ≠ [] ∧ Lib.hasSuffix s.data.toList [10] = false) : parseG s.data.toList = ([], 30) := if_pos h
theorem parse_many (s : ByteArray) (h : Lib.hasSuffix s.data.toList [10] = true) (h2 : 16 < s.data.toList.count 10) : parseG s.data.toList = ([], 40) := by
  unfold parseG
  rw [if_neg (fun e => by rw [h] at e; exact Bool.noConfusion e.2), if_pos h2]
set_option maxRecDepth 100000 in
set_option maxHeartbeats 3200000 in
theorem parse_short_in (s : ByteArray) (w : World) (hs : s.size ≤ 100000) (h : s.data.toList ≠ [] ∧ Lib.hasSuffix s.data.toList [10] = false) : CallsIn Fence.wide 10 Tryd.prog 12 #[.string s] w fun e w' => ∃ v, e = .returned (.tuple #[v, .int .i64 (parseG s.data.toList).2]) ∧
      OwnRows rulLay w' w.heap.size 33 v (parseG s.data.toList).1 ∧ Below w.heap.size w w' := by
  rw [parse_short s h]
  have HS := Lib.hid fun (m : Nat) (W : World) => (callsIn_wide (n := m)).2 ((Tryd.strings_HasSuffix s ⟨#[10]⟩ W (by omega)).mono fun _ _ h => (⟨h.1, h.2.symm⟩ : _ ∧ W = _))
  rw [show (⟨#[10]⟩ : ByteArray).data.toList = [10] from rfl, h.2] at HS
  have he : s.toList.isEmpty = false := empty_ne (fun e => h.1 (by rw [e]))
  clear h
  have hV2 : VarAt ((w.alloc (.cells #[.slice none 0 0] 23)).alloc (.cells #[.int .i64 0] 24)) w.heap.size [.slice none 0 0] := (VarAt.new w _ _).keeps ((Below.refl _ _).alloc (Nat.le_refl _) _) (by simp)
  have hV3 : VarAt ((w.alloc (.cells #[.slice none 0 0] 23)).alloc (.cells #[.int .i64 0] 24)) (w.alloc (.cells #[.slice none 0 0] 23)).heap.size [.int .i64 0] := VarAt.new _ _ _
  have hB := ((Below.refl w.heap.size w).alloc (Nat.le_refl _) (.cells #[.slice none 0 0] 23)).alloc (by simp) (.cells #[.int .i64 0] 24)
  rw [World.size_alloc] at hV3
  refine callsIn_of_wp_marks Tryd.func12 rfl trivial ?_ rfl
  simp only [Tryd.ntmps12, List.size_toArray, List.length_cons, List.length_nil, Nat.reduceAdd, Nat.reduceSub, Array.replicate_succ, Array.replicate_zero, List.push_toArray, List.append_toArray, List.nil_append, List.cons_append]
  gi_wp2
  refine ⟨trivial, (HS.out _ _).mono ?_⟩
  rintro e w1 ⟨rfl, rfl⟩
  generalize (w.alloc (.cells #[.slice none 0 0] 23)).alloc (.cells #[.int .i64 0] 24) = W1 at *
  have k2 := hV2.2.2 0 _ rfl
  have f2 := hV2.2.1 0
  have k3 := hV3.2.2 0 _ rfl
  have f3 := hV3.2.1 0
  gi_wp2
  have g2 := (hV2.set 0 (.slice none 0 0) (by simp)).other (k := w.heap.size + 1) (i := 0) (.int .i64 30) (by omega)
  have g3 := (hV3.other (k := w.heap.size) (i := 0) (.slice none 0 0) (by omega)).set 0 (.int .i64 30) (by simp)
  have t2 := g2.2.2 0 _ rfl
  have t3 := g3.2.2 0 _ rfl
  have hB6 := (hB.setCell (p := ⟨w.heap.size, 0, none⟩) (Nat.le_refl _) (.slice none 0 0)).setCell (p := ⟨w.heap.size + 1, 0, none⟩) (Nat.le_succ _) (.int .i64 30)
  refine ⟨.tuple #[.slice none 0 0, .int .i64 30], ?_, _, rfl, OwnRows.nil _ _ _ _, hB6⟩
  simp [results, Tryd.results12, go_sem, t2, t3]
set_option maxRecDepth 100000 in
set_option maxHeartbeats 3200000 in
theorem parse_many_in (s : ByteArray) (w : World) (hs : s.size ≤ 100000) (h : Lib.hasSuffix s.data.toList [10] = true) (h2 : 16 < s.data.toList.count 10) : CallsIn Fence.wide 10 Tryd.prog 12 #[.string s] w fun e w' => ∃ v, e = .returned (.tuple #[v, .int .i64 (parseG s.data.toList).2]) ∧
      OwnRows rulLay w' w.heap.size 33 v (parseG s.data.toList).1 ∧ Below w.heap.size w w' := by
  rw [parse_many s h h2]
  have HS := Lib.hid fun (m : Nat) (W : World) => (callsIn_wide (n := m)).2 ((Tryd.strings_HasSuffix s ⟨#[10]⟩ W (by omega)).mono fun _ _ h => (⟨h.1, h.2.symm⟩ : _ ∧ W = _))
  have HC := Lib.hid fun (m : Nat) (W : World) => (callsIn_wide (n := m)).2 ((Tryd.strings_Count_one s 10 W).mono fun _ _ h => (⟨h.1, h.2.symm⟩ : _ ∧ W = _))
  rw [show Lib.countByte s.data.toList 10 = s.data.toList.count 10 from rfl] at HC
  rw [show (⟨#[10]⟩ : ByteArray).data.toList = [10] from rfl, h] at HS
  have he : s.toList.isEmpty = false := empty_ne (fun e => by rw [e] at h2; exact absurd h2 (by decide))
  clear h
  generalize s.data.toList.count 10 = c at *
  have hd : decide ((16 : Int) < (c : Int)) = true := decide_eq_true (by omega)
  have hV2 : VarAt ((w.alloc (.cells #[.slice none 0 0] 23)).alloc (.cells #[.int .i64 0] 24)) w.heap.size [.slice none 0 0] := (VarAt.new w _ _).keeps ((Below.refl _ _).alloc (Nat.le_refl _) _) (by simp)
  have hV3 : VarAt ((w.alloc (.cells #[.slice none 0 0] 23)).alloc (.cells #[.int .i64 0] 24)) (w.alloc (.cells #[.slice none 0 0] 23)).heap.size [.int .i64 0] := VarAt.new _ _ _
  have hB := ((Below.refl w.heap.size w).alloc (Nat.le_refl _) (.cells #[.slice none 0 0] 23)).alloc (by simp) (.cells #[.int .i64 0] 24)
  rw [World.size_alloc] at hV3
  refine callsIn_of_wp_marks Tryd.func12 rfl trivial ?_ rfl
  simp only [Tryd.ntmps12, List.size_toArray, List.length_cons, List.length_nil, Nat.reduceAdd, Nat.reduceSub, Array.replicate_succ, Array.replicate_zero, List.push_toArray, List.append_toArray, List.nil_append, List.cons_append]
  gi_wp2
  refine ⟨trivial, (HS.out _ _).mono ?_⟩
  rintro e w1 ⟨rfl, rfl⟩
  generalize (w.alloc (.cells #[.slice none 0 0] 23)).alloc (.cells #[.int .i64 0] 24) = W1 at *
  have k2 := hV2.2.2 0 _ rfl
  have f2 := hV2.2.1 0
  have k3 := hV3.2.2 0 _ rfl
  have f3 := hV3.2.1 0
  gi_wp2
  refine ⟨trivial, (HC.out _ _).mono ?_⟩
  rintro e w1 ⟨rfl, rfl⟩
  gi_wp2
  have g2 := (hV2.set 0 (.slice none 0 0) (by simp)).other (k := w.heap.size + 1) (i := 0) (.int .i64 40) (by omega)
  have g3 := (hV3.other (k := w.heap.size) (i := 0) (.slice none 0 0) (by omega)).set 0 (.int .i64 40) (by simp)
  have t2 := g2.2.2 0 _ rfl
  have t3 := g3.2.2 0 _ rfl
  have hB6 := (hB.setCell (p := ⟨w.heap.size, 0, none⟩) (Nat.le_refl _) (.slice none 0 0)).setCell (p := ⟨w.heap.size + 1, 0, none⟩) (Nat.le_succ _) (.int .i64 40)
  refine ⟨.tuple #[.slice none 0 0, .int .i64 40], ?_, _, rfl, OwnRows.nil _ _ _ _, hB6⟩
  simp [results, Tryd.results12, go_sem, t2, t3]
end Go.Proofs.YtalkckalbmaghaaDoor
