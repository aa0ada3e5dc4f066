/-
  List: all entries, by their paths.
-/
import Derived.Test.YtgjgeojhhglidaaDoorFsW5
import Derived.Shelf.SlIter.Keys
import Derived.Shelf.SlIter.Sorted
namespace Go.Proofs.YtgjgeojhhglidaaDoor
open Go Go.RowKit Go.Lib Go.Sort Go.Shelf

theorem sortsA (m : Nat) : AnyZ.SortsIn Tryd.prog Tryd.sortedA_ren Fence.wide m :=
  ⟨fun blk off cap ss W hH hblk hsz => callsIn_wide.2 (Tryd.slices_Sort_string blk off cap ss W hH hblk hsz),
   fun p cap W => callsIn_wide.2 (Tryd.slices_Sort_string_none p cap W)⟩
theorem keys_any (mb : Nat) (W : World) : Calls Tryd.prog 46 #[.map (some mb)] W fun e w' => e = .returned (.func (.func 65) #[] #[.pointer (some ⟨W.heap.size, 0, none⟩)]) ∧ W.alloc (.cells #[.map (some mb)] 68) = w' :=
  ((callsIn_wide (n := 5)).1 (AnyZ.keys_in Tryd.keysA Fence.wide 5 trivial rfl (some mb) W)).mono fun _ _ h => ⟨h.1, h.2.symm⟩
theorem keys_rows {es : List Ent} (hr : Rising es) {ss : List (List UInt8)} (h : ss.Perm (es.map pB)) : (ss.mergeSort fun x y => decide (x ≤ y)).map encStr = flat strLay (es.map (·.path)) := by
  have h1 : ss.mergeSort (fun x y => decide (x ≤ y)) = es.map pB := (mergeSort_of_perm h).trans (keys_sorted hr)
  rw [h1, flat_strs, List.map_map, List.map_map]
  refine List.map_congr_left fun x _ => ?_
  show Value.string (ba x.path.data.toList) = Value.string x.path
  rw [ba_back]
set_option maxHeartbeats 1000000 in
theorem sorted_any (mb : Nat) (es : List Ent) (W : World) (h : MapE Tryd.prog 9 W mb es) (hr : Rising es) (hl : es.length ≤ 300) :
    Calls Tryd.prog 45 #[.func (.func 65) #[] #[.pointer (some ⟨W.heap.size, 0, none⟩)]] (W.alloc (.cells #[.map (some mb)] 68)) fun e w' =>
      ∃ v, e = .returned v ∧ OwnRows strLay w' W.heap.size 9 v (es.map (·.path)) ∧ Below W.heap.size W w' := by
  have hown : W.ownsMap Tryd.prog 9 rowE mb es.length (datE es) := h
  have hbl := h.lt
  have hsz := dat_size es
  have hseq : SeqGives Fence.wide 2 Tryd.prog 65 #[.pointer (some ⟨W.heap.size, 0, none⟩)] encStr (fun ss => ss.Perm (strKeys (datE es))) (Go.Maps.size (datE es)) (W.alloc (.cells #[.map (some mb)] 68)) :=
    AnyZ.keys_gives (ρ := Tryd.keysA_ren) { Tryd.keysA with } Fence.wide _ trivial rfl (by omega) W.heap.size mb es.length (datE es) _ (by simp) (by simp) (by
      obtain ⟨es', clock, hb, Ft, hs, hD⟩ := hown
      exact ⟨es', clock, (Below.heap_alloc _ _ mb hbl).trans hb, Ft, hs, hD⟩)
  have cS := AnyZ.sorted_in Tryd.sortedA Fence.wide 5 trivial trivial trivial trivial rfl (by omega) (sortsA _) (enters_of Tryd.func64 (by kernel_rfl) rfl) 65 #[.pointer (some ⟨W.heap.size, 0, none⟩)] trivial (enters_of Tryd.func65 (by kernel_rfl) rfl) _ _ (by rw [hsz]; unfold maxLen; omega) (by rw [hsz]; omega) _ hseq
  change CallsIn _ _ Tryd.prog 45 _ _ _ at cS
  refine ((callsIn_wide (n := 5)).1 cS).mono ?_
  rintro e w' ⟨v, ss, rfl, hS, hrow, hnil, hb⟩
  rw [dat_keys] at hS
  refine ⟨v, rfl, ?_, ((Below.refl _ W).alloc (Nat.le_refl _) _).trans (hb.mono (by simp))⟩
  have hlen : ss.length = (es.map (·.path)).length := by rw [hS.length_eq, List.length_map, List.length_map]
  have h2 : OwnRows strLay w' (W.alloc (.cells #[.map (some mb)] 68)).heap.size 9 v (es.map (·.path)) := by
    unfold OwnRows
    rw [← keys_rows hr hS, ← hlen]
    exact hrow
  exact h2.lower (by simp)
end Go.Proofs.YtgjgeojhhglidaaDoor
