/-
  ops.Add once more: where its answer lies. A frame: below B nothing has turned but the blocks of S. Of no program.
-/
import Derived.Test.YtgglheelhbfgiaaGreatDoorMg6
import Derived.Test.YtgglheelhbfgiaaGreatDoorMg14
import Derived.Deep.RegionLaw
import Derived.Laws.CopyOwn
import Derived.Laws.Externs
import Derived.Test.YtgglheelhbfgiaaGreatDoorMg1
namespace Go.Proofs.YtgglheelhbfgiaaGreatDoor
open Go Go.RowKit Go.Lib

theorem oprSz : (Tryz.prog.info? 66).map (·.size) = some 11 := by kernel_rfl
theorem ins_flat (l : List Opr) (x : Opr) (k : Nat) : flat oprLay (l.take k ++ x :: l.drop k) = flat oprLay (l.take k) ++ x.cells ++ flat oprLay (l.drop k) := by
  rw [show l.take k ++ x :: l.drop k = (l.take k ++ [x]) ++ l.drop k by simp, flat_append, flat_snoc]
  rfl
theorem flat_take (l : List Opr) (k : Nat) (hk : k ≤ l.length) : (flat oprLay l).take (k * 11) = flat oprLay (l.take k) := by
  conv => lhs; rw [← List.take_append_drop k l, flat_append]
  rw [List.take_left' (by rw [flat_length, List.length_take, Nat.min_eq_left hk]; rfl)]
theorem flat_drop (l : List Opr) (k : Nat) (hk : k ≤ l.length) : (flat oprLay l).drop (k * 11) = flat oprLay (l.drop k) := by
  conv => lhs; rw [← List.take_append_drop k l, flat_append]
  rw [List.drop_left' (by rw [flat_length, List.length_take, Nat.min_eq_left hk]; rfl)]

set_option maxRecDepth 100000 in
set_option maxHeartbeats 6400000 in
/-- slices.Insert in the midst of a slice that is the call's own. -/
theorem insertMid_any (v : Value) (l : List Opr) (x : Opr) (vb B k : Nat) (w : World) (hl : l.length ≤ 10000) (hk : k < l.length) (hv : OwnRows oprLay w B 66 v l) (hBw : B ≤ w.heap.size) (hx : VarAt w vb x.cells) (hvb : v.ownBlock ≠ some vb) (hsh : ∃ tA kA, w.shape? vb = some (tA, kA)) :
    Calls Tryz.prog 85 #[v, .int .i64 k, .slice (some ⟨vb, 0, none⟩) 1 1] w fun e w' => ∃ v', e = .returned v' ∧ OwnRows oprLay w' B 66 v' (l.take k ++ x :: l.drop k) ∧ Below B w w' := by
  obtain ⟨hfl, hv2⟩ := hv
  rcases hv2 with ⟨rfl, h0⟩ | ⟨g, c, cur, rfl, hgB, hgg, hnc, hcm, hcs, htk⟩
  · omega
  have hgv : g ≠ vb := fun e => hvb (by rw [e]; rfl)
  have hglt : g < w.heap.size := (Array.getElem?_eq_some_iff.1 hgg).1
  have hsz : oprLay.sz = 11 := rfl
  rw [hsz] at hcs htk hfl
  have hxl : x.cells.length = 11 := rfl
  have hxa : ∀ j u, x.cells[j]? = some u → w.cell? ((⟨vb, 0, none⟩ : Addr).add j) = some u := fun j u hj => by
    rw [Addr.add_lit, Nat.zero_add]
    exact hx.2.2 j u hj
  have hFk : cur.toList.take (k * 11) = flat oprLay (l.take k) := by
    rw [← flat_take l k (by omega), ← htk, List.take_take, Nat.min_eq_left (by omega)]
  have hD : ∀ j u, (flat oprLay (l.drop k))[j]? = some u → w.cell? ⟨g, k * 11 + j, none⟩ = some u := by
    intro j u hj
    rw [← flat_drop l k (by omega), ← htk, List.getElem?_drop, List.getElem?_take] at hj
    split at hj
    · rw [Lib.cell_of_heap hgg]; simpa using hj
    · cases hj
  have hDl : (flat oprLay (l.drop k)).length = (l.length - k) * 11 := by rw [flat_length, List.length_drop]; rfl
  have hFl : (flat oprLay (l.take k)).length = k * 11 := by rw [flat_length, List.length_take, Nat.min_eq_left (by omega)]; rfl
  have Hins := Lib.hid (ins_flat l x k)
  have h1x : ∀ v ∈ x.cells, v.oneCell' = true := oprLay.one x
  have h1d : ∀ v ∈ flat oprLay (l.drop k), v.oneCell' = true := flat_one oprLay _
  have e1 : ((k : Int) == (l.length : Int)) = false := by rw [beq_eq_false_iff_ne]; omega
  have hlow : ∀ W, (Instr.slice 68 (.slice (some ⟨g, 0, none⟩) l.length c) (some (.int .i64 k)) none none).run Tryz.prog W = .ok (.slice (some ⟨g, k * 11, none⟩) (l.length - k) (c - k)) W := fun W => by
    have := slice_low (P := Tryz.prog) Tryz.underlying68 Tryz.sizeOf66 (some ⟨g, 0, none⟩) l.length c k (by omega) W
    rwa [lowA_some (by omega)] at this
  have hlow2 : ∀ W, (Instr.slice 68 (.slice (some ⟨g, 0, none⟩) (l.length + 1) c) (some (.int .i64 k)) none none).run Tryz.prog W = .ok (.slice (some ⟨g, k * 11, none⟩) (l.length + 1 - k) (c - k)) W ∨ c < l.length + 1 := fun W => by
    by_cases hc : c < l.length + 1
    · exact .inr hc
    · have := slice_low (P := Tryz.prog) Tryz.underlying68 Tryz.sizeOf66 (some ⟨g, 0, none⟩) (l.length + 1) c k (by omega) W
      rw [lowA_some (by omega)] at this
      exact .inl this
  obtain ⟨tA, kA, hsa⟩ := hsh
  have hxt : cur.toList.length = c * 11 := by rw [Array.length_toList]; exact hcs
  by_cases hroom : l.length + 1 ≤ c
  · have hlow3 : ∀ W, (Instr.slice 68 (.slice (some ⟨g, 0, none⟩) (l.length + 1) c) (some (.int .i64 k)) none none).run Tryz.prog W = .ok (.slice (some ⟨g, k * 11, none⟩) (l.length + 1 - k) (c - k)) W := fun W => (hlow2 W).resolve_right (by omega)
    have hlow4 : ∀ W, (Instr.slice 68 (.slice (some ⟨g, 0, none⟩) (l.length + 1) c) (some (.int .i64 ((k : Int) + 1))) none none).run Tryz.prog W = .ok (.slice (some ⟨g, (k + 1) * 11, none⟩) (l.length + 1 - (k + 1)) (c - (k + 1))) W := fun W => by
      have := slice_low (P := Tryz.prog) Tryz.underlying68 Tryz.sizeOf66 (some ⟨g, 0, none⟩) (l.length + 1) c (k + 1) (by omega) W
      rw [lowA_some (by omega)] at this
      exact_mod_cast this
    have hhigh : ∀ W, (Instr.slice 68 (.slice (some ⟨g, 0, none⟩) l.length c) none (some (.int .i64 ((l.length : Int) + 1))) none).run Tryz.prog W = .ok (.slice (some ⟨g, 0, none⟩) (l.length + 1) c) W := fun W => by
      have := slice_high (P := Tryz.prog) Tryz.underlying68 Tryz.sizeOf66 (some ⟨g, 0, none⟩) l.length c (l.length + 1) (by omega) W
      exact_mod_cast this
    have hsb : w.shape? g = some (66, cur.size) := by simp [World.shape?, hgg]
    have hov : ∀ o lb cb, (callFunc 115 #[.slice (some ⟨vb, 0, none⟩) 1 1, .slice (some ⟨g, o, none⟩) lb cb]).run Tryz.prog w = .ok (.value (.bool false)) w := fun o lb cb => by
      rw [run_callFunc_extern Tryz.func115 (by kernel_rfl) (by kernel_rfl) (by kernel_rfl) (e := Extern.SlicesOverlaps.overlaps #[68, 68] #[4]) (by kernel_rfl),
        Lib.run_overlaps_apart w 68 4 66 Tryz.underlying68 11 Tryz.sizeOf66 ⟨vb, 0, none⟩ ⟨g, o, none⟩ 1 1 lb cb (fun e => hgv e.symm) tA 66 kA cur.size hsa hsb (by omega) (hx.2.1 0) (hx.2.1 kA)]
      rfl
    have hgd : w.drew.heap[g]? = some (.cells cur 66 (0, 0)) := hgg
    have hcp1 : ∀ ty, (Builtin.copy_ #[68, 68] ty #[.slice (some ⟨g, (k + 1) * 11, none⟩) (l.length + 1 - (k + 1)) (c - (k + 1)), .slice (some ⟨g, k * 11, none⟩) (l.length + 1 - k) (c - k)]).run Tryz.prog w.drew = .ok (goInt ((l.length - k : Nat) : Int)) (w.drew.setRow g (cur.toList.take ((k + 1) * 11) ++ flat oprLay (l.drop k) ++ cur.toList.drop ((k + 1) * 11 + (flat oprLay (l.drop k)).length)).toArray) := fun ty =>
      run_copy_rows (P := Tryz.prog) w.drew 68 68 ty 66 g ((k + 1) * 11) (l.length + 1 - (k + 1)) (c - (k + 1)) ⟨g, k * 11, none⟩ (l.length + 1 - k) (c - k) cur 66 (flat oprLay (l.drop k)) 11 (l.length - k) Tryz.underlying68 oprSz hgd (by simp only [Nat.min_def]; split <;> omega) hDl
        (fun j u hj => by rw [Addr.add_lit]; exact hD j u hj) (by rw [hDl, hcs]; omega) h1d
    obtain ⟨arr1, ha1⟩ : ∃ arr1, arr1 = cur.toList.take ((k + 1) * 11) ++ flat oprLay (l.drop k) ++ cur.toList.drop ((k + 1) * 11 + (flat oprLay (l.drop k)).length) := ⟨_, rfl⟩
    rw [← ha1] at hcp1
    have hl1 : arr1.length = c * 11 := by
      rw [ha1]
      simp only [List.length_append, List.length_take, List.length_drop, hDl, hxt]
      omega
    have hcp2 : ∀ ty, (Builtin.copy_ #[68, 68] ty #[.slice (some ⟨g, k * 11, none⟩) (l.length + 1 - k) (c - k), .slice (some ⟨vb, 0, none⟩) 1 1]).run Tryz.prog (w.drew.setRow g arr1.toArray) = .ok (goInt 1) ((w.drew.setRow g arr1.toArray).setRow g (arr1.take (k * 11) ++ x.cells ++ arr1.drop (k * 11 + x.cells.length)).toArray) := fun ty => by
      have := run_copy_rows (P := Tryz.prog) (w.drew.setRow g arr1.toArray) 68 68 ty 66 g (k * 11) (l.length + 1 - k) (c - k) ⟨vb, 0, none⟩ 1 1 arr1.toArray 66 x.cells 11 1 Tryz.underlying68 oprSz (setRow_heap _ g _ _ _ _ hgd) (by simp only [Nat.min_def]; split <;> omega) hxl
        (fun j u hj => by rw [cell_setRow_other _ _ _ _ (by rw [Addr.add_lit]; exact fun e => hgv e.symm)]; exact hxa j u hj) (by rw [hxl]; simp [hl1]; omega) h1x
      simpa using this
    obtain ⟨arr2, ha2⟩ : ∃ arr2, arr2 = arr1.take (k * 11) ++ x.cells ++ arr1.drop (k * 11 + x.cells.length) := ⟨_, rfl⟩
    rw [← ha2] at hcp2
    have hl2 : arr2.length = c * 11 := by
      rw [ha2]
      simp only [List.length_append, List.length_take, List.length_drop, hxl, hl1]
      omega
    have hfin : arr2.take ((l.length + 1) * 11) = flat oprLay (l.take k) ++ x.cells ++ flat oprLay (l.drop k) := by
      rw [ha2, ha1]
      exact ins_shift hFk hxl hDl (by omega) hFl (by rw [hxt]; omega)
    have Hres := Lib.hid (show OwnRows oprLay ((w.drew.setRow g arr1.toArray).setRow g arr2.toArray) B 66 (.slice (some ⟨g, 0, none⟩) (l.length + 1) c) (l.take k ++ x :: l.drop k) from by
      refine ⟨flat_length _ _, .inr ⟨g, c, arr2.toArray, ?_, hgB, setRow_heap _ g _ _ _ _ (setRow_heap _ g _ _ _ _ hgd), ?_, hcm, ?_, ?_⟩⟩
      · congr 1
        simp; omega
      · simp; omega
      · simp [hl2, hsz]
      · rw [ins_flat, ← hfin, hsz]
        simp only [List.length_append, List.length_take, List.length_cons, List.length_drop]
        congr 2
        omega)
    have Hbel := Lib.hid (show Below B w ((w.drew.setRow g arr1.toArray).setRow g arr2.toArray) from below_setRow (below_setRow (Below.refl B w).drew hgB _) hgB _)
    have hnc2 : ¬ ((c : Int) < (l.length : Int) + 1) := by omega
    have hw1 : IntKind.i64.wrap ((k : Int) + 1) = (k : Int) + 1 := by rw [IntKind.wrap_i64]; omega
    have hb1 : (0 : Int) ≤ (k : Int) + 1 := by omega
    have htn : ((k : Int) + 1).toNat = k + 1 := by omega
    have hb2 : ¬ (c = k + 1) := by omega
    have hb3 : (k : Int) ≤ (l.length : Int) + 1 := by omega
    have hb4 : ¬ (c = k) := by omega
    have hb5 : k ≤ l.length := by omega
    have hb6 : (k : Int) + 1 ≤ (l.length : Int) + 1 := by omega
    clear hlow2 ha1 ha2 hl1 hl2 hfin hFk hFl hD hDl hgd hsa hsb h1x h1d hxa hxl hcs htk hfl hgg hxt Hins hx
    go_enter Tryz.func85, Tryz.ntmps85
    go_wp2_with (simp only [hov])
    go_region_law (refine step_copy_run rfl _ _ 68 68 rfl _ _ (by simp [Act.eval, Act.put]) (by simp [Act.eval, Act.put]) (hcp1 _) ?_)
    go_wp2_with (at_builtin; refine wpList_copy_run _ rfl _ _ 68 68 rfl _ _ rfl rfl (hcp2 _) ?_)
    go_ret
    exact ⟨_, rfl, Hres.out, Hbel.out⟩
  · have hkl : k ≤ c := by omega
    obtain ⟨k', hk'⟩ : ∃ k', k' = l.length + 1 - k := ⟨_, rfl⟩
    have hkk : k + k' = l.length + 1 := by omega
    obtain ⟨G, hG⟩ : ∃ G, G = grownCap w (k + k') c 66 := ⟨_, rfl⟩
    have hG1 : l.length + 1 ≤ G := by rw [hG, ← hkk]; exact grownCap_ge _ _ _ _
    have hG2 : G ≤ maxLen := by rw [hG]; exact grownCap_le_maxLen _ _ _ _ (by unfold maxLen; omega)
    have hgd : w.drew.heap[g]? = some (.cells cur 66 (0, 0)) := hgg
    have hhigh : ∀ W, (Instr.slice 68 (.slice (some ⟨g, 0, none⟩) l.length c) none (some (.int .i64 k)) none).run Tryz.prog W = .ok (.slice (some ⟨g, 0, none⟩) k c) W := fun W => slice_high (P := Tryz.prog) Tryz.underlying68 Tryz.sizeOf66 (some ⟨g, 0, none⟩) l.length c k (by omega) W
    obtain ⟨i0, hi, hz0, hz1, hz2⟩ := info_parts oprInfo
    obtain ⟨Z, hZ⟩ : ∃ Z, Z = (Builtin.zeroCells (Value.cells (.agg #[.int .i64 0, .int .i64 0, .int .i64 0, .int .i64 0, .int .i64 0, .int .i64 0, .bool false, .int .i64 0, .int .i64 0, .string ⟨#[]⟩, .string ⟨#[]⟩])) k' ++ Builtin.zeroCells (Value.cells (.agg #[.int .i64 0, .int .i64 0, .int .i64 0, .int .i64 0, .int .i64 0, .int .i64 0, .bool false, .int .i64 0, .int .i64 0, .string ⟨#[]⟩, .string ⟨#[]⟩])) (G - (k + k'))) := ⟨_, rfl⟩
    have hZl : Z.size = (G - k) * 11 := by
      rw [hZ, Array.size_append, size_zeroCells, size_zeroCells]
      rw [show (Value.cells (.agg #[.int .i64 0, .int .i64 0, .int .i64 0, .int .i64 0, .int .i64 0, .int .i64 0, .bool false, .int .i64 0, .int .i64 0, .string ⟨#[]⟩, .string ⟨#[]⟩])).size = 11 from rfl]
      omega
    have hap : ∀ ty, (Builtin.append_ #[68, 3] ty #[.slice (some ⟨g, 0, none⟩) k c, .int .i64 ((l.length : Int) + 1 - (k : Int))]).run Tryz.prog w = .ok (.slice (some ⟨w.heap.size, 0, none⟩) (l.length + 1) G) (w.drew.alloc (.cells ((flat oprLay (l.take k)).toArray ++ Z) 66)) := fun ty => by
      have h := Lib.run_append_grow_zeros (P := Tryz.prog) w 68 3 ty 66 i0 (.agg #[.int .i64 0, .int .i64 0, .int .i64 0, .int .i64 0, .int .i64 0, .int .i64 0, .bool false, .int .i64 0, .int .i64 0, .string ⟨#[]⟩, .string ⟨#[]⟩]) .i64 .i64 Tryz.underlying68 Tryz.underlying3 hi hz0 (some ⟨g, 0, none⟩) k c (flat oprLay (l.take k)) (by
          have := run_loadCells_list (P := Tryz.prog) w.drew ⟨g, 0, none⟩ (flat oprLay (l.take k)) (fun j u hj => by
            rw [Addr.add_lit, Nat.zero_add, Lib.cell_of_heap hgd]
            rw [← hFk, List.getElem?_take] at hj
            split at hj
            · simpa using hj
            · cases hj)
          rw [hFl] at this
          simpa [Builtin.firstCells, hz1] using this) k' (by omega) (by omega) (by omega) (by omega) (by rw [hz2]; omega) (by rw [hz2]; exact growslice_fits (by omega) (by omega))
      rw [show ((l.length : Int) + 1 - (k : Int)) = ((k' : Nat) : Int) by omega, h, ← hG, hZ, hkk, Array.append_assoc]
    obtain ⟨A, hA⟩ : ∃ A, A = (flat oprLay (l.take k)).toArray ++ Z := ⟨_, rfl⟩
    rw [← hA] at hap
    have hAs : A.size = G * 11 := by
      rw [hA, Array.size_append, hZl, List.size_toArray, hFl]
      omega
    have hAF : A.toList.take (k * 11) = flat oprLay (l.take k) := by
      rw [hA, Array.toList_append]
      rw [List.take_left' (by simpa using hFl)]
    obtain ⟨W1, hW1⟩ : ∃ W1, W1 = w.drew.alloc (.cells A 66) := ⟨_, rfl⟩
    rw [← hW1] at hap
    have hh1 : W1.heap[w.heap.size]? = some (.cells A 66 (0, 0)) := by rw [hW1]; exact heap_alloc_new w.drew _
    have hb1 : Below w.heap.size w W1 := by rw [hW1]; exact (Below.refl _ _).drew.alloc (Nat.le_refl _) _
    have hA1 : A.toList.length = G * 11 := by simpa using hAs
    have hxlt := hx.1
    obtain ⟨arr1, ha1⟩ : ∃ arr1, arr1 = A.toList.take (k * 11) ++ x.cells ++ A.toList.drop (k * 11 + x.cells.length) := ⟨_, rfl⟩
    have hl1 : arr1.length = G * 11 := by
      rw [ha1]
      simp only [List.length_append, List.length_take, List.length_drop, hxl, hA1]
      omega
    have hcp1 : ∀ ty, (Builtin.copy_ #[68, 68] ty #[.slice (some ⟨w.heap.size, k * 11, none⟩) (l.length + 1 - k) (G - k), .slice (some ⟨vb, 0, none⟩) 1 1]).run Tryz.prog W1 = .ok (goInt 1) (W1.setRow w.heap.size arr1.toArray) := fun ty => by
      have := run_copy_rows (P := Tryz.prog) W1 68 68 ty 66 w.heap.size (k * 11) (l.length + 1 - k) (G - k) ⟨vb, 0, none⟩ 1 1 A 66 x.cells 11 1 Tryz.underlying68 oprSz hh1 (by simp only [Nat.min_def]; split <;> omega) hxl
        (fun j u hj => by rw [hb1.cell (by rw [Addr.add_lit]; exact hxlt)]; exact hxa j u hj) (by rw [hxl, hAs]; omega) h1x
      rw [← ha1] at this
      simpa using this
    obtain ⟨W2, hW2⟩ : ∃ W2, W2 = W1.setRow w.heap.size arr1.toArray := ⟨_, rfl⟩
    rw [← hW2] at hcp1
    have hh2 : W2.heap[w.heap.size]? = some (.cells arr1.toArray 66 (0, 0)) := by rw [hW2]; exact setRow_heap _ _ _ _ _ _ hh1
    have hb2 : Below w.heap.size w W2 := by rw [hW2]; exact below_setRow hb1 (Nat.le_refl _) _
    obtain ⟨arr2, ha2⟩ : ∃ arr2, arr2 = arr1.take ((k + 1) * 11) ++ flat oprLay (l.drop k) ++ arr1.drop ((k + 1) * 11 + (flat oprLay (l.drop k)).length) := ⟨_, rfl⟩
    have hl2 : arr2.length = G * 11 := by
      rw [ha2]
      simp only [List.length_append, List.length_take, List.length_drop, hDl, hl1]
      omega
    have hcp2 : ∀ ty, (Builtin.copy_ #[68, 68] ty #[.slice (some ⟨w.heap.size, (k + 1) * 11, none⟩) (l.length + 1 - (k + 1)) (G - (k + 1)), .slice (some ⟨g, k * 11, none⟩) (l.length - k) (c - k)]).run Tryz.prog W2.drew = .ok (goInt ((l.length - k : Nat) : Int)) (W2.drew.setRow w.heap.size arr2.toArray) := fun ty => by
      have := run_copy_rows (P := Tryz.prog) W2.drew 68 68 ty 66 w.heap.size ((k + 1) * 11) (l.length + 1 - (k + 1)) (G - (k + 1)) ⟨g, k * 11, none⟩ (l.length - k) (c - k) arr1.toArray 66 (flat oprLay (l.drop k)) 11 (l.length - k) Tryz.underlying68 oprSz hh2 (by simp only [Nat.min_def]; split <;> omega) hDl
        (fun j u hj => by rw [Addr.add_lit]; exact (hb2.cell (p := ⟨g, k * 11 + j, none⟩) hglt).trans (hD j u hj)) (by rw [hDl, List.size_toArray, hl1]; omega) h1d
      rw [this, ha2]
    have hfin : arr2.take ((l.length + 1) * 11) = flat oprLay (l.take k) ++ x.cells ++ flat oprLay (l.drop k) := by
      rw [ha2, ha1]
      exact ins_grow hAF hxl hDl (by omega) (by rw [hA1]; omega) hFl
    have Hres := Lib.hid (show OwnRows oprLay (W2.drew.setRow w.heap.size arr2.toArray) B 66 (.slice (some ⟨w.heap.size, 0, none⟩) (l.length + 1) G) (l.take k ++ x :: l.drop k) from by
      refine ⟨flat_length _ _, .inr ⟨w.heap.size, G, arr2.toArray, ?_, hBw, setRow_heap _ _ _ _ _ _ hh2, ?_, hG2, ?_, ?_⟩⟩
      · congr 1
        simp; omega
      · simp; omega
      · simp [hl2, hsz]
      · rw [ins_flat, ← hfin, hsz]
        simp only [List.length_append, List.length_take, List.length_cons, List.length_drop]
        congr 2
        omega)
    have Hbel := Lib.hid (show Below B w (W2.drew.setRow w.heap.size arr2.toArray) from (below_setRow (hb2.drew) (Nat.le_refl _) _).mono hBw)
    have hnc2 : (c : Int) < (l.length : Int) + 1 := by omega
    have hw1 : IntKind.i64.wrap ((k : Int) + 1) = (k : Int) + 1 := by rw [IntKind.wrap_i64]; omega
    have hb0 : (0 : Int) ≤ (k : Int) + 1 := by omega
    have htn : ((k : Int) + 1).toNat = k + 1 := by omega
    have hq1 : ¬ (G = k + 1) := by omega
    have hq2 : ¬ (G = k) := by omega
    have hq3 : (k : Int) ≤ (l.length : Int) + 1 := by omega
    have hq4 : ¬ (c = k) := by omega
    have hq5 : k ≤ l.length := by omega
    have hq6 : (k : Int) + 1 ≤ (l.length : Int) + 1 := by omega
    have hq7 : k ≤ l.length + 1 := by omega
    have hlowG : ∀ W, (Instr.slice 68 (.slice (some ⟨w.heap.size, 0, none⟩) (l.length + 1) G) (some (.int .i64 k)) none none).run Tryz.prog W = .ok (.slice (some ⟨w.heap.size, k * 11, none⟩) (l.length + 1 - k) (G - k)) W := fun W => by
      have := slice_low (P := Tryz.prog) Tryz.underlying68 Tryz.sizeOf66 (some ⟨w.heap.size, 0, none⟩) (l.length + 1) G k (by omega) W
      rwa [lowA_some (by omega)] at this
    clear hlow2 ha1 ha2 hl1 hl2 hfin hFk hFl hD hDl hgd hsa h1x h1d hxa hxl hcs htk hfl hgg hxt Hins hx hA hAs hAF hW1 hW2 hh1 hh2 hb1 hb2 hA1 hZ hZl hi hz0 hz1 hz2 hG hG2 hk' hkk
    go_enter Tryz.func85, Tryz.ntmps85
    go_wp2_with (at_builtin; refine Lib.wpList_append_run _ rfl _ _ 68 3 rfl _ _ rfl rfl _ _ (hap _) ?_)
    go_wp2_with (at_builtin; refine wpList_copy_run _ rfl _ _ 68 68 rfl _ _ rfl rfl (hcp1 _) ?_)
    go_region_law (refine step_copy_run rfl _ _ 68 68 rfl _ _ (by simp [Act.eval, Act.put]) (by simp [Act.eval, Act.put]) (hcp2 _) ?_)
    go_wp2_with fail
    go_ret
    exact ⟨_, rfl, Hres.out, Hbel.out⟩
end Go.Proofs.YtgglheelhbfgiaaGreatDoor

namespace Go.Proofs.YtgglheelhbfgiaaGreatDoor
open Go Go.RowKit Go.Lib

theorem own_ne {W : World} {B vb : Nat} {v : Value} {l : List Opr} {x : Opr} (h : OwnRows oprLay W B 66 v l) (hx : VarAt W vb x.cells) (hk : 0 < l.length) (hm : memB l x = false) : v.ownBlock ≠ some vb := by
  intro he
  obtain ⟨y, hy⟩ := at_some hk
  have hxy : x = y := by
    rcases h.2 with ⟨rfl, _⟩ | ⟨g, c, cur, rfl, _⟩
    · cases he
    · have hgv : g = vb := by simpa [Value.ownBlock] using he
      subst hgv
      obtain ⟨a, cap', e, hr, _⟩ := h.read
      cases e
      obtain ⟨b, off, e2, hlt, c0, c1, c2, c3, c4, c5, c6, c7, c8, c9, c10⟩ := opr_at hr hy
      cases e2
      have key : ∀ i v u, x.cells[i]? = some v → W.cell? ⟨g, i, none⟩ = some u → v = u := fun i v u h1 h2 => by
        have := hx.2.2 i v h1
        rw [h2] at this
        exact (Option.some.inj this).symm
      have k0 := key 0 _ _ rfl c0
      have k1 := key 1 _ _ rfl (by simpa using c1)
      have k2 := key 2 _ _ rfl (by simpa using c2)
      have k3 := key 3 _ _ rfl (by simpa using c3)
      have k4 := key 4 _ _ rfl (by simpa using c4)
      have k5 := key 5 _ _ rfl (by simpa using c5)
      have k6 := key 6 _ _ rfl (by simpa using c6)
      have k7 := key 7 _ _ rfl (by simpa using c7)
      have k8 := key 8 _ _ rfl (by simpa using c8)
      have k9 := key 9 _ _ rfl (by simpa using c9)
      have k10 := key 10 _ _ rfl (by simpa using c10)
      simp only [Value.int.injEq, true_and, Value.bool.injEq, Value.string.injEq] at k0 k1 k2 k3 k4 k5 k6 k7 k8 k9 k10
      exact Opr.ext' k0 k1 k2 k3 k4 k5 k6 k7 k8 k9 k10
  have : memB l x = true := any_hit hy (by simp [hxy])
  rw [hm] at this
  cases this
theorem shape_cell {W : World} {b i : Nat} {v : Value} (h : W.cell? ⟨b, i, none⟩ = some v) : ∃ t k, W.shape? b = some (t, k) := by
  unfold World.cell? at h
  unfold World.shape?
  split at h
  · rename_i c e f heq
    dsimp only at heq
    rw [heq]
    exact ⟨_, _, rfl⟩
  · cases h
theorem ins_ok {l : List Opr} {x : Opr} (hl : l.length ≤ 10000) (hm : memB l x = false) : InsOk l x := by
  intro v vb B W h1 h2 h3
  by_cases hk : atO l x < l.length
  · exact insertMid_any v l x vb B (atO l x) W hl hk h1 h2 h3 (own_ne h1 h3 (by omega) hm) (shape_cell (h3.2.2 0 _ rfl))
  · have he : atO l x = l.length := by have := atO_le l x; omega
    have := insertEnd_any v l x vb B W hl h1 h2 h3
    unfold insO
    rw [he, List.take_length, List.drop_length]
    exact this
theorem add_any (a : Option Addr) (cap : Nat) (l : List Opr) (x : Opr) (w : World) (hl : l.length ≤ 10000) (hn : x.name.size ≤ 100000) (hm : x.man.size ≤ 100000) (hnil : a = none → cap = 0) (hlc : l.length ≤ cap) (ha : RowsAt oprLay w a l) :
    Calls Tryz.prog 44 #[.slice a l.length cap, .agg #[.int .i64 x.cnt, .int .i64 x.who, .int .i64 x.seq, .int .i64 x.kind, .int .i64 x.nc, .int .i64 x.nw, .bool x.dir, .int .i64 x.pc, .int .i64 x.pw, .string x.name, .string x.man]] w fun e w' => ∃ a' cap', e = .returned (.tuple #[.slice a' (addO l x).1.length cap', .int .i64 (addO l x).2]) ∧ RowsAt oprLay w' a' (addO l x).1 ∧ (a' = none → cap' = 0) ∧ (addO l x).1.length ≤ cap' ∧ Below w.heap.size w w' :=
  add_walk a cap l x w hl hn hm hnil hlc ha (fun _ hm _ => ins_ok hl hm)
end Go.Proofs.YtgglheelhbfgiaaGreatDoor

namespace Go.Proofs.YtgglheelhbfgiaaGreatDoor
open Go Go.RowKit Go.Lib
set_option maxRecDepth 100000 in
set_option maxHeartbeats 6400000 in
theorem add_walk2 (a : Option Addr) (cap : Nat) (l : List Opr) (x : Opr) (w : World) (hl : l.length ≤ 10000) (hn : x.name.size ≤ 100000) (hm : x.man.size ≤ 100000) (hnil : a = none → cap = 0) (hlc : l.length ≤ cap) (ha : RowsAt oprLay w a l)
    (HI : rightO x = 0 → memB l x = false → fitsO l x = 0 → InsOk l x) :
    Calls Tryz.prog 44 #[.slice a l.length cap, .agg #[.int .i64 x.cnt, .int .i64 x.who, .int .i64 x.seq, .int .i64 x.kind, .int .i64 x.nc, .int .i64 x.nw, .bool x.dir, .int .i64 x.pc, .int .i64 x.pw, .string x.name, .string x.man]] w fun e w' => ∃ a' cap', e = .returned (.tuple #[.slice a' (addO l x).1.length cap', .int .i64 (addO l x).2]) ∧ RowsAt oprLay w' a' (addO l x).1 ∧ (a' = none → cap' = 0) ∧ (addO l x).1.length ≤ cap' ∧ Below w.heap.size w w' ∧ (a' = a ∨ ∀ ad, a' = some ad → w.heap.size ≤ ad.block) := by
  obtain ⟨WX, hWX⟩ : ∃ WX, WX = w.alloc (.cells #[.int .i64 x.cnt, .int .i64 x.who, .int .i64 x.seq, .int .i64 x.kind, .int .i64 x.nc, .int .i64 x.nw, .bool x.dir, .int .i64 x.pc, .int .i64 x.pw, .string x.name, .string x.man] 66) := ⟨_, rfl⟩
  have hbx : Below w.heap.size w WX := by rw [hWX]; exact (Below.refl _ _).alloc (Nat.le_refl _) _
  have hX : VarAt WX w.heap.size x.cells := by rw [hWX]; exact box_VarAt w x
  have HA := Lib.hid (ha.keeps hbx)
  have HR := Lib.hid fun W => oright_any x W hn hm
  have HH := Lib.hid fun W (h : RowsAt oprLay W a l) => has_any a cap l x W (by omega) h
  have HFt := Lib.hid fun W (hs : 1 ≤ x.seq ∧ x.seq ≤ 1099511627776) (h : RowsAt oprLay W a l) => fits_any a cap l x W (by omega) hs.1 hs.2 h
  have HFo := Lib.hid fun W (h : RowsAt oprLay W a l) (hX : VarAt W w.heap.size x.cells) => foreAt_any a cap w.heap.size l x W (by omega) h hX
  have HC := Lib.hid fun W (h : RowsAt oprLay W a l) => clone_any a cap l W hl hnil h
  have HS := Lib.hid (right_seq (x := x))
  have HD := Lib.hid (show addO l x = if rightO x ≠ 0 then ([], rightO x) else if memB l x then (l, 0) else if fitsO l x ≠ 0 then ([], fitsO l x) else if 400 ≤ l.length then ([], 40) else (insO l x, 0) from rfl)
  have HO := Lib.hid (show foundO l x = if atO l x < l.length then (atO l x : Int) else -1 from rfl)
  have hal := atO_le l x
  have HII := Lib.hid (show InsOk l x = ∀ (v : Value) (vb B : Nat) (W : World), OwnRows oprLay W B 66 v l → B ≤ W.heap.size → VarAt W vb x.cells → Calls Tryz.prog 85 #[v, .int .i64 (atO l x), .slice (some ⟨vb, 0, none⟩) 1 1] W fun e w' => ∃ v', e = .returned v' ∧ OwnRows oprLay w' B 66 v' (insO l x) ∧ Below B W w' from rfl)
  have HI' := Lib.hid HI
  clear HI
  generalize rightO x = ro at *
  generalize memB l x = mb at *
  generalize fitsO l x = fo at *
  generalize addO l x = ao at *
  generalize foundO l x = fd at *
  generalize insO l x = il at *
  generalize atO l x = k at *
  generalize InsOk l x = io at *
  clear ha
  have cs : ∀ W, VarAt W w.heap.size x.cells → W.cell? ⟨w.heap.size, 0, none⟩ = some (.int .i64 x.cnt) ∧ W.cell? ⟨w.heap.size, 1, none⟩ = some (.int .i64 x.who) ∧ W.cell? ⟨w.heap.size, 2, none⟩ = some (.int .i64 x.seq) ∧ W.cell? ⟨w.heap.size, 3, none⟩ = some (.int .i64 x.kind) ∧ W.cell? ⟨w.heap.size, 4, none⟩ = some (.int .i64 x.nc) ∧ W.cell? ⟨w.heap.size, 5, none⟩ = some (.int .i64 x.nw) ∧ W.cell? ⟨w.heap.size, 6, none⟩ = some (.bool x.dir) ∧ W.cell? ⟨w.heap.size, 7, none⟩ = some (.int .i64 x.pc) ∧ W.cell? ⟨w.heap.size, 8, none⟩ = some (.int .i64 x.pw) ∧ W.cell? ⟨w.heap.size, 9, none⟩ = some (.string x.name) ∧ W.cell? ⟨w.heap.size, 10, none⟩ = some (.string x.man) := fun W h => ⟨h.2.2 0 _ rfl, h.2.2 1 _ rfl, h.2.2 2 _ rfl, h.2.2 3 _ rfl, h.2.2 4 _ rfl, h.2.2 5 _ rfl, h.2.2 6 _ rfl, h.2.2 7 _ rfl, h.2.2 8 _ rfl, h.2.2 9 _ rfl, h.2.2 10 _ rfl⟩
  have HCS := Lib.hid cs
  clear cs
  by_cases hro : ro = 0
  · subst hro
    have hs := HS.out rfl
    have hD2 := HD.out.trans (if_neg (fun h => h rfl))
    have e1 : ((0 : Int) != 0) = false := rfl
    obtain ⟨x0, x1, x2, x3, x4, x5, x6, x7, x8, x9, x10⟩ := HCS.out _ hX
    go_enter Tryz.func44, Tryz.ntmps44
    go_wp2_with fail
    rw [← hWX]
    refine (HR.out _).mono ?_
    rintro e w1 ⟨rfl, hb1⟩
    have hX1 := hX.keeps hb1 hX.1
    have hc1 := hbx.trans (hb1.mono hbx.size)
    have ha1 := HA.out.keeps hb1
    clear x0 x1 x2 x3 x4 x5 x6 x7 x8 x9 x10 hWX
    obtain ⟨x0, x1, x2, x3, x4, x5, x6, x7, x8, x9, x10⟩ := HCS.out _ hX1
    go_wp2_with fail
    refine (HH.out _ ha1).mono ?_
    rintro e w2 ⟨rfl, hb2⟩
    have hX2 := hX1.keeps hb2 hX1.1
    have hc2 := hc1.trans (hb2.mono hc1.size)
    have ha2 := ha1.keeps hb2
    clear x0 x1 x2 x3 x4 x5 x6 x7 x8 x9 x10 hX hX1 ha1
    obtain ⟨x0, x1, x2, x3, x4, x5, x6, x7, x8, x9, x10⟩ := HCS.out _ hX2
    cases mb with
    | true =>
      have hD3 := hD2.trans (if_pos rfl)
      have HZ := Lib.hid hD3
      clear hD3
      go_wp2_with fail
      go_ret2
      rw [HZ.out]
      exact ⟨a, cap, rfl, ha2, hnil, hlc, hc2, .inl rfl⟩
    | false =>
      have hD3 := hD2.trans (if_neg (fun h => by cases h))
      go_wp2_with fail
      refine (HFt.out _ hs ha2).mono ?_
      rintro e w3 ⟨rfl, hb3⟩
      have hX3 := hX2.keeps hb3 hX2.1
      have hc3 := hc2.trans (hb3.mono hc2.size)
      have ha3 := ha2.keeps hb3
      clear x0 x1 x2 x3 x4 x5 x6 x7 x8 x9 x10 hX2 ha2 hD2
      by_cases hfo : fo = 0
      · subst hfo
        have hD4 := hD3.trans (if_neg (fun h => h rfl))
        by_cases hbig : 400 ≤ l.length
        · have hD5 := hD4.trans (if_pos hbig)
          have HZ := Lib.hid hD5
          clear hD5
          go_wp2_with fail
          go_ret2
          rw [HZ.out]
          exact ⟨none, 0, rfl, RowsAt.nil _ _ _, fun _ => rfl, Nat.le_refl _, hc3, .inr fun ad e => by cases e⟩
        · have hD5 := hD4.trans (if_neg hbig)
          have HZ := Lib.hid hD5
          clear hD5
          clear hD4 hD3
          have hio : io := by first | exact HI'.out rfl rfl rfl | exact HI'.out trivial trivial trivial | (have := HI'.out; simp at this; exact this)
          have HIN := Lib.hid (HII.out ▸ hio)
          clear hio
          clear HI' HII
          go_wp2_with fail
          refine (HFo.out _ ha3 hX3).mono ?_
          rintro e w4 ⟨rfl, hb4⟩
          have hX4 := hX3.keeps hb4 hX3.1
          have hc4 := hc3.trans (hb4.mono hc3.size)
          have ha4 := ha3.keeps hb4
          have hlt4 := hX4.1
          clear hX3 ha3
          obtain ⟨x0, x1, x2, x3, x4, x5, x6, x7, x8, x9, x10⟩ := HCS.out _ hX4
          have hfd : (0 ≤ fd ∧ fd = k) ∨ (fd < 0 ∧ k = l.length) := by
            rw [HO.out]
            split
            · exact .inl ⟨by omega, rfl⟩
            · exact .inr ⟨by omega, by omega⟩
          rcases hfd with ⟨hp, rfl⟩ | ⟨hp, rfl⟩
          all_goals
            go_wp2_with fail
            have hlt4' := hlt4
            have hB0 := Below.refl w4.heap.size w4
            have hkc : Below w4.heap.size w4 w4.drew ∧ w4.drew.cell? ⟨w.heap.size, 0, none⟩ = some (.int .i64 x.cnt) ∧ w4.drew.cell? ⟨w.heap.size, 1, none⟩ = some (.int .i64 x.who) ∧ w4.drew.cell? ⟨w.heap.size, 2, none⟩ = some (.int .i64 x.seq) ∧ w4.drew.cell? ⟨w.heap.size, 3, none⟩ = some (.int .i64 x.kind) ∧ w4.drew.cell? ⟨w.heap.size, 4, none⟩ = some (.int .i64 x.nc) ∧ w4.drew.cell? ⟨w.heap.size, 5, none⟩ = some (.int .i64 x.nw) ∧ w4.drew.cell? ⟨w.heap.size, 6, none⟩ = some (.bool x.dir) ∧ w4.drew.cell? ⟨w.heap.size, 7, none⟩ = some (.int .i64 x.pc) ∧ w4.drew.cell? ⟨w.heap.size, 8, none⟩ = some (.int .i64 x.pw) ∧ w4.drew.cell? ⟨w.heap.size, 9, none⟩ = some (.string x.name) ∧ w4.drew.cell? ⟨w.heap.size, 10, none⟩ = some (.string x.man) := ⟨hB0.drew, x0, x1, x2, x3, x4, x5, x6, x7, x8, x9, x10⟩
            go_region_held3 (fun w' => Below w4.heap.size w4 w' ∧ w'.cell? ⟨w.heap.size, 0, none⟩ = some (.int .i64 x.cnt) ∧ w'.cell? ⟨w.heap.size, 1, none⟩ = some (.int .i64 x.who) ∧ w'.cell? ⟨w.heap.size, 2, none⟩ = some (.int .i64 x.seq) ∧ w'.cell? ⟨w.heap.size, 3, none⟩ = some (.int .i64 x.kind) ∧ w'.cell? ⟨w.heap.size, 4, none⟩ = some (.int .i64 x.nc) ∧ w'.cell? ⟨w.heap.size, 5, none⟩ = some (.int .i64 x.nw) ∧ w'.cell? ⟨w.heap.size, 6, none⟩ = some (.bool x.dir) ∧ w'.cell? ⟨w.heap.size, 7, none⟩ = some (.int .i64 x.pc) ∧ w'.cell? ⟨w.heap.size, 8, none⟩ = some (.int .i64 x.pw) ∧ w'.cell? ⟨w.heap.size, 9, none⟩ = some (.string x.name) ∧ w'.cell? ⟨w.heap.size, 10, none⟩ = some (.string x.man))
              (first | exact hkc | (go_split_ands; first | exact keepX hX4 (by assumption) hbl2 (Below.size (by assumption)) | exact keepX hX4 (by assumption) hbl (Below.size (by assumption)) | exact keepX hX4 (by assumption) ((Below.refl _ _).alloc (Nat.le_refl _) _) (Below.size (by assumption))) | go_keep)
              (first | (go_at_call 78; go_split_ands; refine (HC.out _ (ha4.keeps (by assumption))).mono ?_; rintro e w' ⟨v, rfl, hown, hbl⟩) | (go_at_call 85; go_split_ands; refine (HIN.out _ _ _ _ (by first | exact hown | exact hown.alloc _) (by first | exact hbl.size | exact Nat.le_trans hbl.size (by simp)) (by first | exact box_VarAt _ x | exact (var_ad w4 x).keeps hbl (lt_ad _ _))).mono ?_; rintro e w' ⟨v2, rfl, hown2, hbl2⟩))
          all_goals
            rename_i hH
            obtain ⟨hbz, -⟩ := hH
            have hbk : ∀ j, v2.ownBlock = some j → w.heap.size ≤ j := fun j hj => by
              have h1 := (hown2.lt hj).1
              have h2 := hc4.size
              first | exact Nat.le_trans h2 h1 | (simp at h1; omega)
            obtain ⟨a', cap', rfl, hra, hlc', hnil', _⟩ := hown2.read_nil
            clear hown2 hown hbl hbl2
            go_wp2_with fail
            go_ret2
            rw [HZ.out]
            exact ⟨a', cap', rfl, hra, hnil', hlc', hc4.trans (hbz.mono hc4.size), .inr fun ad e => hbk ad.block (by rw [e]; rfl)⟩
      · have hD4 := hD3.trans (if_pos hfo)
        have e3 : (fo != 0) = true := by rw [bne_iff_ne]; exact hfo
        have HZ := Lib.hid hD4
        clear hD4
        go_wp2_with fail
        go_ret2
        rw [HZ.out]
        exact ⟨none, 0, rfl, RowsAt.nil _ _ _, fun _ => rfl, Nat.le_refl _, hc3, .inr fun ad e => by cases e⟩
  · have hD2 := HD.out.trans (if_pos hro)
    have e1 : (ro != 0) = true := by rw [bne_iff_ne]; exact hro
    obtain ⟨x0, x1, x2, x3, x4, x5, x6, x7, x8, x9, x10⟩ := HCS.out _ hX
    have HZ := Lib.hid hD2
    clear hD2
    go_enter Tryz.func44, Tryz.ntmps44
    go_wp2_with fail
    rw [← hWX]
    refine (HR.out _).mono ?_
    rintro e w1 ⟨rfl, hb1⟩
    have hc1 := hbx.trans (hb1.mono hbx.size)
    go_wp2_with fail
    go_ret2
    rw [HZ.out]
    exact ⟨none, 0, rfl, RowsAt.nil _ _ _, fun _ => rfl, Nat.le_refl _, hc1, .inr fun ad e => by cases e⟩
theorem add_any2 (a : Option Addr) (cap : Nat) (l : List Opr) (x : Opr) (w : World) (hl : l.length ≤ 10000) (hn : x.name.size ≤ 100000) (hm : x.man.size ≤ 100000) (hnil : a = none → cap = 0) (hlc : l.length ≤ cap) (ha : RowsAt oprLay w a l) :
    Calls Tryz.prog 44 #[.slice a l.length cap, .agg #[.int .i64 x.cnt, .int .i64 x.who, .int .i64 x.seq, .int .i64 x.kind, .int .i64 x.nc, .int .i64 x.nw, .bool x.dir, .int .i64 x.pc, .int .i64 x.pw, .string x.name, .string x.man]] w fun e w' => ∃ a' cap', e = .returned (.tuple #[.slice a' (addO l x).1.length cap', .int .i64 (addO l x).2]) ∧ RowsAt oprLay w' a' (addO l x).1 ∧ (a' = none → cap' = 0) ∧ (addO l x).1.length ≤ cap' ∧ Below w.heap.size w w' ∧ (a' = a ∨ ∀ ad, a' = some ad → w.heap.size ≤ ad.block) :=
  add_walk2 a cap l x w hl hn hm hnil hlc ha (fun _ hm _ => ins_ok hl hm)
end Go.Proofs.YtgglheelhbfgiaaGreatDoor

namespace Go.Proofs.YtgglheelhbfgiaaGreatDoor
open Go Go.RowKit

structure Turned (S : Nat → Prop) (B : Nat) (W W' : World) : Prop where
  os : W'.os = W.os
  tape : W'.tape = W.tape
  output : W'.output = W.output
  size : W.heap.size ≤ W'.heap.size
  block : ∀ k, k < B → ¬ S k → W'.heap[k]? = W.heap[k]?
theorem Turned.refl (S : Nat → Prop) (B : Nat) (W : World) : Turned S B W W := ⟨rfl, rfl, rfl, Nat.le_refl _, fun _ _ _ => rfl⟩
theorem Turned.trans {S : Nat → Prop} {B : Nat} {W W1 W2 : World} (h1 : Turned S B W W1) (h2 : Turned S B W1 W2) : Turned S B W W2 :=
  ⟨h2.os.trans h1.os, h2.tape.trans h1.tape, h2.output.trans h1.output, Nat.le_trans h1.size h2.size, fun k hk hs => (h2.block k hk hs).trans (h1.block k hk hs)⟩
theorem Turned.of_below {S : Nat → Prop} {B B' : Nat} {W W' : World} (h : Below B' W W') (hB : B ≤ B') : Turned S B W W' :=
  ⟨h.os, h.tape, h.output, h.size, fun k hk _ => h.block k (Nat.lt_of_lt_of_le hk hB)⟩
theorem Turned.of_grown {S : Nat → Prop} {B : Nat} {W W' : World} {row : Option Nat} (h : W.grownBy W' row) (hB : B ≤ W.heap.size) (hS : ∀ k, row = some k → k < B → S k) : Turned S B W W' :=
  ⟨h.os, h.tape, h.output, h.size, fun k hk hs => h.block k (Nat.lt_of_lt_of_le hk hB) (fun e => hs (hS k e.symm hk))⟩
theorem Turned.mono {S S' : Nat → Prop} {B B' : Nat} {W W' : World} (h : Turned S B W W') (hB : B' ≤ B) (hS : ∀ k, k < B' → S k → S' k) : Turned S' B' W W' :=
  ⟨h.os, h.tape, h.output, h.size, fun k hk hs => h.block k (Nat.lt_of_lt_of_le hk hB) (fun e => hs (hS k hk e))⟩
theorem Turned.below {S : Nat → Prop} {B B' : Nat} {W W' : World} (h : Turned S B W W') (hB : B' ≤ B) (hS : ∀ k, k < B' → ¬ S k) : Below B' W W' :=
  ⟨h.os, h.tape, h.output, h.size, fun k hk => h.block k (Nat.lt_of_lt_of_le hk hB) (hS k hk)⟩
theorem Turned.set {S : Nat → Prop} {B b : Nat} {W W' : World} (h : Turned S B W W') (i : Nat) (v : Value) (hb : b < B → S b) : Turned S B W (W'.setCell ⟨b, i, none⟩ v) :=
  ⟨h.os, h.tape, h.output, by simpa using h.size, fun k hk hs => by
    rw [Below.heap_setCell W' ⟨b, i, none⟩ v k (fun e => hs (by
      have e2 : k = b := e
      rw [e2]
      exact hb (by rw [← e2]; exact hk)))]
    exact h.block k hk hs⟩
theorem Turned.alloc {S : Nat → Prop} {B : Nat} {W W' : World} (h : Turned S B W W') (hB : B ≤ W'.heap.size) (o : Obj) : Turned S B W (W'.alloc o) :=
  h.trans (Turned.of_below ((Below.refl W'.heap.size W').alloc (Nat.le_refl _) o) hB)
theorem Turned.drewN {S : Nat → Prop} {B : Nat} {W W' : World} (h : Turned S B W W') (n : Nat) : Turned S B W (W'.drewN n) :=
  ⟨h.os, h.tape, h.output, h.size, h.block⟩
theorem OwnRows.turned {α : Type} {L : Lay α} {W W' : World} {S : Nat → Prop} {base : Nat} {e : TypeId} {v : Value} {xs : List α} (h : OwnRows L W base e v xs) (ht : Turned S W.heap.size W W') (hS : ∀ k, S k → k < base) : OwnRows L W' base e v xs := by
  refine ⟨h.1, ?_⟩
  rcases h.2 with hn | ⟨g, cap, cur, rfl, hg, hgg, rest⟩
  · exact .inl hn
  · refine .inr ⟨g, cap, cur, rfl, hg, ?_, rest⟩
    rw [ht.block g (Array.getElem?_eq_some_iff.1 hgg).1 (fun hs => by have := hS g hs; omega)]
    exact hgg
theorem RowsAt.turned {α : Type} {L : Lay α} {W W' : World} {S : Nat → Prop} {B : Nat} {a : Option Addr} {xs : List α} (h : RowsAt L W a xs) (ht : Turned S B W W') (hB : ∀ ad, a = some ad → ad.block < B ∧ ¬ S ad.block) : RowsAt L W' a xs := by
  intro j x hj
  obtain ⟨b, off, rfl, hlt, hc⟩ := h j x hj
  obtain ⟨h1, h2⟩ := hB _ rfl
  refine ⟨b, off, rfl, Nat.lt_of_lt_of_le hlt ht.size, fun f v hf => ?_⟩
  have e : W'.cell? ⟨b, off + j * L.sz + f, none⟩ = W.cell? ⟨b, off + j * L.sz + f, none⟩ := World.cell?_of_block (ht.block b h1 h2)
  rw [e]
  exact hc f v hf
end Go.Proofs.YtgglheelhbfgiaaGreatDoor

