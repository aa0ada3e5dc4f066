/-
  
-/
import Derived.Test.YtlenpifjkbcmdaaGreatDoorOpsGB
import Derived.Test.YtlenpifjkbcmdaaGreatDoorCopies
import Derived.Deep.RegionLaw
import Derived.Laws.CopyOwn
import Derived.Laws.Externs
namespace Go.Proofs.YtlenpifjkbcmdaaGreatDoor
open Go Go.RowKit Go.Lib

theorem oprSz : (Tryz.prog.info? 28).map (·.size) = some 11 := by kernel_rfl
theorem ins_flat (l : List Opr) (x : Opr) (k : Nat) : flat oprLay (l.take k ++ x :: l.drop k) = flat oprLay (l.take k) ++ x.cells ++ flat oprLay (l.drop k) := by
  rw [show l.take k ++ x :: l.drop k = (l.take k ++ [x]) ++ l.drop k by simp, flat_append, flat_snoc]
  rfl
theorem flat_take (l : List Opr) (k : Nat) (hk : k ≤ l.length) : (flat oprLay l).take (k * 11) = flat oprLay (l.take k) := by
  conv => lhs; rw [← List.take_append_drop k l, flat_append]
  rw [List.take_left' (by rw [flat_length, List.length_take, Nat.min_eq_left hk]; rfl)]
theorem flat_drop (l : List Opr) (k : Nat) (hk : k ≤ l.length) : (flat oprLay l).drop (k * 11) = flat oprLay (l.drop k) := by
  conv => lhs; rw [← List.take_append_drop k l, flat_append]
  rw [List.drop_left' (by rw [flat_length, List.length_take, Nat.min_eq_left hk]; rfl)]

set_option maxRecDepth 100000 in
set_option maxHeartbeats 6400000 in
/-- slices.Insert in the midst of a slice that is the call's own. -/
theorem insertMid_any (v : Value) (l : List Opr) (x : Opr) (vb B k : Nat) (w : World) (hl : l.length ≤ 10000) (hk : k < l.length) (hv : OwnRows oprLay w B 28 v l) (hBw : B ≤ w.heap.size) (hx : VarAt w vb x.cells) (hvb : v.ownBlock ≠ some vb) (hsh : ∃ tA kA, w.shape? vb = some (tA, kA)) :
    Calls Tryz.prog 18 #[v, .int .i64 k, .slice (some ⟨vb, 0, none⟩) 1 1] w fun e w' => ∃ v', e = .returned v' ∧ OwnRows oprLay w' B 28 v' (l.take k ++ x :: l.drop k) ∧ Below B w w' := by
  obtain ⟨hfl, hv2⟩ := hv
  rcases hv2 with ⟨rfl, h0⟩ | ⟨g, c, cur, rfl, hgB, hgg, hnc, hcm, hcs, htk⟩
  · omega
  have hgv : g ≠ vb := fun e => hvb (by rw [e]; rfl)
  have hglt : g < w.heap.size := (Array.getElem?_eq_some_iff.1 hgg).1
  have hsz : oprLay.sz = 11 := rfl
  rw [hsz] at hcs htk hfl
  have hxl : x.cells.length = 11 := rfl
  have hxa : ∀ j u, x.cells[j]? = some u → w.cell? ((⟨vb, 0, none⟩ : Addr).add j) = some u := fun j u hj => by
    rw [Addr.add_lit, Nat.zero_add]
    exact hx.2.2 j u hj
  have hFk : cur.toList.take (k * 11) = flat oprLay (l.take k) := by
    rw [← flat_take l k (by omega), ← htk, List.take_take, Nat.min_eq_left (by omega)]
  have hD : ∀ j u, (flat oprLay (l.drop k))[j]? = some u → w.cell? ⟨g, k * 11 + j, none⟩ = some u := by
    intro j u hj
    rw [← flat_drop l k (by omega), ← htk, List.getElem?_drop, List.getElem?_take] at hj
    split at hj
    · rw [Lib.cell_of_heap hgg]; simpa using hj
    · cases hj
  have hDl : (flat oprLay (l.drop k)).length = (l.length - k) * 11 := by rw [flat_length, List.length_drop]; rfl
  have hFl : (flat oprLay (l.take k)).length = k * 11 := by rw [flat_length, List.length_take, Nat.min_eq_left (by omega)]; rfl
  have Hins := Lib.hid (ins_flat l x k)
  have h1x : ∀ v ∈ x.cells, v.oneCell' = true := oprLay.one x
  have h1d : ∀ v ∈ flat oprLay (l.drop k), v.oneCell' = true := flat_one oprLay _
  have e1 : ((k : Int) == (l.length : Int)) = false := by rw [beq_eq_false_iff_ne]; omega
  have hlow : ∀ W, (Instr.slice 22 (.slice (some ⟨g, 0, none⟩) l.length c) (some (.int .i64 k)) none none).run Tryz.prog W = .ok (.slice (some ⟨g, k * 11, none⟩) (l.length - k) (c - k)) W := fun W => by
    have := slice_low (P := Tryz.prog) Tryz.underlying22 Tryz.sizeOf28 (some ⟨g, 0, none⟩) l.length c k (by omega) W
    rwa [lowA_some (by omega)] at this
  have hlow2 : ∀ W, (Instr.slice 22 (.slice (some ⟨g, 0, none⟩) (l.length + 1) c) (some (.int .i64 k)) none none).run Tryz.prog W = .ok (.slice (some ⟨g, k * 11, none⟩) (l.length + 1 - k) (c - k)) W ∨ c < l.length + 1 := fun W => by
    by_cases hc : c < l.length + 1
    · exact .inr hc
    · have := slice_low (P := Tryz.prog) Tryz.underlying22 Tryz.sizeOf28 (some ⟨g, 0, none⟩) (l.length + 1) c k (by omega) W
      rw [lowA_some (by omega)] at this
      exact .inl this
  obtain ⟨tA, kA, hsa⟩ := hsh
  have hxt : cur.toList.length = c * 11 := by rw [Array.length_toList]; exact hcs
  by_cases hroom : l.length + 1 ≤ c
  · have hlow3 : ∀ W, (Instr.slice 22 (.slice (some ⟨g, 0, none⟩) (l.length + 1) c) (some (.int .i64 k)) none none).run Tryz.prog W = .ok (.slice (some ⟨g, k * 11, none⟩) (l.length + 1 - k) (c - k)) W := fun W => (hlow2 W).resolve_right (by omega)
    have hlow4 : ∀ W, (Instr.slice 22 (.slice (some ⟨g, 0, none⟩) (l.length + 1) c) (some (.int .i64 ((k : Int) + 1))) none none).run Tryz.prog W = .ok (.slice (some ⟨g, (k + 1) * 11, none⟩) (l.length + 1 - (k + 1)) (c - (k + 1))) W := fun W => by
      have := slice_low (P := Tryz.prog) Tryz.underlying22 Tryz.sizeOf28 (some ⟨g, 0, none⟩) (l.length + 1) c (k + 1) (by omega) W
      rw [lowA_some (by omega)] at this
      exact_mod_cast this
    have hhigh : ∀ W, (Instr.slice 22 (.slice (some ⟨g, 0, none⟩) l.length c) none (some (.int .i64 ((l.length : Int) + 1))) none).run Tryz.prog W = .ok (.slice (some ⟨g, 0, none⟩) (l.length + 1) c) W := fun W => by
      have := slice_high (P := Tryz.prog) Tryz.underlying22 Tryz.sizeOf28 (some ⟨g, 0, none⟩) l.length c (l.length + 1) (by omega) W
      exact_mod_cast this
    have hsb : w.shape? g = some (28, cur.size) := by simp [World.shape?, hgg]
    have hov : ∀ o lb cb, (callFunc 50 #[.slice (some ⟨vb, 0, none⟩) 1 1, .slice (some ⟨g, o, none⟩) lb cb]).run Tryz.prog w = .ok (.value (.bool false)) w := fun o lb cb => by
      rw [run_callFunc_extern Tryz.func50 (by kernel_rfl) (by kernel_rfl) (by kernel_rfl) (e := Extern.SlicesOverlaps.overlaps #[22, 22] #[4]) (by kernel_rfl),
        Lib.run_overlaps_apart w 22 4 28 Tryz.underlying22 11 Tryz.sizeOf28 ⟨vb, 0, none⟩ ⟨g, o, none⟩ 1 1 lb cb (fun e => hgv e.symm) tA 28 kA cur.size hsa hsb (by omega) (hx.2.1 0) (hx.2.1 kA)]
      rfl
    have hgd : w.drew.heap[g]? = some (.cells cur 28 (0, 0)) := hgg
    have hcp1 : ∀ ty, (Builtin.copy_ #[22, 22] ty #[.slice (some ⟨g, (k + 1) * 11, none⟩) (l.length + 1 - (k + 1)) (c - (k + 1)), .slice (some ⟨g, k * 11, none⟩) (l.length + 1 - k) (c - k)]).run Tryz.prog w.drew = .ok (goInt ((l.length - k : Nat) : Int)) (w.drew.setRow g (cur.toList.take ((k + 1) * 11) ++ flat oprLay (l.drop k) ++ cur.toList.drop ((k + 1) * 11 + (flat oprLay (l.drop k)).length)).toArray) := fun ty =>
      run_copy_rows (P := Tryz.prog) w.drew 22 22 ty 28 g ((k + 1) * 11) (l.length + 1 - (k + 1)) (c - (k + 1)) ⟨g, k * 11, none⟩ (l.length + 1 - k) (c - k) cur 28 (flat oprLay (l.drop k)) 11 (l.length - k) Tryz.underlying22 oprSz hgd (by simp only [Nat.min_def]; split <;> omega) hDl
        (fun j u hj => by rw [Addr.add_lit]; exact hD j u hj) (by rw [hDl, hcs]; omega) h1d
    obtain ⟨arr1, ha1⟩ : ∃ arr1, arr1 = cur.toList.take ((k + 1) * 11) ++ flat oprLay (l.drop k) ++ cur.toList.drop ((k + 1) * 11 + (flat oprLay (l.drop k)).length) := ⟨_, rfl⟩
    rw [← ha1] at hcp1
    have hl1 : arr1.length = c * 11 := by
      rw [ha1]
      simp only [List.length_append, List.length_take, List.length_drop, hDl, hxt]
      omega
    have hcp2 : ∀ ty, (Builtin.copy_ #[22, 22] ty #[.slice (some ⟨g, k * 11, none⟩) (l.length + 1 - k) (c - k), .slice (some ⟨vb, 0, none⟩) 1 1]).run Tryz.prog (w.drew.setRow g arr1.toArray) = .ok (goInt 1) ((w.drew.setRow g arr1.toArray).setRow g (arr1.take (k * 11) ++ x.cells ++ arr1.drop (k * 11 + x.cells.length)).toArray) := fun ty => by
      have := run_copy_rows (P := Tryz.prog) (w.drew.setRow g arr1.toArray) 22 22 ty 28 g (k * 11) (l.length + 1 - k) (c - k) ⟨vb, 0, none⟩ 1 1 arr1.toArray 28 x.cells 11 1 Tryz.underlying22 oprSz (setRow_heap _ g _ _ _ _ hgd) (by simp only [Nat.min_def]; split <;> omega) hxl
        (fun j u hj => by rw [cell_setRow_other _ _ _ _ (by rw [Addr.add_lit]; exact fun e => hgv e.symm)]; exact hxa j u hj) (by rw [hxl]; simp [hl1]; omega) h1x
      simpa using this
    obtain ⟨arr2, ha2⟩ : ∃ arr2, arr2 = arr1.take (k * 11) ++ x.cells ++ arr1.drop (k * 11 + x.cells.length) := ⟨_, rfl⟩
    rw [← ha2] at hcp2
    have hl2 : arr2.length = c * 11 := by
      rw [ha2]
      simp only [List.length_append, List.length_take, List.length_drop, hxl, hl1]
      omega
    have hfin : arr2.take ((l.length + 1) * 11) = flat oprLay (l.take k) ++ x.cells ++ flat oprLay (l.drop k) := by
      rw [ha2, ha1]
      exact ins_shift hFk hxl hDl (by omega) hFl (by rw [hxt]; omega)
    have Hres := Lib.hid (show OwnRows oprLay ((w.drew.setRow g arr1.toArray).setRow g arr2.toArray) B 28 (.slice (some ⟨g, 0, none⟩) (l.length + 1) c) (l.take k ++ x :: l.drop k) from by
      refine ⟨flat_length _ _, .inr ⟨g, c, arr2.toArray, ?_, hgB, setRow_heap _ g _ _ _ _ (setRow_heap _ g _ _ _ _ hgd), ?_, hcm, ?_, ?_⟩⟩
      · congr 1
        simp; omega
      · simp; omega
      · simp [hl2, hsz]
      · rw [ins_flat, ← hfin, hsz]
        simp only [List.length_append, List.length_take, List.length_cons, List.length_drop]
        congr 2
        omega)
    have Hbel := Lib.hid (show Below B w ((w.drew.setRow g arr1.toArray).setRow g arr2.toArray) from below_setRow (below_setRow (Below.refl B w).drew hgB _) hgB _)
    have hnc2 : ¬ ((c : Int) < (l.length : Int) + 1) := by omega
    have hw1 : IntKind.i64.wrap ((k : Int) + 1) = (k : Int) + 1 := by rw [IntKind.wrap_i64]; omega
    have hb1 : (0 : Int) ≤ (k : Int) + 1 := by omega
    have htn : ((k : Int) + 1).toNat = k + 1 := by omega
    have hb2 : ¬ (c = k + 1) := by omega
    have hb3 : (k : Int) ≤ (l.length : Int) + 1 := by omega
    have hb4 : ¬ (c = k) := by omega
    have hb5 : k ≤ l.length := by omega
    have hb6 : (k : Int) + 1 ≤ (l.length : Int) + 1 := by omega
    clear hlow2 ha1 ha2 hl1 hl2 hfin hFk hFl hD hDl hgd hsa hsb h1x h1d hxa hxl hcs htk hfl hgg hxt Hins hx
    go_enter Tryz.func18, Tryz.ntmps18
    go_wp2_with (simp only [hov])
    go_region_law (refine step_copy_run rfl _ _ 22 22 rfl _ _ (by simp [Act.eval, Act.put]) (by simp [Act.eval, Act.put]) (hcp1 _) ?_)
    go_wp2_with (at_builtin; refine wpList_copy_run _ rfl _ _ 22 22 rfl _ _ rfl rfl (hcp2 _) ?_)
    go_ret
    exact ⟨_, rfl, Hres.out, Hbel.out⟩
  · have hkl : k ≤ c := by omega
    obtain ⟨k', hk'⟩ : ∃ k', k' = l.length + 1 - k := ⟨_, rfl⟩
    have hkk : k + k' = l.length + 1 := by omega
    obtain ⟨G, hG⟩ : ∃ G, G = grownCap w (k + k') c 28 := ⟨_, rfl⟩
    have hG1 : l.length + 1 ≤ G := by rw [hG, ← hkk]; exact grownCap_ge _ _ _ _
    have hG2 : G ≤ maxLen := by rw [hG]; exact grownCap_le_maxLen _ _ _ _ (by unfold maxLen; omega)
    have hgd : w.drew.heap[g]? = some (.cells cur 28 (0, 0)) := hgg
    have hhigh : ∀ W, (Instr.slice 22 (.slice (some ⟨g, 0, none⟩) l.length c) none (some (.int .i64 k)) none).run Tryz.prog W = .ok (.slice (some ⟨g, 0, none⟩) k c) W := fun W => slice_high (P := Tryz.prog) Tryz.underlying22 Tryz.sizeOf28 (some ⟨g, 0, none⟩) l.length c k (by omega) W
    obtain ⟨i0, hi, hz0, hz1, hz2⟩ := info_parts oprInfo
    obtain ⟨Z, hZ⟩ : ∃ Z, Z = (Builtin.zeroCells (Value.cells (.agg #[.int .i64 0, .int .i64 0, .int .i64 0, .int .i64 0, .int .i64 0, .int .i64 0, .bool false, .int .i64 0, .int .i64 0, .string ⟨#[]⟩, .string ⟨#[]⟩])) k' ++ Builtin.zeroCells (Value.cells (.agg #[.int .i64 0, .int .i64 0, .int .i64 0, .int .i64 0, .int .i64 0, .int .i64 0, .bool false, .int .i64 0, .int .i64 0, .string ⟨#[]⟩, .string ⟨#[]⟩])) (G - (k + k'))) := ⟨_, rfl⟩
    have hZl : Z.size = (G - k) * 11 := by
      rw [hZ, Array.size_append, size_zeroCells, size_zeroCells]
      rw [show (Value.cells (.agg #[.int .i64 0, .int .i64 0, .int .i64 0, .int .i64 0, .int .i64 0, .int .i64 0, .bool false, .int .i64 0, .int .i64 0, .string ⟨#[]⟩, .string ⟨#[]⟩])).size = 11 from rfl]
      omega
    have hap : ∀ ty, (Builtin.append_ #[22, 3] ty #[.slice (some ⟨g, 0, none⟩) k c, .int .i64 ((l.length : Int) + 1 - (k : Int))]).run Tryz.prog w = .ok (.slice (some ⟨w.heap.size, 0, none⟩) (l.length + 1) G) (w.drew.alloc (.cells ((flat oprLay (l.take k)).toArray ++ Z) 28)) := fun ty => by
      have h := Lib.run_append_grow_zeros (P := Tryz.prog) w 22 3 ty 28 i0 (.agg #[.int .i64 0, .int .i64 0, .int .i64 0, .int .i64 0, .int .i64 0, .int .i64 0, .bool false, .int .i64 0, .int .i64 0, .string ⟨#[]⟩, .string ⟨#[]⟩]) .i64 .i64 Tryz.underlying22 Tryz.underlying3 hi hz0 (some ⟨g, 0, none⟩) k c (flat oprLay (l.take k)) (by
          have := run_loadCells_list (P := Tryz.prog) w.drew ⟨g, 0, none⟩ (flat oprLay (l.take k)) (fun j u hj => by
            rw [Addr.add_lit, Nat.zero_add, Lib.cell_of_heap hgd]
            rw [← hFk, List.getElem?_take] at hj
            split at hj
            · simpa using hj
            · cases hj)
          rw [hFl] at this
          simpa [Builtin.firstCells, hz1] using this) k' (by omega) (by omega) (by omega) (by omega) (by rw [hz2]; omega) (by rw [hz2]; exact growslice_fits (by omega) (by omega))
      rw [show ((l.length : Int) + 1 - (k : Int)) = ((k' : Nat) : Int) by omega, h, ← hG, hZ, hkk, Array.append_assoc]
    obtain ⟨A, hA⟩ : ∃ A, A = (flat oprLay (l.take k)).toArray ++ Z := ⟨_, rfl⟩
    rw [← hA] at hap
    have hAs : A.size = G * 11 := by
      rw [hA, Array.size_append, hZl, List.size_toArray, hFl]
      omega
    have hAF : A.toList.take (k * 11) = flat oprLay (l.take k) := by
      rw [hA, Array.toList_append]
      rw [List.take_left' (by simpa using hFl)]
    obtain ⟨W1, hW1⟩ : ∃ W1, W1 = w.drew.alloc (.cells A 28) := ⟨_, rfl⟩
    rw [← hW1] at hap
    have hh1 : W1.heap[w.heap.size]? = some (.cells A 28 (0, 0)) := by rw [hW1]; exact heap_alloc_new w.drew _
    have hb1 : Below w.heap.size w W1 := by rw [hW1]; exact (Below.refl _ _).drew.alloc (Nat.le_refl _) _
    have hA1 : A.toList.length = G * 11 := by simpa using hAs
    have hxlt := hx.1
    obtain ⟨arr1, ha1⟩ : ∃ arr1, arr1 = A.toList.take (k * 11) ++ x.cells ++ A.toList.drop (k * 11 + x.cells.length) := ⟨_, rfl⟩
    have hl1 : arr1.length = G * 11 := by
      rw [ha1]
      simp only [List.length_append, List.length_take, List.length_drop, hxl, hA1]
      omega
    have hcp1 : ∀ ty, (Builtin.copy_ #[22, 22] ty #[.slice (some ⟨w.heap.size, k * 11, none⟩) (l.length + 1 - k) (G - k), .slice (some ⟨vb, 0, none⟩) 1 1]).run Tryz.prog W1 = .ok (goInt 1) (W1.setRow w.heap.size arr1.toArray) := fun ty => by
      have := run_copy_rows (P := Tryz.prog) W1 22 22 ty 28 w.heap.size (k * 11) (l.length + 1 - k) (G - k) ⟨vb, 0, none⟩ 1 1 A 28 x.cells 11 1 Tryz.underlying22 oprSz hh1 (by simp only [Nat.min_def]; split <;> omega) hxl
        (fun j u hj => by rw [hb1.cell (by rw [Addr.add_lit]; exact hxlt)]; exact hxa j u hj) (by rw [hxl, hAs]; omega) h1x
      rw [← ha1] at this
      simpa using this
    obtain ⟨W2, hW2⟩ : ∃ W2, W2 = W1.setRow w.heap.size arr1.toArray := ⟨_, rfl⟩
    rw [← hW2] at hcp1
    have hh2 : W2.heap[w.heap.size]? = some (.cells arr1.toArray 28 (0, 0)) := by rw [hW2]; exact setRow_heap _ _ _ _ _ _ hh1
    have hb2 : Below w.heap.size w W2 := by rw [hW2]; exact below_setRow hb1 (Nat.le_refl _) _
    obtain ⟨arr2, ha2⟩ : ∃ arr2, arr2 = arr1.take ((k + 1) * 11) ++ flat oprLay (l.drop k) ++ arr1.drop ((k + 1) * 11 + (flat oprLay (l.drop k)).length) := ⟨_, rfl⟩
    have hl2 : arr2.length = G * 11 := by
      rw [ha2]
      simp only [List.length_append, List.length_take, List.length_drop, hDl, hl1]
      omega
    have hcp2 : ∀ ty, (Builtin.copy_ #[22, 22] ty #[.slice (some ⟨w.heap.size, (k + 1) * 11, none⟩) (l.length + 1 - (k + 1)) (G - (k + 1)), .slice (some ⟨g, k * 11, none⟩) (l.length - k) (c - k)]).run Tryz.prog W2.drew = .ok (goInt ((l.length - k : Nat) : Int)) (W2.drew.setRow w.heap.size arr2.toArray) := fun ty => by
      have := run_copy_rows (P := Tryz.prog) W2.drew 22 22 ty 28 w.heap.size ((k + 1) * 11) (l.length + 1 - (k + 1)) (G - (k + 1)) ⟨g, k * 11, none⟩ (l.length - k) (c - k) arr1.toArray 28 (flat oprLay (l.drop k)) 11 (l.length - k) Tryz.underlying22 oprSz hh2 (by simp only [Nat.min_def]; split <;> omega) hDl
        (fun j u hj => by rw [Addr.add_lit]; exact (hb2.cell (p := ⟨g, k * 11 + j, none⟩) hglt).trans (hD j u hj)) (by rw [hDl, List.size_toArray, hl1]; omega) h1d
      rw [this, ha2]
    have hfin : arr2.take ((l.length + 1) * 11) = flat oprLay (l.take k) ++ x.cells ++ flat oprLay (l.drop k) := by
      rw [ha2, ha1]
      exact ins_grow hAF hxl hDl (by omega) (by rw [hA1]; omega) hFl
    have Hres := Lib.hid (show OwnRows oprLay (W2.drew.setRow w.heap.size arr2.toArray) B 28 (.slice (some ⟨w.heap.size, 0, none⟩) (l.length + 1) G) (l.take k ++ x :: l.drop k) from by
      refine ⟨flat_length _ _, .inr ⟨w.heap.size, G, arr2.toArray, ?_, hBw, setRow_heap _ _ _ _ _ _ hh2, ?_, hG2, ?_, ?_⟩⟩
      · congr 1
        simp; omega
      · simp; omega
      · simp [hl2, hsz]
      · rw [ins_flat, ← hfin, hsz]
        simp only [List.length_append, List.length_take, List.length_cons, List.length_drop]
        congr 2
        omega)
    have Hbel := Lib.hid (show Below B w (W2.drew.setRow w.heap.size arr2.toArray) from (below_setRow (hb2.drew) (Nat.le_refl _) _).mono hBw)
    have hnc2 : (c : Int) < (l.length : Int) + 1 := by omega
    have hw1 : IntKind.i64.wrap ((k : Int) + 1) = (k : Int) + 1 := by rw [IntKind.wrap_i64]; omega
    have hb0 : (0 : Int) ≤ (k : Int) + 1 := by omega
    have htn : ((k : Int) + 1).toNat = k + 1 := by omega
    have hq1 : ¬ (G = k + 1) := by omega
    have hq2 : ¬ (G = k) := by omega
    have hq3 : (k : Int) ≤ (l.length : Int) + 1 := by omega
    have hq4 : ¬ (c = k) := by omega
    have hq5 : k ≤ l.length := by omega
    have hq6 : (k : Int) + 1 ≤ (l.length : Int) + 1 := by omega
    have hq7 : k ≤ l.length + 1 := by omega
    have hlowG : ∀ W, (Instr.slice 22 (.slice (some ⟨w.heap.size, 0, none⟩) (l.length + 1) G) (some (.int .i64 k)) none none).run Tryz.prog W = .ok (.slice (some ⟨w.heap.size, k * 11, none⟩) (l.length + 1 - k) (G - k)) W := fun W => by
      have := slice_low (P := Tryz.prog) Tryz.underlying22 Tryz.sizeOf28 (some ⟨w.heap.size, 0, none⟩) (l.length + 1) G k (by omega) W
      rwa [lowA_some (by omega)] at this
    clear hlow2 ha1 ha2 hl1 hl2 hfin hFk hFl hD hDl hgd hsa h1x h1d hxa hxl hcs htk hfl hgg hxt Hins hx hA hAs hAF hW1 hW2 hh1 hh2 hb1 hb2 hA1 hZ hZl hi hz0 hz1 hz2 hG hG2 hk' hkk
    go_enter Tryz.func18, Tryz.ntmps18
    go_wp2_with (at_builtin; refine Lib.wpList_append_run _ rfl _ _ 22 3 rfl _ _ rfl rfl _ _ (hap _) ?_)
    go_wp2_with (at_builtin; refine wpList_copy_run _ rfl _ _ 22 22 rfl _ _ rfl rfl (hcp1 _) ?_)
    go_region_law (refine step_copy_run rfl _ _ 22 22 rfl _ _ (by simp [Act.eval, Act.put]) (by simp [Act.eval, Act.put]) (hcp2 _) ?_)
    go_wp2_with fail
    go_ret
    exact ⟨_, rfl, Hres.out, Hbel.out⟩
end Go.Proofs.YtlenpifjkbcmdaaGreatDoor

namespace Go.Proofs.YtlenpifjkbcmdaaGreatDoor
open Go Go.RowKit Go.Lib

theorem own_ne {W : World} {B vb : Nat} {v : Value} {l : List Opr} {x : Opr} (h : OwnRows oprLay W B 28 v l) (hx : VarAt W vb x.cells) (hk : 0 < l.length) (hm : memB l x = false) : v.ownBlock ≠ some vb := by
  intro he
  obtain ⟨y, hy⟩ := at_some hk
  have hxy : x = y := by
    rcases h.2 with ⟨rfl, _⟩ | ⟨g, c, cur, rfl, _⟩
    · cases he
    · have hgv : g = vb := by simpa [Value.ownBlock] using he
      subst hgv
      obtain ⟨a, cap', e, hr, _⟩ := h.read
      cases e
      obtain ⟨b, off, e2, hlt, c0, c1, c2, c3, c4, c5, c6, c7, c8, c9, c10⟩ := opr_at hr hy
      cases e2
      have key : ∀ i v u, x.cells[i]? = some v → W.cell? ⟨g, i, none⟩ = some u → v = u := fun i v u h1 h2 => by
        have := hx.2.2 i v h1
        rw [h2] at this
        exact (Option.some.inj this).symm
      have k0 := key 0 _ _ rfl c0
      have k1 := key 1 _ _ rfl (by simpa using c1)
      have k2 := key 2 _ _ rfl (by simpa using c2)
      have k3 := key 3 _ _ rfl (by simpa using c3)
      have k4 := key 4 _ _ rfl (by simpa using c4)
      have k5 := key 5 _ _ rfl (by simpa using c5)
      have k6 := key 6 _ _ rfl (by simpa using c6)
      have k7 := key 7 _ _ rfl (by simpa using c7)
      have k8 := key 8 _ _ rfl (by simpa using c8)
      have k9 := key 9 _ _ rfl (by simpa using c9)
      have k10 := key 10 _ _ rfl (by simpa using c10)
      simp only [Value.int.injEq, true_and, Value.bool.injEq, Value.string.injEq] at k0 k1 k2 k3 k4 k5 k6 k7 k8 k9 k10
      exact Opr.ext' k0 k1 k2 k3 k4 k5 k6 k7 k8 k9 k10
  have : memB l x = true := any_hit hy (by simp [hxy])
  rw [hm] at this
  cases this
theorem shape_cell {W : World} {b i : Nat} {v : Value} (h : W.cell? ⟨b, i, none⟩ = some v) : ∃ t k, W.shape? b = some (t, k) := by
  unfold World.cell? at h
  unfold World.shape?
  split at h
  · rename_i c e f heq
    dsimp only at heq
    rw [heq]
    exact ⟨_, _, rfl⟩
  · cases h
theorem ins_ok {l : List Opr} {x : Opr} (hl : l.length ≤ 10000) (hm : memB l x = false) : InsOk l x := by
  intro v vb B W h1 h2 h3
  by_cases hk : atO l x < l.length
  · exact insertMid_any v l x vb B (atO l x) W hl hk h1 h2 h3 (own_ne h1 h3 (by omega) hm) (shape_cell (h3.2.2 0 _ rfl))
  · have he : atO l x = l.length := by have := atO_le l x; omega
    have := insertEnd_any v l x vb B W hl h1 h2 h3
    unfold insO
    rw [he, List.take_length, List.drop_length]
    exact this
theorem add_any (a : Option Addr) (cap : Nat) (l : List Opr) (x : Opr) (w : World) (hl : l.length ≤ 10000) (hn : x.name.size ≤ 100000) (hm : x.man.size ≤ 100000) (hnil : a = none → cap = 0) (hlc : l.length ≤ cap) (ha : RowsAt oprLay w a l) :
    Calls Tryz.prog 5 #[.slice a l.length cap, .agg #[.int .i64 x.cnt, .int .i64 x.who, .int .i64 x.seq, .int .i64 x.kind, .int .i64 x.nc, .int .i64 x.nw, .bool x.dir, .int .i64 x.pc, .int .i64 x.pw, .string x.name, .string x.man]] w fun e w' => ∃ a' cap', e = .returned (.tuple #[.slice a' (addO l x).1.length cap', .int .i64 (addO l x).2]) ∧ RowsAt oprLay w' a' (addO l x).1 ∧ (a' = none → cap' = 0) ∧ (addO l x).1.length ≤ cap' ∧ Below w.heap.size w w' :=
  add_walk a cap l x w hl hn hm hnil hlc ha (fun _ hm _ => ins_ok hl hm)
end Go.Proofs.YtlenpifjkbcmdaaGreatDoor

