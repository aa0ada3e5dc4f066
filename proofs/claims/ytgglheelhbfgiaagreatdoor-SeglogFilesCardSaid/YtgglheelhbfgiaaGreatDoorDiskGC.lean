/-
  A disk: Sync, New. A disk: Names; each call at a disk whose parts are hidden. A disk: Crash.
-/
import Derived.Test.YtgglheelhbfgiaaGreatDoorDiskGB
import Derived.Shelf.SlMaps.Clone
import Derived.Test.YtgglheelhbfgiaaGreatDoorEntry
import Derived.Shelf.SlIter.Keys
import Derived.Shelf.SlIter.Sorted
namespace Go.Proofs.YtgglheelhbfgiaaGreatDoor
open Go Go.RowKit Go.Lib
theorem dclone_any (b : Nat) (rows : Array MapEntry) (clock : Nat) (w : World) (hb : w.heap[b]? = some (.map rows clock)) : Calls Tryz.prog 71 #[.map (some b)] w fun e w' => e = .returned (.map (some w.heap.size)) ∧ w' = w.alloc (.map rows clock) :=
  AnyW.maps_Clone Tryz.clone71 b rows clock w hb
theorem sync_dead {d : Dk} (h : d.dead = true) : syncD d = (d, 42) := if_pos h
theorem sync_dies {d : Dk} (h : d.dead = false) (h2 : (diesD d).dead = true) : syncD d = (diesD d, 42) := by
  unfold syncD
  rw [if_neg (by rw [h]; exact Bool.noConfusion), if_pos h2]
theorem sync_ok {d : Dk} (h : d.dead = false) (h2 : (diesD d).dead = false) : syncD d = ({ diesD d with firm := d.now, acts := [] }, 0) := by
  unfold syncD
  rw [if_neg (by rw [h]; exact Bool.noConfusion), if_neg (by rw [h2]; exact Bool.noConfusion)]
theorem DGo.turned {w w' : World} {db nb fb : Nat} {v : Value} {S : Nat → Prop} {d d' : Dk} (h : DAt w db nb fb v S d) (h' : DAt w' db nb fb v S d') (ht : Turned (fun j => j = db) w.heap.size w w') : DGo w db S d' w' :=
  ⟨⟨nb, fb, v, h'.mono (fun _ hk => .inl hk) fun k hk => by
    rcases hk with hk | hk
    · exact h'.slt k hk
    · exact hk.2⟩, ht.mono (Nat.le_refl _) fun k _ hk => by
    have : k = db := hk
    rw [this]
    exact h.sdb⟩
set_option maxRecDepth 100000 in
set_option maxHeartbeats 3200000 in
theorem sync_any (w : World) (db nb fb : Nat) (v : Value) (S : Nat → Prop) (d : Dk) (h : DAt w db nb fb v S d) :
    Calls Tryz.prog 52 #[.pointer (some ⟨db, 0, none⟩)] w fun e w' => e = .returned (.int .i64 (syncD d).2) ∧ DGo w db S (syncD d).1 w' := by
  have c5 : w.cell? ⟨db, 5, none⟩ = some (.bool d.dead) := h.cells.2.2 5 _ rfl
  obtain ⟨fs, ho, _⟩ := h.acts
  obtain ⟨aa, ac, rfl, _, _⟩ := ho.read
  clear ho
  have HD := Lib.hid h
  have hdb := h.cells.1
  clear h
  cases hd : d.dead with
  | true =>
    have Hr := Lib.hid (sync_dead hd)
    rw [hd] at c5
    clear hd
    go_enter Tryz.func52, Tryz.ntmps52
    go_wp2_with fail
    go_ret
    rw [Hr.out]
    exact ⟨rfl, HD.out.go_below (Below.refl _ _)⟩
  | false =>
    rw [hd] at c5
    cases h2 : (diesD d).dead with
    | true =>
      have Hr := Lib.hid (sync_dies hd h2)
      have HV := Lib.hid ((dies_any w db nb fb _ S d HD.out))
      rw [h2] at HV
      clear hd h2
      go_enter Tryz.func52, Tryz.ntmps52
      go_wp2_with fail
      refine HV.out.mono ?_
      rintro e w1 ⟨rfl, h1, hT1⟩
      have H1 := Lib.hid h1
      have HT1 := Lib.hid hT1
      clear h1 hT1
      go_wp2_with fail
      go_ret
      rw [Hr.out]
      exact ⟨rfl, DGo.turned HD.out H1.out HT1.out⟩
    | false =>
      have Hr := Lib.hid (sync_ok hd h2)
      have HV := Lib.hid ((dies_any w db nb fb _ S d HD.out))
      rw [h2] at HV
      clear hd h2
      go_enter Tryz.func52, Tryz.ntmps52
      go_wp2_with fail
      refine HV.out.mono ?_
      rintro e w1 ⟨rfl, h1, hT1⟩
      have H1 := Lib.hid h1
      have HT1 := Lib.hid hT1
      have k1 : w1.cell? ⟨db, 1, none⟩ = some (.map (some nb)) := h1.cells.2.2 1 _ rfl
      have k2 : w1.cell? ⟨db, 2, none⟩ = some (.map (some fb)) := h1.cells.2.2 2 _ rfl
      have k3 : w1.cell? ⟨db, 3, none⟩ = some (.slice aa fs.length ac) := h1.cells.2.2 3 _ rfl
      have hdb1 := h1.cells.1
      obtain ⟨rows, clock, hb, hcopy⟩ := h1.now.copy
      have Hcopy := Lib.hid hcopy
      have f2 := h1.cells.2.1 2
      have f3 := h1.cells.2.1 3
      clear h1 hT1 hcopy
      go_wp2_with fail
      refine (dclone_any nb rows clock w1 hb).mono ?_
      rintro e w2 ⟨rfl, rfl⟩
      go_wp2_with fail
      go_ret
      rw [Hr.out]
      have hh1 := H1.out
      have hs2 : ((w1.setCell ⟨db, 2, none⟩ (.map (some w1.heap.size))).setCell ⟨db, 3, none⟩ (.slice none 0 0)).heap.size = w1.heap.size := by simp
      have hblk : ∀ k, k < w1.heap.size → k ≠ db → (((w1.setCell ⟨db, 2, none⟩ (.map (some w1.heap.size))).setCell ⟨db, 3, none⟩ (.slice none 0 0)).alloc (.map rows clock)).heap[k]? = w1.heap[k]? := fun k hk hne =>
        (Below.heap_alloc _ _ k (by rw [hs2]; exact hk)).trans ((heap_other _ _ hne).trans (heap_other _ _ hne))
      have hnew : (((w1.setCell ⟨db, 2, none⟩ (.map (some w1.heap.size))).setCell ⟨db, 3, none⟩ (.slice none 0 0)).alloc (.map rows clock)).heap[w1.heap.size]? = some (.map rows clock) := by
        have := (MapKept.heap_alloc ((w1.setCell ⟨db, 2, none⟩ (.map (some w1.heap.size))).setCell ⟨db, 3, none⟩ (.slice none 0 0)) (.map rows clock)).1
        rw [hs2] at this
        exact this
      have hsz : (((w1.setCell ⟨db, 2, none⟩ (.map (some w1.heap.size))).setCell ⟨db, 3, none⟩ (.slice none 0 0)).alloc (.map rows clock)).heap.size = w1.heap.size + 1 := by simp
      have hT2 : Turned S w.heap.size w (((w1.setCell ⟨db, 2, none⟩ (.map (some w1.heap.size))).setCell ⟨db, 3, none⟩ (.slice none 0 0)).alloc (.map rows clock)) := (((HT1.out.mono (Nat.le_refl _) fun k _ hk => (by have e : k = db := hk; rw [e]; exact HD.out.sdb)).set 2 _ fun _ => HD.out.sdb).set 3 _ fun _ => HD.out.sdb).alloc (by rw [hs2]; exact HT1.out.size) _
      refine ⟨rfl, ⟨nb, w1.heap.size, .slice none 0 0, ?_⟩, hT2⟩
      have hsame := dies_same d
      have hfirm := Hcopy.out _ _ hnew
      rw [hsame.1] at hfirm
      have hns := hh1.nbdb
      have hslt := hh1.slt
      have hnb := hh1.now.lt
      refine ⟨?_, hh1.now.same (hblk nb hnb (by omega)), hfirm, hns, by omega, by omega, ⟨[], OwnRows.nil _ _ _ _, .nil⟩, .inl hh1.sdb, .inl hh1.snb, .inr ⟨HT1.out.size, by omega⟩, fun k hk => (by cases hk), fun k hk => ?_, ⟨hh1.ok.limit, hh1.ok.now, HD.out.ok.now, fun a ha => (by cases ha)⟩⟩
      · exact ((hh1.cells.set 2 (.map (some w1.heap.size)) (by simp [diskCells])).set 3 (.slice none 0 0) (by simp [diskCells])).keeps ((Below.refl _ _).alloc (Nat.le_refl _) _) (by rw [hs2]; exact hdb1)
      · rcases hk with hk | hk
        · have := hslt k hk
          omega
        · exact hk.2
set_option maxRecDepth 100000 in
theorem new_any (w : World) (n : Nat) (h0 : 1 ≤ n) (h1 : n ≤ 4194304) :
    Calls Tryz.prog 13 #[.int .i64 n] w fun e w' => e = .returned (.tuple #[.pointer (some ⟨w.heap.size + 2, 0, none⟩), .int .i64 0]) ∧ DOk w' (w.heap.size + 2) (fun k => w.heap.size ≤ k ∧ k < w'.heap.size) (newD n) ∧ Below w.heap.size w w' := by
  have hmm := @run_makeMap Tryz.prog
  have d1 : ¬ ((n : Int) < 1) := by omega
  have d2 : (n : Int) ≤ 16777216 := by omega
  have d3 : ¬ ((n : Int) > 16777216) := by omega
  go_enter Tryz.func13, Tryz.ntmps13
  go_wp2_with fail
  go_ret2
  have hb : Below w.heap.size w (((w.alloc (.map #[] 0)).alloc (.map #[] 0)).alloc (.cells #[.int .i64 n, .map (some w.heap.size), .map (some (w.heap.size + 1)), .slice none 0 0, .int .i64 0, .bool false] 97)) := (((Below.refl _ _).alloc (Nat.le_refl _) _).alloc (by simp) _).alloc (by simp; omega) _
  have hV := VarAt.new ((w.alloc (.map #[] 0)).alloc (.map #[] 0)) #[.int .i64 n, .map (some w.heap.size), .map (some (w.heap.size + 1)), .slice none 0 0, .int .i64 0, .bool false] 97
  have hM1 := ((MapK.made (K := strV) (P := Tryz.prog) (k := 9) w).keeps ((Below.refl _ _).alloc (Nat.le_refl _) (.map #[] 0)) (MapK.made (K := strV) (P := Tryz.prog) (k := 9) w).lt).keeps ((Below.refl _ _).alloc (Nat.le_refl _) (.cells #[.int .i64 n, .map (some w.heap.size), .map (some (w.heap.size + 1)), .slice none 0 0, .int .i64 0, .bool false] 97)) (by simp; omega)
  have hM2 := (MapK.made (K := strV) (P := Tryz.prog) (k := 9) (w.alloc (.map #[] 0))).keeps ((Below.refl _ _).alloc (Nat.le_refl _) (.cells #[.int .i64 n, .map (some w.heap.size), .map (some (w.heap.size + 1)), .slice none 0 0, .int .i64 0, .bool false] 97)) (by simp)
  rw [World.size_alloc] at hM2
  rw [World.size_alloc, World.size_alloc] at hV
  have hsz : (((w.alloc (.map #[] 0)).alloc (.map #[] 0)).alloc (.cells #[.int .i64 n, .map (some w.heap.size), .map (some (w.heap.size + 1)), .slice none 0 0, .int .i64 0, .bool false] 97)).heap.size = w.heap.size + 3 := by simp
  exact ⟨rfl, ⟨w.heap.size, w.heap.size + 1, .slice none 0 0, hV, hM1, hM2, by omega, by omega, by omega, ⟨[], OwnRows.nil _ _ _ _, .nil⟩, ⟨by omega, by omega⟩, ⟨by omega, by omega⟩, ⟨by omega, by omega⟩, fun k hk => (by cases hk), fun k hk => hk.2, DkOK.new h1⟩, hb⟩
end Go.Proofs.YtgglheelhbfgiaaGreatDoor

namespace Go.Proofs.YtgglheelhbfgiaaGreatDoor
open Go Go.RowKit Go.Lib Go.Sort Go.Shelf
theorem dsortsA (m : Nat) : AnyZ.SortsIn Tryz.prog Tryz.sorted58_ren Fence.wide m :=
  ⟨fun blk off cap ss W hH hblk hsz => callsIn_wide.2 (Tryz.slices_Sort_string blk off cap ss W hH hblk hsz),
   fun p cap W => callsIn_wide.2 (Tryz.slices_Sort_string_none p cap W)⟩
theorem dkeys_any (mb : Nat) (W : World) : Calls Tryz.prog 59 #[.map (some mb)] W fun e w' => e = .returned (.func (.func 94) #[] #[.pointer (some ⟨W.heap.size, 0, none⟩)]) ∧ W.alloc (.cells #[.map (some mb)] 94) = w' :=
  ((callsIn_wide (n := 5)).1 (AnyZ.keys_in Tryz.keys59 Fence.wide 5 trivial rfl (some mb) W)).mono fun _ _ h => ⟨h.1, h.2.symm⟩
theorem flat_strK (l : List ByteArray) : flat strLay l = l.map Value.string := by
  induction l with
  | nil => rfl
  | cons x r ih =>
    have e : flat strLay (x :: r) = [Value.string x] ++ flat strLay r := rfl
    rw [e, ih]
    rfl
theorem dkeys_rows {es : Fls} (hr : RisK es) {ss : List (List UInt8)} (h : ss.Perm (es.map pK)) : (ss.mergeSort fun x y => decide (x ≤ y)).map encStr = flat strLay (es.map (·.1)) := by
  have h1 : ss.mergeSort (fun x y => decide (x ≤ y)) = es.map pK := (mergeSort_of_perm h).trans (ris_sorted hr)
  rw [h1, flat_strK, List.map_map, List.map_map]
  refine List.map_congr_left fun x _ => ?_
  show Value.string (mkB x.1.data.toList) = Value.string x.1
  rw [mkB_of]
set_option maxHeartbeats 1000000 in
theorem dsorted_any (mb : Nat) (es : Fls) (W : World) (h : MapK strV Tryz.prog 9 W mb es) (hr : RisK es) (hl : es.length ≤ 100000) :
    Calls Tryz.prog 58 #[.func (.func 94) #[] #[.pointer (some ⟨W.heap.size, 0, none⟩)]] (W.alloc (.cells #[.map (some mb)] 94)) fun e w' =>
      ∃ v, e = .returned v ∧ OwnRows strLay w' W.heap.size 9 v (es.map (·.1)) ∧ Below W.heap.size W w' := by
  have hown : W.ownsMap Tryz.prog 9 strV.row mb es.length (datK strV es) := h
  have hbl := h.lt
  have hsz := datK_size strV es
  have hseq : SeqGives Fence.wide 2 Tryz.prog 94 #[.pointer (some ⟨W.heap.size, 0, none⟩)] encStr (fun ss => ss.Perm (strKeys (datK strV es))) (Go.Maps.size (datK strV es)) (W.alloc (.cells #[.map (some mb)] 94)) :=
    AnyZ.keys_gives (ρ := Tryz.keys59_ren) { Tryz.keys59 with } Fence.wide _ trivial rfl (by omega) W.heap.size mb es.length (datK strV es) _ (by simp) (by simp) (by
      obtain ⟨es', clock, hb, Ft, hs, hD⟩ := hown
      exact ⟨es', clock, (Below.heap_alloc _ _ mb hbl).trans hb, Ft, hs, hD⟩)
  have cS := AnyZ.sorted_in Tryz.sorted58 Fence.wide 5 trivial trivial trivial trivial rfl (by omega) (dsortsA _) (enters_of Tryz.func93 (by kernel_rfl) rfl) 94 #[.pointer (some ⟨W.heap.size, 0, none⟩)] trivial (enters_of Tryz.func94 (by kernel_rfl) rfl) _ _ (by rw [hsz]; unfold maxLen; omega) (by rw [hsz]; omega) _ hseq
  change CallsIn _ _ Tryz.prog 58 _ _ _ at cS
  refine ((callsIn_wide (n := 5)).1 cS).mono ?_
  rintro e w' ⟨v, ss, rfl, hS, hrow, hnil, hb⟩
  rw [datK_keys] at hS
  refine ⟨v, rfl, ?_, ((Below.refl _ W).alloc (Nat.le_refl _) _).trans (hb.mono (by simp))⟩
  have hlen : ss.length = (es.map (·.1)).length := by rw [hS.length_eq, List.length_map, List.length_map]
  have h2 : OwnRows strLay w' (W.alloc (.cells #[.map (some mb)] 94)).heap.size 9 v (es.map (·.1)) := by
    unfold OwnRows
    rw [← dkeys_rows hr hS, ← hlen]
    exact hrow
  exact h2.lower (by simp)
set_option maxRecDepth 100000 in
theorem names_any (w : World) (db nb fb : Nat) (v : Value) (S : Nat → Prop) (d : Dk) (h : DAt w db nb fb v S d) (hl : d.now.length ≤ 100000) :
    Calls Tryz.prog 14 #[.pointer (some ⟨db, 0, none⟩)] w fun e w' => ∃ u, e = .returned u ∧ OwnRows strLay w' w.heap.size 9 u (namesD d) ∧ Below w.heap.size w w' := by
  have c1 : w.cell? ⟨db, 1, none⟩ = some (.map (some nb)) := h.cells.2.2 1 _ rfl
  have HK := Lib.hid (dkeys_any nb w)
  have HS := Lib.hid (dsorted_any nb d.now w h.now h.ok.now.rise hl)
  clear h
  go_enter Tryz.func14, Tryz.ntmps14
  go_wp2_with fail
  refine HK.out.mono ?_
  rintro e w1 ⟨rfl, rfl⟩
  go_wp2_with fail
  refine HS.out.mono ?_
  rintro e w2 ⟨u, rfl, ho, hb⟩
  go_wp2_with fail
  go_ret
  exact ⟨u, rfl, ho, hb⟩
/-! ### whose parts are hidden -/
theorem DOk.foreign {w w' : World} {db : Nat} {S T : Nat → Prop} {d : Dk} (h : DOk w db S d) (ht : Turned T w.heap.size w w') (hT : ∀ k, T k → ¬ S k) : DOk w' db S d := by
  obtain ⟨nb, fb, v, h⟩ := h
  exact ⟨nb, fb, v, h.foreign ht hT⟩
theorem DOk.below {w w' : World} {db : Nat} {S : Nat → Prop} {d : Dk} (h : DOk w db S d) (hb : Below w.heap.size w w') : DOk w' db S d := by
  obtain ⟨nb, fb, v, h⟩ := h
  exact ⟨nb, fb, v, h.below hb⟩
theorem DOk.mono {w : World} {db : Nat} {S S' : Nat → Prop} {d : Dk} (h : DOk w db S d) (hS : ∀ k, S k → S' k) (hl : ∀ k, S' k → k < w.heap.size) : DOk w db S' d := by
  obtain ⟨nb, fb, v, h⟩ := h
  exact ⟨nb, fb, v, h.mono hS hl⟩
theorem DOk.slt {w : World} {db : Nat} {S : Nat → Prop} {d : Dk} (h : DOk w db S d) : ∀ k, S k → k < w.heap.size := by
  obtain ⟨nb, fb, v, h⟩ := h
  exact h.slt
theorem DOk.sdb {w : World} {db : Nat} {S : Nat → Prop} {d : Dk} (h : DOk w db S d) : S db := by
  obtain ⟨nb, fb, v, h⟩ := h
  exact h.sdb
theorem DOk.ok {w : World} {db : Nat} {S : Nat → Prop} {d : Dk} (h : DOk w db S d) : DkOK d := by
  obtain ⟨nb, fb, v, h⟩ := h
  exact h.ok
theorem DOk.lt {w : World} {db : Nat} {S : Nat → Prop} {d : Dk} (h : DOk w db S d) : db < w.heap.size := h.slt _ h.sdb
theorem ddead_any {w : World} {db : Nat} {S : Nat → Prop} {d : Dk} (h : DOk w db S d) : Calls Tryz.prog 26 #[.pointer (some ⟨db, 0, none⟩)] w fun e w' => e = .returned (.bool d.dead) ∧ w' = w := by
  obtain ⟨nb, fb, v, h⟩ := h
  exact dead_any w db nb fb v S d h
theorem darm_any {w : World} {db : Nat} {S : Nat → Prop} {d : Dk} (h : DOk w db S d) (n : Int) : Calls Tryz.prog 19 #[.pointer (some ⟨db, 0, none⟩), .int .i64 n] w fun e w' => e = .returned (.tuple #[]) ∧ DGo w db S (armD d n) w' := by
  obtain ⟨nb, fb, v, h⟩ := h
  exact (arm_any w db nb fb v S d n h).mono fun _ _ hh => ⟨hh.1, DGo.turned h hh.2.1 hh.2.2⟩
theorem dread_any {w : World} {db : Nat} {S : Nat → Prop} {d : Dk} (h : DOk w db S d) (name : ByteArray) : Calls Tryz.prog 32 #[.pointer (some ⟨db, 0, none⟩), .string name] w fun e w' => e = .returned (.tuple #[.string (readD d name).1, .int .i64 (readD d name).2]) ∧ w' = w := by
  obtain ⟨nb, fb, v, h⟩ := h
  exact read_any w db nb fb v S d name h
theorem dsize_any {w : World} {db : Nat} {S : Nat → Prop} {d : Dk} (h : DOk w db S d) (hl : d.now.length ≤ 100000) : Calls Tryz.prog 29 #[.pointer (some ⟨db, 0, none⟩)] w fun e w' => e = .returned (.int .i64 (sizeF d.now)) ∧ Below w.heap.size w w' := by
  obtain ⟨nb, fb, v, h⟩ := h
  exact size_any w db nb fb v S d h hl
theorem dnames_any {w : World} {db : Nat} {S : Nat → Prop} {d : Dk} (h : DOk w db S d) (hl : d.now.length ≤ 100000) : Calls Tryz.prog 14 #[.pointer (some ⟨db, 0, none⟩)] w fun e w' => ∃ u, e = .returned u ∧ OwnRows strLay w' w.heap.size 9 u (namesD d) ∧ Below w.heap.size w w' := by
  obtain ⟨nb, fb, v, h⟩ := h
  exact names_any w db nb fb v S d h hl
theorem dwrite_any {w : World} {db : Nat} {S : Nat → Prop} {d : Dk} (h : DOk w db S d) (name : ByteArray) (n : Int) (data : ByteArray) (hl : d.now.length ≤ 100000) (hal : d.acts.length ≤ 1000000000) (hdz : data.size ≤ 8000) : Calls Tryz.prog 21 #[.pointer (some ⟨db, 0, none⟩), .string name, .int .i64 n, .string data] w fun e w' => e = .returned (.int .i64 (writeD d name n data).2) ∧ DGo w db S (writeD d name n data).1 w' := by
  obtain ⟨nb, fb, v, h⟩ := h
  exact write_any w db nb fb v S d name n data h hl hal hdz
theorem dcut_any {w : World} {db : Nat} {S : Nat → Prop} {d : Dk} (h : DOk w db S d) (name : ByteArray) (n : Int) (hl : d.now.length ≤ 100000) (hal : d.acts.length ≤ 1000000000) : Calls Tryz.prog 51 #[.pointer (some ⟨db, 0, none⟩), .string name, .int .i64 n] w fun e w' => e = .returned (.int .i64 (cutD d name n).2) ∧ DGo w db S (cutD d name n).1 w' := by
  obtain ⟨nb, fb, v, h⟩ := h
  exact cut_any w db nb fb v S d name n h hl hal
theorem dsync_any {w : World} {db : Nat} {S : Nat → Prop} {d : Dk} (h : DOk w db S d) : Calls Tryz.prog 52 #[.pointer (some ⟨db, 0, none⟩)] w fun e w' => e = .returned (.int .i64 (syncD d).2) ∧ DGo w db S (syncD d).1 w' := by
  obtain ⟨nb, fb, v, h⟩ := h
  exact sync_any w db nb fb v S d h
end Go.Proofs.YtgglheelhbfgiaaGreatDoor

namespace Go.Proofs.YtgglheelhbfgiaaGreatDoor
open Go Go.RowKit Go.Lib
theorem and_one_any (x : Int) : bits .and .i64 x 1 = x % 2 := by
  unfold bits
  dsimp only
  rw [BitVec.toNat_and, show (BitVec.ofInt IntKind.i64.bits 1).toNat = 1 from rfl, Nat.and_one_is_mod, BitVec.toNat_ofInt]
  rw [show IntKind.i64.bits = 64 from rfl]
  have e : ((x % ((2 ^ 64 : Nat) : Int)).toNat % 2 : Nat) = (x % 2).toNat := by omega
  rw [e]
  have h0 : 0 ≤ x % 2 := by omega
  have h1 : x % 2 < 2 := by omega
  rw [Int.toNat_of_nonneg h0, IntKind.wrap_i64]
  omega
theorem bit_test (keep : Int) (k : Nat) : (bits .and .i64 (keep / 2 ^ (k % 30)) 1 == 1) = bitD keep k := by
  rw [and_one_any]
  unfold bitD
  by_cases h : keep / 2 ^ (k % 30) % 2 = 1
  · rw [h, decide_eq_true rfl]
    rfl
  · rw [decide_eq_false h]
    exact beq_eq_false_iff_ne.2 h
section
variable {α : Type}
def keptA (keep : Int) : Nat → List α → List α
  | _, [] => []
  | i, a :: r => if bitD keep i then a :: keptA keep (i + 1) r else keptA keep (i + 1) r
theorem kept_eq (keep : Int) : ∀ (l : List ActD) (i : Nat), keptD keep i l = keptA keep i l
  | [], _ => rfl
  | a :: r, i => by rw [keptD, keptA, kept_eq keep r (i + 1)]
theorem keptA_append (keep : Int) : ∀ (l m : List α) (i : Nat), keptA keep i (l ++ m) = keptA keep i l ++ keptA keep (i + l.length) m
  | [], _, _ => rfl
  | a :: r, m, i => by
    rw [List.cons_append, keptA, keptA, keptA_append keep r m (i + 1), List.length_cons, show i + 1 + r.length = i + (r.length + 1) by omega]
    split <;> rfl
theorem keptA_take {l : List α} {k : Nat} {x : α} (keep : Int) (h : l[k]? = some x) : keptA keep 0 (l.take (k + 1)) = keptA keep 0 (l.take k) ++ (if bitD keep k then [x] else []) := by
  obtain ⟨hk, e⟩ := List.getElem?_eq_some_iff.1 h
  rw [List.take_succ_eq_append_getElem hk, e, keptA_append, List.length_take, Nat.min_eq_left (Nat.le_of_lt hk), Nat.zero_add]
  rfl
theorem keptA_len (keep : Int) : ∀ (l : List α) (i : Nat), (keptA keep i l).length ≤ l.length
  | [], _ => Nat.le_refl _
  | a :: r, i => by
    have := keptA_len keep r (i + 1)
    unfold keptA
    split <;> simp only [List.length_cons] <;> omega
theorem run_snoc (torn : Bool) : ∀ (l : List ActD) (a : ActD) (es : Fls), runD torn es (l ++ [a]) = doD (l.foldl (fun e x => doD e x false) es) a torn
  | [], _, _ => rfl
  | [_], _, _ => rfl
  | b :: c :: r, a, es => run_snoc torn (c :: r) a (doD es b false)
/-- The files behind the first k of some acts, the last of which may be torn. -/
def RunTo (torn : Bool) (es0 : Fls) (l : List ActD) (k : Nat) (es : Fls) : Prop := (k < l.length → es = (l.take k).foldl (fun e x => doD e x false) es0) ∧ (k = l.length → es = runD torn es0 l)
theorem runTo_start (torn : Bool) (es0 : Fls) (l : List ActD) : RunTo torn es0 l 0 es0 := ⟨fun _ => rfl, fun h => by
  have : l = [] := List.length_eq_zero_iff.1 h.symm
  rw [this]
  rfl⟩
theorem runTo_step {torn : Bool} {es0 es : Fls} {l : List ActD} {k : Nat} {a : ActD} (h : RunTo torn es0 l k es) (ha : l[k]? = some a) : RunTo torn es0 l (k + 1) (doD es a (torn && decide (k + 1 = l.length))) := by
  obtain ⟨hk, e⟩ := List.getElem?_eq_some_iff.1 ha
  have h1 := h.1 hk
  constructor
  · intro h2
    rw [decide_eq_false (by omega), Bool.and_false, List.take_succ_eq_append_getElem hk, e, List.foldl_append, ← h1]
    rfl
  · intro h2
    have e2 : l = l.take k ++ [a] := by
      have := List.take_succ_eq_append_getElem hk
      rw [e, h2, List.take_length] at this
      exact this
    rw [decide_eq_true h2, Bool.and_true, h1]
    have := run_snoc torn (l.take k) a es0
    rw [← e2] at this
    exact this.symm
end
theorem ActsAt.kept {w : World} {db : Nat} {v : Value} {S : Nat → Prop} {fs : List FnV} {xs : List ActD} (keep : Int) (h : ActsAt w db v S fs xs) : ∀ i, ActsAt w db v S (keptA keep i fs) (keptA keep i xs) := by
  induction h with
  | nil => exact fun _ => .nil
  | cons h1 _ ih =>
    intro i
    unfold keptA
    split
    · exact .cons h1 (ih _)
    · exact ih _
theorem ActsAt.at {w : World} {db : Nat} {v : Value} {S : Nat → Prop} {fs : List FnV} {xs : List ActD} (h : ActsAt w db v S fs xs) : ∀ {k : Nat} {f : FnV}, fs[k]? = some f → ∃ a, xs[k]? = some a ∧ ActAt w db v S f a := by
  induction h with
  | nil => exact fun hk => by cases hk
  | cons h1 _ ih =>
    intro k f hk
    cases k with
    | zero =>
      cases hk
      exact ⟨_, rfl, h1⟩
    | succ k => exact ih (k := k) hk
theorem fold_ok {l : List ActD} {es : Fls} (h : FilesOK es) (ha : ∀ a ∈ l, ActOK a) : FilesOK (l.foldl (fun e x => doD e x false) es) := by
  induction l generalizing es with
  | nil => exact h
  | cons a r ih => exact ih (doD_ok false h (ha a List.mem_cons_self)) fun x hx => ha x (List.mem_cons_of_mem _ hx)
theorem fold_len (l : List ActD) (es : Fls) : (l.foldl (fun e x => doD e x false) es).length ≤ es.length + l.length := by
  induction l generalizing es with
  | nil => exact Nat.le_refl _
  | cons a r ih =>
    have h1 := ih (doD es a false)
    have h2 := doD_len es a false
    simp only [List.foldl_cons, List.length_cons] at h1 ⊢
    omega
/-- The files that last have turned. -/
theorem DAt.firmTurned {w w' : World} {db nb fb : Nat} {v : Value} {S : Nat → Prop} {d : Dk} {es : Fls} (h : DAt w db nb fb v S d) (hM : MapK strV Tryz.prog 9 w' fb es) (hg : w.grownBy w' (some fb)) (hes : FilesOK es) : DAt w' db nb fb v S { d with firm := es } := by
  obtain ⟨fs, ho, ha⟩ := h.acts
  have hn := h.fbdb
  have hrow := h.row
  have hT : Turned (fun k => k = fb) w.heap.size w w' := Turned.of_grown hg (Nat.le_refl _) fun k e _ => by cases e; rfl
  refine ⟨h.cells.same (hT.block db h.cells.1 (by omega)) hT.size, h.now.same (hT.block nb h.now.lt h.ne), hM, h.nbdb, hn, h.ne, ⟨fs, ho.turnedOther hT fun k hk e => (hrow k hk).2.2.2 e, ha.turned hT (Nat.le_refl _) fun k c hk hlt hc => ?_⟩, h.sdb, h.snb, h.sfb, h.sv, fun k hk => Nat.lt_of_lt_of_le (h.slt k hk) hT.size, ⟨h.ok.limit, h.ok.now, hes, h.ok.acts⟩⟩
  have e : k = fb := hk
  subst e
  obtain ⟨rows, clock, hb, _⟩ := h.firm
  simp [World.cell?, hb] at hc
set_option maxRecDepth 100000 in
set_option maxHeartbeats 6400000 in
theorem crash_any (w : World) (db nb fb : Nat) (v : Value) (S : Nat → Prop) (d : Dk) (keep : Int) (torn : Bool) (h : DAt w db nb fb v S d) (hl : d.firm.length + d.acts.length ≤ 100000) :
    Calls Tryz.prog 23 #[.pointer (some ⟨db, 0, none⟩), .int .i64 keep, .bool torn] w fun e w' => e = .returned (.tuple #[]) ∧ DGo w db S (crashD d keep torn) w' := by
  obtain ⟨fs, ho, hacts⟩ := h.acts
  have hfl := hacts.len
  obtain ⟨aa, ac, rfl, hrows, hcap⟩ := ho.read
  have c3 : w.cell? ⟨db, 3, none⟩ = some (.slice aa fs.length ac) := h.cells.2.2 3 _ rfl
  obtain ⟨i0, hi, hz, hs⟩ : ∃ i, Tryz.prog.info? 118 = some i ∧ i.zero = some .nilFunc ∧ i.size = 1 ∧ i.bytes = 8 := by
    have := actInfo
    cases e : Tryz.prog.info? 118 with
    | none => rw [e] at this; cases this
    | some i => rw [e] at this; simp only [Option.map_some, Option.some.injEq, Prod.mk.injEq] at this; exact ⟨i, rfl, this.1, this.2.1, this.2.2⟩
  have Hi := Lib.hid hi
  have Hz := Lib.hid hz
  have Hs := Lib.hid hs
  have HD := Lib.hid h
  have Hacts := Lib.hid hacts
  have HR := Lib.hid hrows
  clear hi hz hs h hacts ho hrows
  have hfm : fs.length ≤ 100000 := by omega
  have HL := Lib.hid hl
  have Hfl := Lib.hid hfl
  clear hl hfl
  go_enter Tryz.func23, Tryz.ntmps23
  go_wp2_with fail
  go_loopw [6, 7, 8, 18] (fun q _ _ i wr => ∃ k : Nat, k ≤ fs.length ∧ i = .int .i64 k ∧ OwnRows actLay wr w.heap.size 118 q (keptA keep 0 (fs.take k)) ∧ Below w.heap.size w wr) (fun _ _ _ i _ => fs.length - (RowKit.intOf i).toNat)
  case atStart => exact ⟨0, Nat.zero_le _, rfl, OwnRows.nil _ _ _ _, Below.refl _ _⟩
  case round =>
    obtain ⟨k, hk, rfl, hq, hb⟩ := hrel
    by_cases hlt : k < fs.length
    · obtain ⟨⟨fn, ps⟩, hf⟩ := at_some hlt
      obtain ⟨bx, off, hae, hbl, hc⟩ := (HR.out.keeps hb) k _ hf
      have hc0 : wr.cell? ⟨bx, off + k, none⟩ = some (.func (.func fn) #[] ps) := by
        have := hc 0 _ rfl
        rwa [show off + k * actLay.sz + 0 = off + k by show off + k * 1 + 0 = _; omega] at this
      have hlti : (k : Int) < (fs.length : Int) := by omega
      have Htk := Lib.hid (keptA_take keep hf)
      have hbt := bit_test keep k
      have hkl : (keptA keep 0 (fs.take k)).length ≤ 100000 := by
        refine Nat.le_trans (keptA_len keep _ 0) ?_
        rw [List.length_take]
        omega
      subst hae
      clear hc hf
      cases hbd : bitD keep k with
      | true =>
        rw [hbd] at hbt Htk
        clear hbd
        generalize hacc : keptA keep 0 (fs.take k) = acc at *
        have Hq := Lib.hid hq
        clear hq hacc
        go_wp2_with (at_builtin; refine wpList_append_rows _ rfl _ _ 95 rfl actLay w.heap.size 118 i0 .nilFunc 8 Tryz.underlying95 Hi.out Hz.out Hs.out.1 Hs.out.2 rfl (by decide) _ acc rfl (Hq.out.alloc _) ⟨wr.heap.size, 0, none⟩ 1 ⟨fn, ps⟩ rfl (cells_new_at wr wr.heap.size #[.func (.func fn) #[] ps] 118 rfl) (by unfold maxLen; omega) (by omega) (by have := hb.size; simp; omega) ?_; intro va w3 hrow3 hg3 _; go_frame)
        have hb3 := (hb.alloc hb.size (.cells #[.func (.func fn) #[] ps] 118)).grown hg3 (by have := hb.size; simp; omega) (fun j ej => (Hq.out.lt ej).1)
        go_roundw
        case rel => exact ⟨k + 1, by omega, by go_num, by rw [Htk.out]; exact hrow3, hb3⟩
        case measure => simp [RowKit.intOf]; omega
      | false =>
        rw [hbd] at hbt Htk
        clear hbd
        go_wp2_with fail
        go_roundw
        case rel => exact ⟨k + 1, by omega, by go_num, by rw [Htk.out]; simpa using hq, hb⟩
        case measure => simp [RowKit.intOf]; omega
    · obtain rfl : k = fs.length := by omega
      rw [List.take_length] at hq
      have hKA := Hacts.out.kept keep 0
      have HeK := Lib.hid (kept_eq keep d.acts 0)
      have hKl := hKA.len
      have hlen := keptA_len keep fs 0
      have hKal := keptA_len keep d.acts 0
      obtain ⟨K, hK⟩ : ∃ K, keptA keep 0 fs = K := ⟨_, rfl⟩
      obtain ⟨KA, hKAe⟩ : ∃ KA, keptA keep 0 d.acts = KA := ⟨_, rfl⟩
      rw [hK] at hq hKA hKl hlen
      rw [hKAe] at hKA hKl HeK hKal
      have HokA := Lib.hid (show ∀ a ∈ KA, ActOK a from fun a ha => HD.out.ok.acts a (kept_mem (keep := keep) d.acts 0 a (by rw [HeK.out]; exact ha)))
      clear hK hKAe
      obtain ⟨qa, qc, rfl, _, _⟩ := hq.read
      have hDr := HD.out.below hb
      have hAr := hKA.map fun x c hx => hx.turned (Turned.of_below (S := fun _ => False) hb (Nat.le_refl _)) (Nat.le_refl _) (fun _ _ hf => hf.elim)
      have HLt := Lib.hid (show d.firm.length + KA.length ≤ 100000 by have := HL.out; omega)
      have hKm : K.length ≤ 100000 := by omega
      have hfbl := HD.out.firm.lt
      have Hfbl := Lib.hid hfbl
      have Hqd := Lib.hid (show ∀ j, (Value.slice qa K.length qc).ownBlock = some j → w.heap.size ≤ j from fun j hj => (hq.lt hj).1)
      have HKl := Lib.hid hKl
      clear hKA hlen hKal hfbl hKl
      obtain ⟨w1, hw1⟩ : ∃ w1, wr = w1 := ⟨_, rfl⟩
      subst hw1
      go_wp2_with fail
      go_loopw [9, 10, 36] (fun _ _ i wx => ∃ (k : Nat) (es : Fls), k ≤ K.length ∧ i = .int .i64 k ∧ DAt wx db nb fb (.slice aa fs.length ac) S { d with firm := es } ∧ Hid (RunTo torn d.firm KA k es) ∧ OwnRows actLay wx w.heap.size 118 (.slice qa K.length qc) K ∧ ActsAt wx db (.slice aa fs.length ac) S K KA ∧ Hid (es.length ≤ d.firm.length + k) ∧ Turned S w.heap.size w wx) (fun _ _ i _ => K.length - (RowKit.intOf i).toNat)
      case atStart => exact ⟨0, d.firm, Nat.zero_le _, rfl, hDr, Lib.hid (runTo_start torn _ _), hq, hAr, Lib.hid (Nat.le_refl _), Turned.of_below hb (Nat.le_refl _)⟩
      case round =>
        obtain ⟨k, es, hk, rfl, hD2, HRun, ho2, hA2, Hes, hT⟩ := hrel
        by_cases hlt : k < K.length
        · obtain ⟨⟨fn, ps⟩, hf⟩ := at_some hlt
          obtain ⟨qa', qc', hqe, hrowsK, _⟩ := ho2.read
          cases hqe
          obtain ⟨bx, off, hae, hbl, hc⟩ := hrowsK k _ hf
          have hc0 : wr.cell? ⟨bx, off + k, none⟩ = some (.func (.func fn) #[] ps) := by
            have := hc 0 _ rfl
            rwa [show off + k * actLay.sz + 0 = off + k by show off + k * 1 + 0 = _; omega] at this
          obtain ⟨a, ha, hact⟩ := hA2.at hf
          have hoka := HokA.out a (List.mem_of_getElem? ha)
          have Hoka := Lib.hid hoka
          have c2 : wr.cell? ⟨db, 2, none⟩ = some (.map (some fb)) := hD2.cells.2.2 2 _ rfl
          have hEs : es.length ≤ 100000 := by
            have h1 := HLt.out
            have h2 := HKl.out
            have h3 := Hes.out
            omega
          have hlti : (k : Int) < (K.length : Int) := by omega
          have hstep := runTo_step HRun.out ha
          subst hae
          clear hc hf ha hrowsK
          rcases hact with ⟨hcut, rfl, pd, pn, pp, rfl, hbd, hbn, hbp⟩ | ⟨hcut, rfl, pn, pp, rfl, hbn, hbp⟩
          · obtain ⟨kd, rfl, _, _, _, _, hbd2⟩ := hbd
            obtain ⟨kn, rfl, _, hkn2, _, _, hbn2⟩ := hbn
            obtain ⟨kp, rfl, _, _, _, _, hbp2⟩ := hbp
            cases torn with
            | false =>
              rw [Bool.false_and] at hstep
              have HC := Lib.hid (writeact_any wr fb kd kn kp es false a hD2.firm hbd2 hbn2 hbp2 hkn2 hcut hoka.2.2.1 hEs (Nat.le_trans (hD2.ok.firm.has a.name) (by decide)) hoka.2.1 (Nat.le_trans hoka.1 (by decide)))
              have Hstep := Lib.hid (show RunTo _ d.firm KA (k + 1) (doD es a false) from hstep)
              have HD2 := Lib.hid hD2
              have Ho2 := Lib.hid ho2
              have HA2 := Lib.hid hA2
              have HT := Lib.hid hT
              clear hD2 ho2 hA2 hT hstep hoka hEs hcut
              go_wp2_with fail
              refine HC.out.mono ?_
              rintro e w5 ⟨rfl, hM, hg⟩
              have hD3 := HD2.out.firmTurned hM hg (doD_ok _ HD2.out.ok.firm Hoka.out)
              have ho3 := Ho2.out.kept hg (.inr fun e => by have := Hqd.out fb e; have := Hfbl.out; omega)
              have hA3 := HA2.out.map fun x c hx => hx.turned (Turned.of_grown (S := fun j => j = fb) hg (Nat.le_refl _) fun j ej _ => by cases ej; rfl) (Nat.le_refl _) fun j c hj _ hjc => by
                have e : j = fb := hj
                subst e
                obtain ⟨rows, clock, hb, _⟩ := HD2.out.firm
                simp [World.cell?, hb] at hjc
              have hT3 := HT.out.trans (Turned.of_grown hg HT.out.size fun j ej _ => by cases ej; exact HD.out.sfb)
              have hl3 := doD_len es a false
              go_wp2_with fail
              go_roundw
              case rel => exact ⟨k + 1, _, by omega, by go_num, hD3, Hstep, ho3, hA3, Lib.hid (by have := Hes.out; omega), hT3⟩
              case measure => simp [RowKit.intOf]; omega
            | true =>
              rw [Bool.true_and] at hstep
              by_cases hlast : k + 1 = KA.length
              · rw [decide_eq_true hlast] at hstep
                have ht1 : ((k : Int) == (K.length : Int) - 1) = true := beq_iff_eq.2 (by have := HKl.out; omega)
                have ht2 : (k : Int) = (K.length : Int) - 1 := by have := HKl.out; omega
                clear hlast ht2
                have HC := Lib.hid (writeact_any wr fb kd kn kp es true a hD2.firm hbd2 hbn2 hbp2 hkn2 hcut hoka.2.2.1 hEs (Nat.le_trans (hD2.ok.firm.has a.name) (by decide)) hoka.2.1 (Nat.le_trans hoka.1 (by decide)))
                have Hstep := Lib.hid (show RunTo _ d.firm KA (k + 1) (doD es a true) from hstep)
                have HD2 := Lib.hid hD2
                have Ho2 := Lib.hid ho2
                have HA2 := Lib.hid hA2
                have HT := Lib.hid hT
                clear hD2 ho2 hA2 hT hstep hoka hEs hcut
                go_wp2_with fail
                refine HC.out.mono ?_
                rintro e w5 ⟨rfl, hM, hg⟩
                have hD3 := HD2.out.firmTurned hM hg (doD_ok _ HD2.out.ok.firm Hoka.out)
                have ho3 := Ho2.out.kept hg (.inr fun e => by have := Hqd.out fb e; have := Hfbl.out; omega)
                have hA3 := HA2.out.map fun x c hx => hx.turned (Turned.of_grown (S := fun j => j = fb) hg (Nat.le_refl _) fun j ej _ => by cases ej; rfl) (Nat.le_refl _) fun j c hj _ hjc => by
                  have e : j = fb := hj
                  subst e
                  obtain ⟨rows, clock, hb, _⟩ := HD2.out.firm
                  simp [World.cell?, hb] at hjc
                have hT3 := HT.out.trans (Turned.of_grown hg HT.out.size fun j ej _ => by cases ej; exact HD.out.sfb)
                have hl3 := doD_len es a true
                go_wp2_with fail
                go_roundw
                case rel => exact ⟨k + 1, _, by omega, by go_num, hD3, Hstep, ho3, hA3, Lib.hid (by have := Hes.out; omega), hT3⟩
                case measure => simp [RowKit.intOf]; omega
              · rw [decide_eq_false hlast] at hstep
                have ht1 : ((k : Int) == (K.length : Int) - 1) = false := beq_eq_false_iff_ne.2 (by have := HKl.out; omega)
                clear hlast
                have HC := Lib.hid (writeact_any wr fb kd kn kp es false a hD2.firm hbd2 hbn2 hbp2 hkn2 hcut hoka.2.2.1 hEs (Nat.le_trans (hD2.ok.firm.has a.name) (by decide)) hoka.2.1 (Nat.le_trans hoka.1 (by decide)))
                have Hstep := Lib.hid (show RunTo _ d.firm KA (k + 1) (doD es a false) from hstep)
                have HD2 := Lib.hid hD2
                have Ho2 := Lib.hid ho2
                have HA2 := Lib.hid hA2
                have HT := Lib.hid hT
                clear hD2 ho2 hA2 hT hstep hoka hEs hcut
                go_wp2_with fail
                refine HC.out.mono ?_
                rintro e w5 ⟨rfl, hM, hg⟩
                have hD3 := HD2.out.firmTurned hM hg (doD_ok _ HD2.out.ok.firm Hoka.out)
                have ho3 := Ho2.out.kept hg (.inr fun e => by have := Hqd.out fb e; have := Hfbl.out; omega)
                have hA3 := HA2.out.map fun x c hx => hx.turned (Turned.of_grown (S := fun j => j = fb) hg (Nat.le_refl _) fun j ej _ => by cases ej; rfl) (Nat.le_refl _) fun j c hj _ hjc => by
                  have e : j = fb := hj
                  subst e
                  obtain ⟨rows, clock, hb, _⟩ := HD2.out.firm
                  simp [World.cell?, hb] at hjc
                have hT3 := HT.out.trans (Turned.of_grown hg HT.out.size fun j ej _ => by cases ej; exact HD.out.sfb)
                have hl3 := doD_len es a false
                go_wp2_with fail
                go_roundw
                case rel => exact ⟨k + 1, _, by omega, by go_num, hD3, Hstep, ho3, hA3, Lib.hid (by have := Hes.out; omega), hT3⟩
                case measure => simp [RowKit.intOf]; omega
          · obtain ⟨kn, rfl, _, _, _, _, hbn2⟩ := hbn
            obtain ⟨kp, rfl, _, _, _, _, hbp2⟩ := hbp
            cases torn with
            | false =>
              rw [Bool.false_and] at hstep
              have HC := Lib.hid (cutact_any wr fb kn kp es false a hD2.firm hbn2 hbp2 hcut hoka.2.2.1 hEs)
              have Hstep := Lib.hid (show RunTo _ d.firm KA (k + 1) (doD es a false) from hstep)
              have HD2 := Lib.hid hD2
              have Ho2 := Lib.hid ho2
              have HA2 := Lib.hid hA2
              have HT := Lib.hid hT
              clear hD2 ho2 hA2 hT hstep hoka hEs hcut
              go_wp2_with fail
              refine HC.out.mono ?_
              rintro e w5 ⟨rfl, hM, hg⟩
              have hD3 := HD2.out.firmTurned hM hg (doD_ok _ HD2.out.ok.firm Hoka.out)
              have ho3 := Ho2.out.kept hg (.inr fun e => by have := Hqd.out fb e; have := Hfbl.out; omega)
              have hA3 := HA2.out.map fun x c hx => hx.turned (Turned.of_grown (S := fun j => j = fb) hg (Nat.le_refl _) fun j ej _ => by cases ej; rfl) (Nat.le_refl _) fun j c hj _ hjc => by
                have e : j = fb := hj
                subst e
                obtain ⟨rows, clock, hb, _⟩ := HD2.out.firm
                simp [World.cell?, hb] at hjc
              have hT3 := HT.out.trans (Turned.of_grown hg HT.out.size fun j ej _ => by cases ej; exact HD.out.sfb)
              have hl3 := doD_len es a false
              go_wp2_with fail
              go_roundw
              case rel => exact ⟨k + 1, _, by omega, by go_num, hD3, Hstep, ho3, hA3, Lib.hid (by have := Hes.out; omega), hT3⟩
              case measure => simp [RowKit.intOf]; omega
            | true =>
              rw [Bool.true_and] at hstep
              by_cases hlast : k + 1 = KA.length
              · rw [decide_eq_true hlast] at hstep
                have ht1 : ((k : Int) == (K.length : Int) - 1) = true := beq_iff_eq.2 (by have := HKl.out; omega)
                have ht2 : (k : Int) = (K.length : Int) - 1 := by have := HKl.out; omega
                clear hlast ht2
                have HC := Lib.hid (cutact_any wr fb kn kp es true a hD2.firm hbn2 hbp2 hcut hoka.2.2.1 hEs)
                have Hstep := Lib.hid (show RunTo _ d.firm KA (k + 1) (doD es a true) from hstep)
                have HD2 := Lib.hid hD2
                have Ho2 := Lib.hid ho2
                have HA2 := Lib.hid hA2
                have HT := Lib.hid hT
                clear hD2 ho2 hA2 hT hstep hoka hEs hcut
                go_wp2_with fail
                refine HC.out.mono ?_
                rintro e w5 ⟨rfl, hM, hg⟩
                have hD3 := HD2.out.firmTurned hM hg (doD_ok _ HD2.out.ok.firm Hoka.out)
                have ho3 := Ho2.out.kept hg (.inr fun e => by have := Hqd.out fb e; have := Hfbl.out; omega)
                have hA3 := HA2.out.map fun x c hx => hx.turned (Turned.of_grown (S := fun j => j = fb) hg (Nat.le_refl _) fun j ej _ => by cases ej; rfl) (Nat.le_refl _) fun j c hj _ hjc => by
                  have e : j = fb := hj
                  subst e
                  obtain ⟨rows, clock, hb, _⟩ := HD2.out.firm
                  simp [World.cell?, hb] at hjc
                have hT3 := HT.out.trans (Turned.of_grown hg HT.out.size fun j ej _ => by cases ej; exact HD.out.sfb)
                have hl3 := doD_len es a true
                go_wp2_with fail
                go_roundw
                case rel => exact ⟨k + 1, _, by omega, by go_num, hD3, Hstep, ho3, hA3, Lib.hid (by have := Hes.out; omega), hT3⟩
                case measure => simp [RowKit.intOf]; omega
              · rw [decide_eq_false hlast] at hstep
                have ht1 : ((k : Int) == (K.length : Int) - 1) = false := beq_eq_false_iff_ne.2 (by have := HKl.out; omega)
                clear hlast
                have HC := Lib.hid (cutact_any wr fb kn kp es false a hD2.firm hbn2 hbp2 hcut hoka.2.2.1 hEs)
                have Hstep := Lib.hid (show RunTo _ d.firm KA (k + 1) (doD es a false) from hstep)
                have HD2 := Lib.hid hD2
                have Ho2 := Lib.hid ho2
                have HA2 := Lib.hid hA2
                have HT := Lib.hid hT
                clear hD2 ho2 hA2 hT hstep hoka hEs hcut
                go_wp2_with fail
                refine HC.out.mono ?_
                rintro e w5 ⟨rfl, hM, hg⟩
                have hD3 := HD2.out.firmTurned hM hg (doD_ok _ HD2.out.ok.firm Hoka.out)
                have ho3 := Ho2.out.kept hg (.inr fun e => by have := Hqd.out fb e; have := Hfbl.out; omega)
                have hA3 := HA2.out.map fun x c hx => hx.turned (Turned.of_grown (S := fun j => j = fb) hg (Nat.le_refl _) fun j ej _ => by cases ej; rfl) (Nat.le_refl _) fun j c hj _ hjc => by
                  have e : j = fb := hj
                  subst e
                  obtain ⟨rows, clock, hb, _⟩ := HD2.out.firm
                  simp [World.cell?, hb] at hjc
                have hT3 := HT.out.trans (Turned.of_grown hg HT.out.size fun j ej _ => by cases ej; exact HD.out.sfb)
                have hl3 := doD_len es a false
                go_wp2_with fail
                go_roundw
                case rel => exact ⟨k + 1, _, by omega, by go_num, hD3, Hstep, ho3, hA3, Lib.hid (by have := Hes.out; omega), hT3⟩
                case measure => simp [RowKit.intOf]; omega
        · obtain rfl : k = K.length := by omega
          have Hrun := Lib.hid (HRun.out.2 HKl.out)
          have hCr := Lib.hid (show crashD d keep torn = { d with firm := es, now := es, acts := [], armed := 0, dead := false } by
            unfold crashD
            rw [HeK.out, ← Hrun.out])
          have H1 := Lib.hid hD2
          have HT1 := Lib.hid hT
          have k1 : wr.cell? ⟨db, 1, none⟩ = some (.map (some nb)) := hD2.cells.2.2 1 _ rfl
          have k2 : wr.cell? ⟨db, 2, none⟩ = some (.map (some fb)) := hD2.cells.2.2 2 _ rfl
          have k3 : wr.cell? ⟨db, 3, none⟩ = some (.slice aa fs.length ac) := hD2.cells.2.2 3 _ rfl
          have k4 : wr.cell? ⟨db, 4, none⟩ = some (.int .i64 d.armed) := hD2.cells.2.2 4 _ rfl
          have k5 : wr.cell? ⟨db, 5, none⟩ = some (.bool d.dead) := hD2.cells.2.2 5 _ rfl
          have f1 := hD2.cells.2.1 1
          have f3 := hD2.cells.2.1 3
          have f4 := hD2.cells.2.1 4
          have f5 := hD2.cells.2.1 5
          have hdb1 := hD2.cells.1
          obtain ⟨rows, clock, hbc, hcopy⟩ := hD2.firm.copy
          have Hcopy := Lib.hid hcopy
          clear hD2 hT hcopy ho2 hA2
          go_wp2_with fail
          refine (dclone_any fb rows clock wr hbc).mono ?_
          rintro e w2 ⟨rfl, rfl⟩
          go_wp2_with fail
          go_end0
          rw [hCr.out]
          have hh1 := H1.out
          have hs2 : ((((wr.setCell ⟨db, 1, none⟩ (.map (some wr.heap.size))).setCell ⟨db, 3, none⟩ (.slice none 0 0)).setCell ⟨db, 5, none⟩ (.bool false)).setCell ⟨db, 4, none⟩ (.int .i64 0)).heap.size = wr.heap.size := by simp
          have hblk : ∀ j, j < wr.heap.size → j ≠ db → (((((wr.setCell ⟨db, 1, none⟩ (.map (some wr.heap.size))).setCell ⟨db, 3, none⟩ (.slice none 0 0)).setCell ⟨db, 5, none⟩ (.bool false)).setCell ⟨db, 4, none⟩ (.int .i64 0)).alloc (.map rows clock)).heap[j]? = wr.heap[j]? := fun j hj hne =>
            (Below.heap_alloc _ _ j (by rw [hs2]; exact hj)).trans ((heap_other _ _ hne).trans ((heap_other _ _ hne).trans ((heap_other _ _ hne).trans (heap_other _ _ hne))))
          have hnew : (((((wr.setCell ⟨db, 1, none⟩ (.map (some wr.heap.size))).setCell ⟨db, 3, none⟩ (.slice none 0 0)).setCell ⟨db, 5, none⟩ (.bool false)).setCell ⟨db, 4, none⟩ (.int .i64 0)).alloc (.map rows clock)).heap[wr.heap.size]? = some (.map rows clock) := by
            have := (MapKept.heap_alloc ((((wr.setCell ⟨db, 1, none⟩ (.map (some wr.heap.size))).setCell ⟨db, 3, none⟩ (.slice none 0 0)).setCell ⟨db, 5, none⟩ (.bool false)).setCell ⟨db, 4, none⟩ (.int .i64 0)) (.map rows clock)).1
            rw [hs2] at this
            exact this
          have hsz : (((((wr.setCell ⟨db, 1, none⟩ (.map (some wr.heap.size))).setCell ⟨db, 3, none⟩ (.slice none 0 0)).setCell ⟨db, 5, none⟩ (.bool false)).setCell ⟨db, 4, none⟩ (.int .i64 0)).alloc (.map rows clock)).heap.size = wr.heap.size + 1 := by simp
          have hT2 : Turned S w.heap.size w (((((wr.setCell ⟨db, 1, none⟩ (.map (some wr.heap.size))).setCell ⟨db, 3, none⟩ (.slice none 0 0)).setCell ⟨db, 5, none⟩ (.bool false)).setCell ⟨db, 4, none⟩ (.int .i64 0)).alloc (.map rows clock)) := ((((HT1.out.set 1 _ fun _ => HD.out.sdb).set 3 _ fun _ => HD.out.sdb).set 5 _ fun _ => HD.out.sdb).set 4 _ fun _ => HD.out.sdb).alloc (by rw [hs2]; exact HT1.out.size) _
          have hV2 : VarAt (((((wr.setCell ⟨db, 1, none⟩ (.map (some wr.heap.size))).setCell ⟨db, 3, none⟩ (.slice none 0 0)).setCell ⟨db, 5, none⟩ (.bool false)).setCell ⟨db, 4, none⟩ (.int .i64 0)).alloc (.map rows clock)) db (((((diskCells { d with firm := es } nb fb (.slice aa fs.length ac)).set 1 (.map (some wr.heap.size))).set 3 (.slice none 0 0)).set 5 (.bool false)).set 4 (.int .i64 0)) := ((((hh1.cells.set 1 (.map (some wr.heap.size)) (by simp [diskCells])).set 3 (.slice none 0 0) (by simp [diskCells])).set 5 (.bool false) (by simp [diskCells])).set 4 (.int .i64 0) (by simp [diskCells])).keeps ((Below.refl _ _).alloc (Nat.le_refl _) _) (by rw [hs2]; exact hdb1)
          have hnow := Hcopy.out _ _ hnew
          have hns := hh1.fbdb
          have hslt := hh1.slt
          have hfb := hh1.firm.lt
          have hfo := hh1.ok.firm
          refine ⟨rfl, ⟨wr.heap.size, fb, .slice none 0 0, ?_⟩, hT2⟩
          refine ⟨hV2, hnow, hh1.firm.same (hblk fb hfb (by omega)), by omega, hns, by omega, ⟨[], OwnRows.nil _ _ _ _, .nil⟩, .inl hh1.sdb, .inr ⟨HT1.out.size, by omega⟩, .inl hh1.sfb, fun j hj => (by cases hj), fun j hj => ?_, ⟨hh1.ok.limit, hfo, hfo, fun x hx => (by cases hx)⟩⟩
          rcases hj with hj | hj
          · have := hslt j hj
            omega
          · exact hj.2
theorem dcrash_any {w : World} {db : Nat} {S : Nat → Prop} {d : Dk} (h : DOk w db S d) (keep : Int) (torn : Bool) (hl : d.firm.length + d.acts.length ≤ 100000) : Calls Tryz.prog 23 #[.pointer (some ⟨db, 0, none⟩), .int .i64 keep, .bool torn] w fun e w' => e = .returned (.tuple #[]) ∧ DGo w db S (crashD d keep torn) w' := by
  obtain ⟨nb, fb, v, h⟩ := h
  exact crash_any w db nb fb v S d keep torn h hl
end Go.Proofs.YtgglheelhbfgiaaGreatDoor

