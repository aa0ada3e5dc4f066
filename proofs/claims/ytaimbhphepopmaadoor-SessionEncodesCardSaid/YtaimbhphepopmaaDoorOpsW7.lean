import Derived.Test.YtaimbhphepopmaaDoorOpsW6
namespace Go.Proofs.YtaimbhphepopmaaDoor
open Go Go.RowKit Go.Lib
theorem flat_ba {ns : List Int} {k : Nat} {n : Int} (h : ns[k]? = some n) : (⟨(flatN (ns.take (k + 1))).toArray⟩ : ByteArray) = ⟨(flatN (ns.take k)).toArray⟩ ++ ⟨(numL n).toArray⟩ := by
  apply ba_ext
  rw [ByteArray.data_append, Array.toList_append, flatN_step h]
theorem keepT {W w1 w2 : World} {bx : Nat} {n m : Value} (hb : Below W.heap.size W w1) (h : Below w1.heap.size w1 w2) (c9 : w1.cell? ⟨bx, 9, none⟩ = some n) (c10 : w1.cell? ⟨bx, 10, none⟩ = some m) (lt : bx < W.heap.size) :
    Below W.heap.size W w2 ∧ w2.cell? ⟨bx, 9, none⟩ = some n ∧ w2.cell? ⟨bx, 10, none⟩ = some m :=
  have h' := h.mono hb.size
  ⟨hb.trans h', (h'.cell (p := ⟨bx, 9, none⟩) lt).trans c9, (h'.cell (p := ⟨bx, 10, none⟩) lt).trans c10⟩

set_option maxRecDepth 100000 in
theorem truth_any (d : Bool) (w : World) : Calls Tryd.prog 57 #[.bool d] w fun e w' => e = .returned (.int .i64 (dirO d)) ∧ w' = w := by
  cases d
  all_goals
    go_enter Tryd.func57, Tryd.ntmps57
    go_wp2_with fail
    go_ret
    exact ⟨rfl, rfl⟩

set_option maxRecDepth 100000 in
set_option maxHeartbeats 6400000 in
theorem bytes_any (x : Opr) (w : World) (hn : x.name.size ≤ 100000) (hm : x.man.size ≤ 100000) :
    Calls Tryd.prog 25 #[.agg #[.int .i64 x.cnt, .int .i64 x.who, .int .i64 x.seq, .int .i64 x.kind, .int .i64 x.nc, .int .i64 x.nw, .bool x.dir, .int .i64 x.pc, .int .i64 x.pw, .string x.name, .string x.man]] w fun e w' => e = .returned (.string ⟨(encL x).toArray⟩) ∧ Below w.heap.size w w' := by
  have HB := Lib.hid (encL_ba x)
  have HN := Lib.hid fun W => rencText_any x.name W (by omega)
  have HM := Lib.hid fun W => rencText_any x.man W (by omega)
  have hq2 := textL_len x.name hn
  have hq3 := textL_len x.man hm
  have hf1 : (flatN (numsO x)).length ≤ 81 := flatN_len _
  have hnl : (numsO x).length = 9 := rfl
  have hns : numsO x = [x.cnt, x.who, x.seq, x.kind, x.nc, x.nw, dirO x.dir, x.pc, x.pw] := rfl
  obtain ⟨cnt, who, seq, kind, nc, nw, dir, pc, pw, name, man⟩ := x
  dsimp only at hn hm HN HM hq2 hq3 hns ⊢
  obtain ⟨WX, hWX⟩ : ∃ WX, WX = (w.alloc (.cells #[.int .i64 cnt, .int .i64 who, .int .i64 seq, .int .i64 kind, .int .i64 nc, .int .i64 nw, .bool dir, .int .i64 pc, .int .i64 pw, .string name, .string man] 45)) := ⟨_, rfl⟩
  have hbx : Below w.heap.size w WX := by rw [hWX]; exact (Below.refl _ _).alloc (Nat.le_refl _) _
  have hlb : w.heap.size < WX.heap.size := by rw [hWX]; simp
  have x0 : WX.cell? ⟨w.heap.size, 0, none⟩ = some (.int .i64 cnt) := by rw [hWX]; simp
  have x1 : WX.cell? ⟨w.heap.size, 1, none⟩ = some (.int .i64 who) := by rw [hWX]; simp
  have x2 : WX.cell? ⟨w.heap.size, 2, none⟩ = some (.int .i64 seq) := by rw [hWX]; simp
  have x3 : WX.cell? ⟨w.heap.size, 3, none⟩ = some (.int .i64 kind) := by rw [hWX]; simp
  have x4 : WX.cell? ⟨w.heap.size, 4, none⟩ = some (.int .i64 nc) := by rw [hWX]; simp
  have x5 : WX.cell? ⟨w.heap.size, 5, none⟩ = some (.int .i64 nw) := by rw [hWX]; simp
  have x6 : WX.cell? ⟨w.heap.size, 6, none⟩ = some (.bool dir) := by rw [hWX]; simp
  have x7 : WX.cell? ⟨w.heap.size, 7, none⟩ = some (.int .i64 pc) := by rw [hWX]; simp
  have x8 : WX.cell? ⟨w.heap.size, 8, none⟩ = some (.int .i64 pw) := by rw [hWX]; simp
  have x9 : WX.cell? ⟨w.heap.size, 9, none⟩ = some (.string name) := by rw [hWX]; simp
  have x10 : WX.cell? ⟨w.heap.size, 10, none⟩ = some (.string man) := by rw [hWX]; simp
  generalize numsO _ = ns at *
  generalize encL _ = el at *
  generalize (⟨(textL name.data.toList).toArray⟩ : ByteArray) = q2 at *
  generalize (⟨(textL man.data.toList).toArray⟩ : ByteArray) = q3 at *
  go_enter Tryd.func25, Tryd.ntmps25
  go_wp2_with fail
  rw [← hWX]
  clear hWX
  have hkc : Below WX.heap.size WX WX.drew ∧ WX.drew.cell? ⟨w.heap.size, 0, none⟩ = some (.int .i64 cnt) ∧ WX.drew.cell? ⟨w.heap.size, 1, none⟩ = some (.int .i64 who) ∧ WX.drew.cell? ⟨w.heap.size, 2, none⟩ = some (.int .i64 seq) ∧ WX.drew.cell? ⟨w.heap.size, 3, none⟩ = some (.int .i64 kind) ∧ WX.drew.cell? ⟨w.heap.size, 4, none⟩ = some (.int .i64 nc) ∧ WX.drew.cell? ⟨w.heap.size, 5, none⟩ = some (.int .i64 nw) ∧ WX.drew.cell? ⟨w.heap.size, 6, none⟩ = some (.bool dir) ∧ WX.drew.cell? ⟨w.heap.size, 7, none⟩ = some (.int .i64 pc) ∧ WX.drew.cell? ⟨w.heap.size, 8, none⟩ = some (.int .i64 pw) := ⟨(Below.refl _ _).drew, x0, x1, x2, x3, x4, x5, x6, x7, x8⟩
  go_region_held3 (fun w' => Below WX.heap.size WX w' ∧ w'.cell? ⟨w.heap.size, 0, none⟩ = some (.int .i64 cnt) ∧ w'.cell? ⟨w.heap.size, 1, none⟩ = some (.int .i64 who) ∧ w'.cell? ⟨w.heap.size, 2, none⟩ = some (.int .i64 seq) ∧ w'.cell? ⟨w.heap.size, 3, none⟩ = some (.int .i64 kind) ∧ w'.cell? ⟨w.heap.size, 4, none⟩ = some (.int .i64 nc) ∧ w'.cell? ⟨w.heap.size, 5, none⟩ = some (.int .i64 nw) ∧ w'.cell? ⟨w.heap.size, 6, none⟩ = some (.bool dir) ∧ w'.cell? ⟨w.heap.size, 7, none⟩ = some (.int .i64 pc) ∧ w'.cell? ⟨w.heap.size, 8, none⟩ = some (.int .i64 pw)) (first | exact hkc | (refine ⟨(Below.refl _ _).alloc (Nat.le_refl _) _, ?_⟩; go_keep) | (refine ⟨(Below.refl _ _).drew.alloc (Nat.le_refl _) _, ?_⟩; go_keep) | go_keep)
    (first | (go_at_call 57; refine (truth_any _ _).mono ?_; rintro e w' ⟨rfl, rfl⟩))
  rename_i hH
  clear hH hkc
  have hb0 : Below WX.heap.size WX ((WX.alloc (.cells #[.int .i64 cnt, .int .i64 who, .int .i64 seq, .int .i64 kind, .int .i64 nc, .int .i64 nw, .int .i64 (dirO dir), .int .i64 pc, .int .i64 pw] 3)).drew) := ((Below.refl _ _).alloc (Nat.le_refl _) _).drew
  have hs0 : ((WX.alloc (.cells #[.int .i64 cnt, .int .i64 who, .int .i64 seq, .int .i64 kind, .int .i64 nc, .int .i64 nw, .int .i64 (dirO dir), .int .i64 pc, .int .i64 pw] 3)).drew).heap[WX.heap.size]? = some (.cells #[.int .i64 cnt, .int .i64 who, .int .i64 seq, .int .i64 kind, .int .i64 nc, .int .i64 nw, .int .i64 (dirO dir), .int .i64 pc, .int .i64 pw] 3 (0, 0)) := heap_alloc_new WX _
  generalize ((WX.alloc (.cells #[.int .i64 cnt, .int .i64 who, .int .i64 seq, .int .i64 kind, .int .i64 nc, .int .i64 nw, .int .i64 (dirO dir), .int .i64 pc, .int .i64 pw] 3)).drew) = W1 at *
  go_wp2_with fail
  go_loopw [4, 5] (fun o i wr => ∃ k : Nat, k ≤ 9 ∧ o = .string ⟨(flatN (ns.take k)).toArray⟩ ∧ i = .int .i64 k ∧ wr.heap[WX.heap.size]? = some (.cells #[.int .i64 cnt, .int .i64 who, .int .i64 seq, .int .i64 kind, .int .i64 nc, .int .i64 nw, .int .i64 (dirO dir), .int .i64 pc, .int .i64 pw] 3 (0, 0)) ∧ Below WX.heap.size WX wr ∧ WX.heap.size < wr.heap.size) (fun _ i _ => 9 - (RowKit.intOf i).toNat)
  case atStart => exact ⟨0, Nat.zero_le _, rfl, rfl, hs0, hb0, (Array.getElem?_eq_some_iff.1 hs0).1⟩
  case round =>
    obtain ⟨k, hk, rfl, rfl, hs, hbw, hsz⟩ := hrel
    by_cases hlt : k < 9
    · obtain ⟨n, hn⟩ : ∃ n, ns[k]? = some n := at_some (by rw [hnl]; exact hlt)
      have hc : wr.cell? ⟨WX.heap.size, k, none⟩ = some (.int .i64 n) := by
        rw [Lib.cell_of_heap hs]
        have : (#[.int .i64 cnt, .int .i64 who, .int .i64 seq, .int .i64 kind, .int .i64 nc, .int .i64 nw, .int .i64 (dirO dir), .int .i64 pc, .int .i64 pw] : Array Value) = (ns.map (Value.int .i64)).toArray := by rw [hns]; rfl
        rw [this]
        simp [hn]
      have Hst := Lib.hid (flat_ba hn)
      have hq : (⟨(numL n).toArray⟩ : ByteArray).size ≤ 9 := by rw [size_eq]; exact numL_len _
      have hfl : (⟨(flatN (ns.take k)).toArray⟩ : ByteArray).size ≤ 81 := by rw [size_eq]; exact Nat.le_trans (flatN_len _) (by rw [List.length_take, hnl]; omega)
      have HE := Lib.hid (rencNum_any n wr)
      clear hn
      generalize (⟨(numL n).toArray⟩ : ByteArray) = q at *
      generalize (⟨(flatN (ns.take k)).toArray⟩ : ByteArray) = f at *
      go_wp2_with fail
      refine HE.out.mono ?_
      rintro e w2 ⟨rfl, hb2⟩
      have hs2 := hb2.size
      have hsl : w2.heap[WX.heap.size]? = some (.cells #[.int .i64 cnt, .int .i64 who, .int .i64 seq, .int .i64 kind, .int .i64 nc, .int .i64 nw, .int .i64 (dirO dir), .int .i64 pc, .int .i64 pw] 3 (0, 0)) := by rw [hb2.block _ (by omega)]; exact hs
      have hbw2 := hbw.trans (hb2.mono hbw.size)
      go_wp2_with fail
      go_roundw
      case rel =>
        exact ⟨k + 1, by omega, by rw [Hst.out], by go_num, hsl, hbw2, by omega⟩
      case measure => simp [RowKit.intOf]; omega
    · obtain rfl : k = 9 := by omega
      rw [show ns.take 9 = ns from List.take_of_length_le (Nat.le_of_eq hnl)]
      have hf2 : (⟨(flatN ns).toArray⟩ : ByteArray).size ≤ 81 := by rw [size_eq]; exact hf1
      have y9 := (hbw.cell (p := ⟨w.heap.size, 9, none⟩) (by omega)).trans x9
      have y10 := (hbw.cell (p := ⟨w.heap.size, 10, none⟩) (by omega)).trans x10
      generalize (⟨(flatN ns).toArray⟩ : ByteArray) = q1 at *
      clear hs hf1 x0 x1 x2 x3 x4 x5 x6 x7 x8 hs0 hb0
      go_wp2_with fail
      have hA1 : ¬ (q1.size + q2.size > 9223372036854775807) := by omega
      have hA2 : q1.size + q2.size ≤ 9223372036854775807 := by omega
      have hA3 : ¬ (q1.size + q2.size + q3.size > 9223372036854775807) := by omega
      have hA4 : q1.size + q2.size + q3.size ≤ 9223372036854775807 := by omega
      have hkc := keepT hbw (Below.refl wr.heap.size wr).drew y9 y10 hlb
      go_region_held3 (fun w' => Below WX.heap.size WX w' ∧ w'.cell? ⟨w.heap.size, 9, none⟩ = some (.string name) ∧ w'.cell? ⟨w.heap.size, 10, none⟩ = some (.string man))
        (first | exact hkc | (go_split_ands; exact keepT (by assumption) hbl (by assumption) (by assumption) hlb) | go_keep)
        (first | (go_at_call_of 56 (Value.string name); refine (HN.out _).mono ?_; rintro e w' ⟨rfl, hbl⟩) | (go_at_call_of 56 (Value.string man); refine (HM.out _).mono ?_; rintro e w' ⟨rfl, hbl⟩))
      rename_i hH
      obtain ⟨hbz, -, -⟩ := hH
      go_wp2_with fail
      go_ret
      refine ⟨?_, hbx.trans (hbz.mono hbx.size)⟩
      rw [HB.out]
      rfl

end Go.Proofs.YtaimbhphepopmaaDoor