import Derived.Test.YtlenpifjkbcmdaaGreatDoorOpsW5
import Derived.Test.YtlenpifjkbcmdaaGreatDoorCodecW4
import Derived.Test.YtlenpifjkbcmdaaGreatDoorBuilder
import Derived.Deep.RegionHeld3
import Derived.IntWalk
namespace Go.Proofs.YtlenpifjkbcmdaaGreatDoor
open Go Go.RowKit Go.Lib

/-! ### An operation as bytes -/
def dirO (d : Bool) : Int := if d then 1 else 0
def numsO (x : Opr) : List Int := [x.cnt, x.who, x.seq, x.kind, x.nc, x.nw, dirO x.dir, x.pc, x.pw]
def flatN (l : List Int) : List UInt8 := l.flatMap numL
def encL (x : Opr) : List UInt8 := flatN (numsO x) ++ textL x.name.data.toList ++ textL x.man.data.toList
def encB (x : Opr) : ByteArray := if rightO x = 0 then ⟨(encL x).toArray⟩ else ⟨#[]⟩
theorem flatN_step {l : List Int} {k : Nat} {n : Int} (h : l[k]? = some n) : flatN (l.take (k + 1)) = flatN (l.take k) ++ numL n := by
  unfold flatN
  rw [List.take_add_one, h, List.flatMap_append]
  simp
theorem flatN_len (l : List Int) : (flatN l).length ≤ 9 * l.length := by
  induction l with
  | nil => simp [flatN]
  | cons n l ih =>
    have := numL_len n
    unfold flatN at *
    rw [List.flatMap_cons, List.length_append, List.length_cons]
    omega
theorem builderF_far {T e : TypeId} {B b : Nat} {bs : List Value} {w w' : World} (h : Lib.IsBuilderF T e B b bs w) (hb : Below w.heap.size w w') : Lib.IsBuilderF T e B b bs w' := by
  have key : ∀ p, Lib.BuilderAtF T e B b p bs w → Lib.BuilderAtF T e B b p bs w' := by
    rintro p ⟨hB, v, hbk, hown, hne⟩
    refine ⟨hB, v, ?_, ⟨hown.1, ?_⟩, hne⟩
    · rw [hb.block b (Array.getElem?_eq_some_iff.1 hbk).1]
      exact hbk
    · rcases hown.2 with hn | ⟨g, cap, cur, fz, rfl, hg, hgg, rest⟩
      · exact .inl hn
      · refine .inr ⟨g, cap, cur, fz, rfl, hg, ?_, rest⟩
        rw [hb.block g (Array.getElem?_eq_some_iff.1 hgg).1]
        exact hgg
  rcases h with h | h
  · exact .inl (key _ h)
  · exact .inr (key _ h)
theorem keepE {W w1 w2 : World} {B bx : Nat} {n m : Value} {T e : TypeId} {l : List Value} (hb : Below B W w1) (h : Below B w1 w2) (c9 : w1.cell? ⟨bx, 9, none⟩ = some n) (c10 : w1.cell? ⟨bx, 10, none⟩ = some m) (lt : bx < B) (hf : Lib.IsBuilderF T e B B l w2) :
    Below B W w2 ∧ w2.cell? ⟨bx, 9, none⟩ = some n ∧ w2.cell? ⟨bx, 10, none⟩ = some m ∧ Lib.IsBuilderF T e B B l w2 :=
  ⟨hb.trans h, (h.cell (p := ⟨bx, 9, none⟩) lt).trans c9, (h.cell (p := ⟨bx, 10, none⟩) lt).trans c10, hf⟩
theorem keepE2 {W w1 w2 : World} {bx : Nat} {n m : Value} {T e : TypeId} {l : List Value} (hb : Below W.heap.size W w1) (h : Below w1.heap.size w1 w2) (c9 : w1.cell? ⟨bx, 9, none⟩ = some n) (c10 : w1.cell? ⟨bx, 10, none⟩ = some m) (lt : bx < W.heap.size) (hf : Lib.IsBuilderF T e W.heap.size W.heap.size l w1) :
    Below W.heap.size W w2 ∧ w2.cell? ⟨bx, 9, none⟩ = some n ∧ w2.cell? ⟨bx, 10, none⟩ = some m ∧ Lib.IsBuilderF T e W.heap.size W.heap.size l w2 :=
  keepE hb (h.mono hb.size) c9 c10 lt (builderF_far hf h)
theorem encL_ba (x : Opr) : (⟨(encL x).toArray⟩ : ByteArray) = ⟨(flatN (numsO x)).toArray⟩ ++ ⟨(textL x.name.data.toList).toArray⟩ ++ ⟨(textL x.man.data.toList).toArray⟩ := by
  apply ba_ext
  rw [ByteArray.data_append, ByteArray.data_append, Array.toList_append, Array.toList_append]
  rfl
theorem textL_len (s : ByteArray) (hs : s.size ≤ 100000) : (⟨(textL s.data.toList).toArray⟩ : ByteArray).size ≤ 9 + s.size := by
  rw [textL_eq s (by omega), ByteArray.size_append]
  have : (⟨(numL s.size).toArray⟩ : ByteArray).size ≤ 9 := by rw [size_eq]; exact numL_len _
  omega


set_option maxRecDepth 100000 in
set_option maxHeartbeats 6400000 in
theorem encode_any (x : Opr) (w : World) (hn : x.name.size ≤ 100000) (hm : x.man.size ≤ 100000) :
    Calls Tryz.prog 34 #[.agg #[.int .i64 x.cnt, .int .i64 x.who, .int .i64 x.seq, .int .i64 x.kind, .int .i64 x.nc, .int .i64 x.nw, .bool x.dir, .int .i64 x.pc, .int .i64 x.pw, .string x.name, .string x.man]] w fun e w' => e = .returned (.tuple #[.string (encB x), .int .i64 (rightO x)]) ∧ Below w.heap.size w w' := by
  have HR := Lib.hid fun W => oright_any x W hn hm
  have HB := Lib.hid (encL_ba x)
  have HE := Lib.hid (show encB x = if rightO x = 0 then ⟨(encL x).toArray⟩ else ⟨#[]⟩ from rfl)
  have HN := Lib.hid fun W => encText_any x.name W (by omega)
  have HM := Lib.hid fun W => encText_any x.man W (by omega)
  have hq2 := textL_len x.name hn
  have hq3 := textL_len x.man hm
  have hq1 : (⟨(flatN (numsO x)).toArray⟩ : ByteArray).size ≤ 81 := by rw [size_eq]; exact flatN_len _
  have hnl : (numsO x).length = 9 := rfl
  have hns : numsO x = [x.cnt, x.who, x.seq, x.kind, x.nc, x.nw, dirO x.dir, x.pc, x.pw] := rfl
  obtain ⟨cnt, who, seq, kind, nc, nw, dir, pc, pw, name, man⟩ := x
  dsimp only at hn hm HN HM HR hq2 hq3 hns ⊢
  have hbx : Below w.heap.size w (w.alloc (.cells #[.int .i64 cnt, .int .i64 who, .int .i64 seq, .int .i64 kind, .int .i64 nc, .int .i64 nw, .bool dir, .int .i64 pc, .int .i64 pw, .string name, .string man] 28)) := (Below.refl _ _).alloc (Nat.le_refl _) _
  generalize numsO _ = ns at *
  generalize rightO _ = ro at *
  generalize encL _ = el at *
  generalize encB _ = eb at *
  generalize (⟨(textL name.data.toList).toArray⟩ : ByteArray) = q2 at *
  generalize (⟨(textL man.data.toList).toArray⟩ : ByteArray) = q3 at *
  by_cases hro : ro = 0
  · subst hro
    cases dir with
    | false =>
      go_enter Tryz.func34, Tryz.ntmps34
      go_wp2_with fail
      refine (HR.out _).mono ?_
      rintro e w1 ⟨rfl, hb1⟩
      have hc1 := hbx.trans (hb1.mono hbx.size)
      have hl1 : w.heap.size < w1.heap.size := Nat.lt_of_lt_of_le (by simp) hb1.size
      have x0 := hb1.cell (p := ⟨w.heap.size, 0, none⟩) (by simp)
      have x1 := hb1.cell (p := ⟨w.heap.size, 1, none⟩) (by simp)
      have x2 := hb1.cell (p := ⟨w.heap.size, 2, none⟩) (by simp)
      have x3 := hb1.cell (p := ⟨w.heap.size, 3, none⟩) (by simp)
      have x4 := hb1.cell (p := ⟨w.heap.size, 4, none⟩) (by simp)
      have x5 := hb1.cell (p := ⟨w.heap.size, 5, none⟩) (by simp)
      have x6 := hb1.cell (p := ⟨w.heap.size, 6, none⟩) (by simp)
      have x7 := hb1.cell (p := ⟨w.heap.size, 7, none⟩) (by simp)
      have x8 := hb1.cell (p := ⟨w.heap.size, 8, none⟩) (by simp)
      have x9 := hb1.cell (p := ⟨w.heap.size, 9, none⟩) (by simp)
      have x10 := hb1.cell (p := ⟨w.heap.size, 10, none⟩) (by simp)
      replace hns : ns = [cnt, who, seq, kind, nc, nw, 0, pc, pw] := hns
      go_wp2_with fail
      go_loopw [8, 41] (fun _ i wr => ∃ k : Nat, k ≤ 9 ∧ i = .int .i64 k ∧ Lib.IsBuilder 99 5 w1.heap.size w1.heap.size (Lib.byteCells (flatN (ns.take k))) wr ∧ wr.heap[w1.heap.size + 1]? = some (.cells #[.int .i64 cnt, .int .i64 who, .int .i64 seq, .int .i64 kind, .int .i64 nc, .int .i64 nw, .int .i64 0, .int .i64 pc, .int .i64 pw] 3 (0, 0)) ∧ Below w1.heap.size w1 wr ∧ w1.heap.size + 2 ≤ wr.heap.size) (fun _ i _ => 9 - (RowKit.intOf i).toNat)
      case atStart => exact ⟨0, Nat.zero_le _, rfl, builder_far (Lib.fresh_isBuilder _ _ w1) ((Below.refl _ _).alloc (Nat.le_refl _) _), by rw [show w1.heap.size + 1 = (w1.alloc (.cells #[.pointer none, .slice none 0 0] 99)).heap.size by simp]; exact heap_alloc_new _ _, ((Below.refl _ _).alloc (Nat.le_refl _) _).alloc (by simp) _, by simp⟩
      case round =>
        obtain ⟨k, hk, rfl, hbu, hs, hbw, hsz⟩ := hrel
        by_cases hlt : k < 9
        · obtain ⟨n, hn⟩ : ∃ n, ns[k]? = some n := at_some (by rw [hnl]; exact hlt)
          have hc : wr.cell? ⟨w1.heap.size + 1, k, none⟩ = some (.int .i64 n) := by
            rw [Lib.cell_of_heap hs]
            have : (#[.int .i64 cnt, .int .i64 who, .int .i64 seq, .int .i64 kind, .int .i64 nc, .int .i64 nw, .int .i64 0, .int .i64 pc, .int .i64 pw] : Array Value) = (ns.map (Value.int .i64)).toArray := by rw [hns]; rfl
            rw [this]
            simp [hn]
          have Hst := Lib.hid (flatN_step hn)
          have hq : (⟨(numL n).toArray⟩ : ByteArray).size ≤ 9 := by rw [size_eq]; exact numL_len _
          have Hfl := Lib.hid (show (flatN (ns.take k)).length ≤ 81 from Nat.le_trans (flatN_len _) (by rw [List.length_take, hnl]; omega))
          have Hqs := Lib.hid (show Lib.strCells ⟨(numL n).toArray⟩ = Lib.byteCells (numL n) from rfl)
          have HE := Lib.hid (encNum_any n wr)
          clear hn
          generalize (⟨(numL n).toArray⟩ : ByteArray) = q at *
          go_wp2_with fail
          refine HE.out.mono ?_
          rintro e w2 ⟨rfl, hb2⟩
          have hs2 := hb2.size
          have hbu2 := builder_far hbu hb2
          have hsl : w2.heap[w1.heap.size + 1]? = some (.cells #[.int .i64 cnt, .int .i64 who, .int .i64 seq, .int .i64 kind, .int .i64 nc, .int .i64 nw, .int .i64 0, .int .i64 pc, .int .i64 pw] 3 (0, 0)) := by rw [hb2.block _ (by omega)]; exact hs
          have hbw2 := hbw.trans (hb2.mono hbw.size)
          go_wp2_with fail
          refine (write_any w1.heap.size w1.heap.size _ q w2 hbu2 (by have := Hfl.out; rw [Lib.byteCells_length]; omega) (by omega)).mono ?_
          rintro e w3 ⟨rfl, hbu3, hb3, hk3⟩
          have hs3 := hb3.size
          have hsl3 := hk3 _ _ hsl (by simp) (by intro c fz h; simp at h)
          have hbw3 := hbw2.trans hb3
          go_wp2_with fail
          go_roundw
          case rel =>
            refine ⟨k + 1, by omega, by go_num, ?_, hsl3, hbw3, by omega⟩
            rw [Hst.out, ← byteCells_append, ← Hqs.out]
            exact .inr hbu3
          case measure => simp [RowKit.intOf]; omega
        · obtain rfl : k = 9 := by omega
          rw [show ns.take 9 = ns from List.take_of_length_le (Nat.le_of_eq hnl)] at hbu
          have hf := Lib.IsBuilderF.of hbu
          have y9 : wr.cell? ⟨w.heap.size, 9, none⟩ = some (.string name) := ((hbw.cell (p := ⟨w.heap.size, 9, none⟩) (by omega)).trans x9).trans (by simp)
          have y10 : wr.cell? ⟨w.heap.size, 10, none⟩ = some (.string man) := ((hbw.cell (p := ⟨w.heap.size, 10, none⟩) (by omega)).trans x10).trans (by simp)
          have hlb : w.heap.size < w1.heap.size := hl1
          clear hbu hs
          go_wp2_with fail
      
          have HS := Lib.hid fun W h hB => Tryz.Builder_String_any_f w1.heap.size w1.heap.size (flatN ns) W h hB
          generalize (⟨(flatN ns).toArray⟩ : ByteArray) = q1 at *
          have hA1 : ¬ (q1.size + q2.size > 9223372036854775807) := by omega
          have hA2 : q1.size + q2.size ≤ 9223372036854775807 := by omega
          have hA3 : ¬ (q1.size + q2.size + q3.size > 9223372036854775807) := by omega
          have hA4 : q1.size + q2.size + q3.size ≤ 9223372036854775807 := by omega
          have hkk : Lib.IsBuilderF 99 5 w1.heap.size w1.heap.size (Lib.byteCells (flatN ns)) wr.drew := builderF_far hf (Below.refl wr.heap.size wr).drew
          have hkd : Below w1.heap.size w1 wr.drew := hbw.drew
          have hkc : Below w1.heap.size w1 wr.drew ∧ wr.drew.cell? ⟨w.heap.size, 9, none⟩ = some (.string name) ∧ wr.drew.cell? ⟨w.heap.size, 10, none⟩ = some (.string man) ∧ Lib.IsBuilderF 99 5 w1.heap.size w1.heap.size (Lib.byteCells (flatN ns)) wr.drew := ⟨hkd, y9, y10, hkk⟩
          go_region_held3 (fun w' => Below w1.heap.size w1 w' ∧ w'.cell? ⟨w.heap.size, 9, none⟩ = some (.string name) ∧ w'.cell? ⟨w.heap.size, 10, none⟩ = some (.string man) ∧ Lib.IsBuilderF 99 5 w1.heap.size w1.heap.size (Lib.byteCells (flatN ns)) w')
            (first | exact hkc | (go_split_ands; first | exact keepE (by assumption) hbl (by assumption) (by assumption) hlb hkb | exact keepE2 (by assumption) hbl (by assumption) (by assumption) hlb (by assumption)) | go_keep)
            (first | (go_at_call 65; go_split_ands; refine (HS.out _ (by assumption) (Below.size (by assumption))).mono ?_; rintro e w' ⟨rfl, hkb, hbl⟩) | (go_at_call_of 31 (Value.string name); refine (HN.out _).mono ?_; rintro e w' ⟨rfl, hbl⟩) | (go_at_call_of 31 (Value.string man); refine (HM.out _).mono ?_; rintro e w' ⟨rfl, hbl⟩))
          rename_i hH
          obtain ⟨hbz, -, -, -⟩ := hH
          go_wp2_with fail
          go_ret2
          refine ⟨?_, hc1.trans (hbz.mono hc1.size)⟩
          have hr : eb = q1 ++ q2 ++ q3 := HE.out.trans ((if_pos (by trivial)).trans HB.out)
          rw [hr]
          rfl
    | true =>
      go_enter Tryz.func34, Tryz.ntmps34
      go_wp2_with fail
      refine (HR.out _).mono ?_
      rintro e w1 ⟨rfl, hb1⟩
      have hc1 := hbx.trans (hb1.mono hbx.size)
      have hl1 : w.heap.size < w1.heap.size := Nat.lt_of_lt_of_le (by simp) hb1.size
      have x0 := hb1.cell (p := ⟨w.heap.size, 0, none⟩) (by simp)
      have x1 := hb1.cell (p := ⟨w.heap.size, 1, none⟩) (by simp)
      have x2 := hb1.cell (p := ⟨w.heap.size, 2, none⟩) (by simp)
      have x3 := hb1.cell (p := ⟨w.heap.size, 3, none⟩) (by simp)
      have x4 := hb1.cell (p := ⟨w.heap.size, 4, none⟩) (by simp)
      have x5 := hb1.cell (p := ⟨w.heap.size, 5, none⟩) (by simp)
      have x6 := hb1.cell (p := ⟨w.heap.size, 6, none⟩) (by simp)
      have x7 := hb1.cell (p := ⟨w.heap.size, 7, none⟩) (by simp)
      have x8 := hb1.cell (p := ⟨w.heap.size, 8, none⟩) (by simp)
      have x9 := hb1.cell (p := ⟨w.heap.size, 9, none⟩) (by simp)
      have x10 := hb1.cell (p := ⟨w.heap.size, 10, none⟩) (by simp)
      replace hns : ns = [cnt, who, seq, kind, nc, nw, 1, pc, pw] := hns
      go_wp2_with fail
      go_loopw [8, 41] (fun _ i wr => ∃ k : Nat, k ≤ 9 ∧ i = .int .i64 k ∧ Lib.IsBuilder 99 5 w1.heap.size w1.heap.size (Lib.byteCells (flatN (ns.take k))) wr ∧ wr.heap[w1.heap.size + 1]? = some (.cells #[.int .i64 cnt, .int .i64 who, .int .i64 seq, .int .i64 kind, .int .i64 nc, .int .i64 nw, .int .i64 1, .int .i64 pc, .int .i64 pw] 3 (0, 0)) ∧ Below w1.heap.size w1 wr ∧ w1.heap.size + 2 ≤ wr.heap.size) (fun _ i _ => 9 - (RowKit.intOf i).toNat)
      case atStart => exact ⟨0, Nat.zero_le _, rfl, builder_far (Lib.fresh_isBuilder _ _ w1) ((Below.refl _ _).alloc (Nat.le_refl _) _), by rw [show w1.heap.size + 1 = (w1.alloc (.cells #[.pointer none, .slice none 0 0] 99)).heap.size by simp]; exact heap_alloc_new _ _, ((Below.refl _ _).alloc (Nat.le_refl _) _).alloc (by simp) _, by simp⟩
      case round =>
        obtain ⟨k, hk, rfl, hbu, hs, hbw, hsz⟩ := hrel
        by_cases hlt : k < 9
        · obtain ⟨n, hn⟩ : ∃ n, ns[k]? = some n := at_some (by rw [hnl]; exact hlt)
          have hc : wr.cell? ⟨w1.heap.size + 1, k, none⟩ = some (.int .i64 n) := by
            rw [Lib.cell_of_heap hs]
            have : (#[.int .i64 cnt, .int .i64 who, .int .i64 seq, .int .i64 kind, .int .i64 nc, .int .i64 nw, .int .i64 1, .int .i64 pc, .int .i64 pw] : Array Value) = (ns.map (Value.int .i64)).toArray := by rw [hns]; rfl
            rw [this]
            simp [hn]
          have Hst := Lib.hid (flatN_step hn)
          have hq : (⟨(numL n).toArray⟩ : ByteArray).size ≤ 9 := by rw [size_eq]; exact numL_len _
          have Hfl := Lib.hid (show (flatN (ns.take k)).length ≤ 81 from Nat.le_trans (flatN_len _) (by rw [List.length_take, hnl]; omega))
          have Hqs := Lib.hid (show Lib.strCells ⟨(numL n).toArray⟩ = Lib.byteCells (numL n) from rfl)
          have HE := Lib.hid (encNum_any n wr)
          clear hn
          generalize (⟨(numL n).toArray⟩ : ByteArray) = q at *
          go_wp2_with fail
          refine HE.out.mono ?_
          rintro e w2 ⟨rfl, hb2⟩
          have hs2 := hb2.size
          have hbu2 := builder_far hbu hb2
          have hsl : w2.heap[w1.heap.size + 1]? = some (.cells #[.int .i64 cnt, .int .i64 who, .int .i64 seq, .int .i64 kind, .int .i64 nc, .int .i64 nw, .int .i64 1, .int .i64 pc, .int .i64 pw] 3 (0, 0)) := by rw [hb2.block _ (by omega)]; exact hs
          have hbw2 := hbw.trans (hb2.mono hbw.size)
          go_wp2_with fail
          refine (write_any w1.heap.size w1.heap.size _ q w2 hbu2 (by have := Hfl.out; rw [Lib.byteCells_length]; omega) (by omega)).mono ?_
          rintro e w3 ⟨rfl, hbu3, hb3, hk3⟩
          have hs3 := hb3.size
          have hsl3 := hk3 _ _ hsl (by simp) (by intro c fz h; simp at h)
          have hbw3 := hbw2.trans hb3
          go_wp2_with fail
          go_roundw
          case rel =>
            refine ⟨k + 1, by omega, by go_num, ?_, hsl3, hbw3, by omega⟩
            rw [Hst.out, ← byteCells_append, ← Hqs.out]
            exact .inr hbu3
          case measure => simp [RowKit.intOf]; omega
        · obtain rfl : k = 9 := by omega
          rw [show ns.take 9 = ns from List.take_of_length_le (Nat.le_of_eq hnl)] at hbu
          have hf := Lib.IsBuilderF.of hbu
          have y9 : wr.cell? ⟨w.heap.size, 9, none⟩ = some (.string name) := ((hbw.cell (p := ⟨w.heap.size, 9, none⟩) (by omega)).trans x9).trans (by simp)
          have y10 : wr.cell? ⟨w.heap.size, 10, none⟩ = some (.string man) := ((hbw.cell (p := ⟨w.heap.size, 10, none⟩) (by omega)).trans x10).trans (by simp)
          have hlb : w.heap.size < w1.heap.size := hl1
          clear hbu hs
          go_wp2_with fail
      
          have HS := Lib.hid fun W h hB => Tryz.Builder_String_any_f w1.heap.size w1.heap.size (flatN ns) W h hB
          generalize (⟨(flatN ns).toArray⟩ : ByteArray) = q1 at *
          have hA1 : ¬ (q1.size + q2.size > 9223372036854775807) := by omega
          have hA2 : q1.size + q2.size ≤ 9223372036854775807 := by omega
          have hA3 : ¬ (q1.size + q2.size + q3.size > 9223372036854775807) := by omega
          have hA4 : q1.size + q2.size + q3.size ≤ 9223372036854775807 := by omega
          have hkk : Lib.IsBuilderF 99 5 w1.heap.size w1.heap.size (Lib.byteCells (flatN ns)) wr.drew := builderF_far hf (Below.refl wr.heap.size wr).drew
          have hkd : Below w1.heap.size w1 wr.drew := hbw.drew
          have hkc : Below w1.heap.size w1 wr.drew ∧ wr.drew.cell? ⟨w.heap.size, 9, none⟩ = some (.string name) ∧ wr.drew.cell? ⟨w.heap.size, 10, none⟩ = some (.string man) ∧ Lib.IsBuilderF 99 5 w1.heap.size w1.heap.size (Lib.byteCells (flatN ns)) wr.drew := ⟨hkd, y9, y10, hkk⟩
          go_region_held3 (fun w' => Below w1.heap.size w1 w' ∧ w'.cell? ⟨w.heap.size, 9, none⟩ = some (.string name) ∧ w'.cell? ⟨w.heap.size, 10, none⟩ = some (.string man) ∧ Lib.IsBuilderF 99 5 w1.heap.size w1.heap.size (Lib.byteCells (flatN ns)) w')
            (first | exact hkc | (go_split_ands; first | exact keepE (by assumption) hbl (by assumption) (by assumption) hlb hkb | exact keepE2 (by assumption) hbl (by assumption) (by assumption) hlb (by assumption)) | go_keep)
            (first | (go_at_call 65; go_split_ands; refine (HS.out _ (by assumption) (Below.size (by assumption))).mono ?_; rintro e w' ⟨rfl, hkb, hbl⟩) | (go_at_call_of 31 (Value.string name); refine (HN.out _).mono ?_; rintro e w' ⟨rfl, hbl⟩) | (go_at_call_of 31 (Value.string man); refine (HM.out _).mono ?_; rintro e w' ⟨rfl, hbl⟩))
          rename_i hH
          obtain ⟨hbz, -, -, -⟩ := hH
          go_wp2_with fail
          go_ret2
          refine ⟨?_, hc1.trans (hbz.mono hc1.size)⟩
          have hr : eb = q1 ++ q2 ++ q3 := HE.out.trans ((if_pos (by trivial)).trans HB.out)
          rw [hr]
          rfl
  · have hr := HE.out
    rw [if_neg hro] at hr
    have e1 : (ro != 0) = true := by rw [bne_iff_ne]; exact hro
    go_enter Tryz.func34, Tryz.ntmps34
    go_wp2_with fail
    refine (HR.out _).mono ?_
    rintro e w1 ⟨rfl, hb1⟩
    have hc1 := hbx.trans (hb1.mono hbx.size)
    go_wp2_with fail
    go_ret2
    exact ⟨by rw [hr]; rfl, hc1⟩
end Go.Proofs.YtlenpifjkbcmdaaGreatDoor