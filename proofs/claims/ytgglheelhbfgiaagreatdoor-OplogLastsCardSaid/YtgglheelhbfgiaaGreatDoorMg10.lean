/-
  strings.Builder: copyCheck and WriteString, walked at the program's own dump (the shelf's laying of them falls here).
-/
import Derived.Test.YtgglheelhbfgiaaGreatDoorMg7
import Derived.Test.YtgglheelhbfgiaaGreatDoorMg9
import Derived.Lib.BitFns
import Derived.Test.YtgglheelhbfgiaaGreatDoorShelf
import Derived.Test.YtgglheelhbfgiaaGreatDoorMg1
import Derived.Lib.Builder
import Derived.Lib.AppendStr
import Derived.Lib.UnsafeStr
import Derived.Lib.OthersKept
import Derived.Lib.FrozenHead
import Derived.Test.YtgglheelhbfgiaaGreatDoorMg4
import Derived.Deep.RegionHeld3
import Derived.IntWalk
namespace Go.Proofs.YtgglheelhbfgiaaGreatDoor
open Go Go.RowKit Go.Lib

theorem wid_bits : ∀ f u, f ≤ 8 → u < 256 ^ f → widF f u = (Lib.bitLen u + 7) / 8
  | 0, u, _, h => by
    have : u = 0 := by simpa using h
    subst this
    rfl
  | f + 1, u, hf, h => by
    have hu : u < 18446744073709551616 := Nat.lt_of_lt_of_le h (Nat.pow_le_pow_right (n := 256) (by omega) hf)
    unfold widF
    split
    · rename_i h0; subst h0; rfl
    · rename_i h0
      by_cases h256 : 256 ≤ u
      · rw [bitLen_shift8 u h256 hu, wid_bits f (u / 256) (by omega) (by rw [Nat.pow_succ] at h; omega)]
        omega
      · have e : u / 256 = 0 := by omega
        rw [e, wid_bits f 0 (by omega) (Nat.pow_pos (by omega))]
        have h1 : Lib.bitLen u ≤ 8 := Lib.bitLen_le8 ⟨u, by omega⟩
        have h2 := Lib.bitLen_half u h0 hu
        have h3 : Lib.bitLen 0 = 0 := rfl
        rw [h3]
        omega
theorem pow_bytes (m : Nat) : (2 : Int) ^ (8 * m) = ((256 ^ m : Nat) : Int) := by
  rw [Int.pow_mul]
  simp
theorem wrap_u64n (n : Int) : IntKind.u64.wrap n = (u64 n : Int) := by
  simp only [IntKind.wrap, IntKind.signed, IntKind.bits, u64]
  simp
  omega
set_option maxRecDepth 100000 in
set_option maxHeartbeats 1600000 in
theorem encNum_any (n : Int) (w : World) :
    Calls Tryz.prog 123 #[.int .i64 n] w fun e w' => e = .returned (.string ⟨(numL n).toArray⟩) ∧ Below w.heap.size w w' := by
  have hu := u64_bound n
  have HL := Lib.hid fun W => (Tryz.bits_Len64 (u64 n : Int) W (by omega) (by omega)).mono (R' := fun e w' => e = .returned (.int .i64 (Lib.bitLen (u64 n : Int).toNat)) ∧ W = w') fun _ _ h => ⟨h.1, h.2.symm⟩
  have hbl := wid_bits 8 (u64 n) (Nat.le_refl _) hu
  have hw := wrap_u64n n
  have hn : numL n = UInt8.ofNat (wid (u64 n)) :: beF (wid (u64 n)) (u64 n) := rfl
  have hwl := wid_le (u64 n)
  have h1 : wid (u64 n) = (Lib.bitLen (u64 n) + 7) / 8 := hbl
  have hblm : Lib.bitLen (u64 n) ≤ 1000 := by omega
  have hbl : ((Lib.bitLen (u64 n) : Int) + 7).tdiv 8 = wid (u64 n) := by
    rw [h1, Int.tdiv_eq_ediv_of_nonneg (by omega)]
    omega
  clear h1
  rw [Int.toNat_natCast] at HL
  rw [hn]
  clear hn
  generalize u64 n = u at *
  generalize Lib.bitLen u = bl at *
  generalize hwk : wid u = k at *
  have hb0 := (Below.refl w.heap.size w).alloc (Nat.le_refl _) (.cells #[.int .u8 (UInt8.ofNat k).toNat] 5)
  have hk8 : ((UInt8.ofNat k).toNat : Int) = k := by rw [UInt8.toNat_ofNat']; omega
  obtain ⟨i0, hi, hz0, hz1, hz2⟩ := info_parts byteInfo
  have Hi := Lib.hid hi
  have Hz0 := Lib.hid hz0
  have Hz1 := Lib.hid hz1
  have Hz2 := Lib.hid hz2
  clear hi hz0 hz1 hz2
  go_enter Tryz.func123, Tryz.ntmps123
  go_wp2_with fail
  refine (HL.out _).mono ?_
  rintro e w1 ⟨rfl, rfl⟩
  go_wp2_with fail
  go_loopw [4, 5] (fun va i wr => ∃ j : Nat, j ≤ k ∧ i = .int .i64 (k - 1 - j) ∧ OwnRows byteLay wr w.heap.size 5 va (UInt8.ofNat k :: (beF k u).take j) ∧ Below w.heap.size w wr) (fun _ i _ => (RowKit.intOf i + 1).toNat)
  case atStart => exact ⟨0, Nat.zero_le _, by simp, by rw [← hk8]; exact OwnRows.lit w byteLay w.heap.size w.heap.size 5 #[.int .u8 (UInt8.ofNat k).toNat] 1 [UInt8.ofNat k] rfl (Nat.le_refl _) (by decide) rfl rfl, by rw [← hk8]; exact hb0⟩
  case round =>
    obtain ⟨j, hj, rfl, hoa, hb⟩ := hrel
    by_cases hlt : j < k
    · have hst := beF_succ_take k u j hlt
      have hz : (u : Int) / 2 ^ (8 * (k - 1 - j)) % 256 = ((UInt8.ofNat (u / 256 ^ (k - 1 - j))).toNat : Int) := by
        rw [UInt8.toNat_ofNat', pow_bytes]
        norm_cast
      generalize UInt8.ofNat (u / 256 ^ (k - 1 - j)) = y at *
      have Hst := Lib.hid hst
      have hlen : (UInt8.ofNat k :: (beF k u).take j).length ≤ 100 := by rw [List.length_cons, List.length_take]; omega
      generalize (beF k u).take j = out at *
      clear hst
      go_wp2_with (at_builtin; refine wpList_append_rows _ rfl _ _ 156 rfl byteLay w.heap.size 5 i0 (.int .u8 0) 1 Tryz.underlying156 Hi.out Hz0.out Hz1.out Hz2.out rfl (by decide) _ _ rfl (hoa.alloc _) ⟨wr.heap.size, 0, none⟩ 1 y rfl (cells_new_at wr wr.heap.size #[.int .u8 y.toNat] 5 rfl) (by unfold maxLen; omega) (by omega) (by have := hb.size; simp; omega) ?_)
      intro va w4 hoa4 hg4 _
      have hb4 := (hb.alloc hb.size (.cells #[.int .u8 y.toNat] 5)).grown hg4 (by have := hb.size; simp; omega) (fun j ej => (hoa.lt ej).1)
      clear hg4 hoa
      go_wp2_with fail
      go_roundw
      case rel =>
        refine ⟨j + 1, by omega, by go_num, ?_, hb4⟩
        rw [Hst.out]
        exact hoa4
      case measure => simp [RowKit.intOf]; omega
    · obtain rfl : j = k := by omega
      rw [List.take_of_length_le (by rw [beF_len]; exact Nat.le_refl _)] at hoa
      generalize hL : UInt8.ofNat j :: beF j u = bs at *
      obtain ⟨a, cap, rfl, hra, _⟩ := hoa.read
      have hcv := conv_bytes hra cap
      go_wp2_with fail
      go_ret
      exact ⟨by rw [hL]; rfl, hb⟩
theorem textL_eq (s : ByteArray) (hs : s.size ≤ 100000000) : (⟨(textL s.data.toList).toArray⟩ : ByteArray) = (⟨(numL s.size).toArray⟩ : ByteArray) ++ s := by
  apply ba_ext
  rw [ByteArray.data_append, Array.toList_append]
  unfold textL numL
  rw [u64_nat (by omega), ← size_eq]
theorem numL_len (n : Int) : (numL n).length ≤ 9 := by
  unfold numL natL
  rw [List.length_cons, beF_len]
  have := wid_le (u64 n)
  omega
set_option maxRecDepth 100000 in
theorem encText_any (s : ByteArray) (w : World) (hs : s.size ≤ 100000000) :
    Calls Tryz.prog 124 #[.string s] w fun e w' => e = .returned (.string ⟨(textL s.data.toList).toArray⟩) ∧ Below w.heap.size w w' := by
  have HN := Lib.hid (encNum_any s.size w)
  have HT := Lib.hid (textL_eq s hs)
  have hl : (⟨(numL s.size).toArray⟩ : ByteArray).size ≤ 9 := by rw [size_eq]; exact numL_len _
  generalize hq : (⟨(numL s.size).toArray⟩ : ByteArray) = q at *
  go_enter Tryz.func124, Tryz.ntmps124
  go_wp2_with fail
  refine HN.out.mono ?_
  rintro e w1 ⟨rfl, hb⟩
  go_wp2_with fail
  go_ret
  exact ⟨by rw [HT.out]; rfl, hb⟩

theorem beF_cons : ∀ j u, beF (j + 1) u = UInt8.ofNat (u / 256 ^ j) :: beF j u
  | 0, u => by
    show [UInt8.ofNat (u % 256)] = [UInt8.ofNat (u / 256 ^ 0)]
    rw [Nat.pow_zero, Nat.div_one]
    congr 1
    apply UInt8.toNat_inj.1
    rw [UInt8.toNat_ofNat', UInt8.toNat_ofNat']
    omega
  | j + 1, u => by
    rw [beF, beF_cons j (u / 256), Nat.div_div_eq_div_mul, List.cons_append]
    have : 256 ^ (j + 1) = 256 * 256 ^ j := by rw [Nat.pow_succ, Nat.mul_comm]
    rw [this]
    rfl

set_option maxRecDepth 100000 in
set_option maxHeartbeats 1600000 in
theorem rencNum_any (n : Int) (w : World) :
    Calls Tryz.prog 101 #[.int .i64 n] w fun e w' => e = .returned (.string ⟨(numL n).toArray⟩) ∧ Below w.heap.size w w' := by
  have hu := u64_bound n
  have hw := wrap_u64n n
  have hn : numL n = natL (u64 n) := rfl
  rw [hn]
  clear hn
  generalize u64 n = u at *
  obtain ⟨i0, hi, hz0, hz1, hz2⟩ := info_parts byteInfo
  have Hi := Lib.hid hi
  have Hz0 := Lib.hid hz0
  have Hz1 := Lib.hid hz1
  have Hz2 := Lib.hid hz2
  clear hi hz0 hz1 hz2
  go_enter Tryz.func101, Tryz.ntmps101
  go_wp2_with fail
  go_loopw [3, 4] (fun q va wr => ∃ j : Nat, j ≤ 8 ∧ q = .int .u64 (u / 256 ^ j : Nat) ∧ OwnRows byteLay wr w.heap.size 5 va (beF j u) ∧ Hid (∀ i, j = i + 1 → 256 ^ i ≤ u) ∧ Below w.heap.size w wr) (fun q _ _ => (RowKit.intOf q).toNat)
  case atStart => exact ⟨0, Nat.zero_le _, by simp, OwnRows.nil _ _ _ _, Lib.hid fun i h => by omega, Below.refl _ _⟩
  case round =>
    obtain ⟨j, hj, rfl, hoa, Hj, hb⟩ := hrel
    obtain ⟨oa, oc, rfl, hra, hlc, hon, _⟩ := hoa.read_nil
    have hlen := beF_len j u
    generalize hq : u / 256 ^ j = q at *
    by_cases hlt : 0 < q
    · have hj8 : j < 8 := by
        rcases Nat.lt_or_ge j 8 with h | h
        · exact h
        · exfalso
          obtain rfl : j = 8 := by omega
          have : u / 256 ^ 8 = 0 := Nat.div_eq_of_lt hu
          omega
      have hge : 256 ^ j ≤ u := by
        rcases Nat.lt_or_ge u (256 ^ j) with h | h
        · rw [Nat.div_eq_of_lt h] at hq; omega
        · exact h
      have Hge := Lib.hid hge
      have hcons := beF_cons j u
      rw [hq] at hcons
      have Hc := Lib.hid hcons
      have hnext : u / 256 ^ (j + 1) = q / 256 := by rw [Nat.pow_succ, ← Nat.div_div_eq_div_mul, hq]
      have Hn := Lib.hid hnext
      have hz : (q : Int) % 256 = ((UInt8.ofNat q).toNat : Int) := by rw [UInt8.toNat_ofNat']; norm_cast
      have hq64 : q < 18446744073709551616 := Nat.lt_of_le_of_lt (by rw [← hq]; exact Nat.div_le_self _ _) hu
      generalize UInt8.ofNat q = y at *
      generalize beF j u = out at *
      have hs := hb.size
      clear hcons hnext hge hq
      go_wp2_with (at_builtin; refine wpList_append_rows _ rfl _ _ 156 rfl byteLay wr.heap.size 5 i0 (.int .u8 0) 1 Tryz.underlying156 Hi.out Hz0.out Hz1.out Hz2.out rfl (by decide) _ [] rfl (OwnRows.nil _ _ _ _) ⟨wr.heap.size, 0, none⟩ 1 y rfl (cells_new_at wr wr.heap.size #[.int .u8 y.toNat] 5 rfl) (by unfold maxLen; simp) (by simp) (by simp) ?_)
      intro v1 w2 ho1 hg1 _
      have hb2 : Below wr.heap.size wr w2 := ((Below.refl _ _).alloc (Nat.le_refl _) (.cells #[.int .u8 y.toNat] 5)).grown hg1 (by simp) (fun j ej => by cases ej)
      have hra2 := hra.keeps hb2
      have hs2 := hb2.size
      clear hg1 hra
      go_wp2_with (at_builtin; refine wpList_append_from _ rfl _ _ 156 rfl byteLay wr.heap.size 5 i0 (.int .u8 0) 1 Tryz.underlying156 Hi.out Hz0.out Hz1.out Hz2.out rfl (by decide) _ _ rfl ho1 oa oc j out rfl hlen hra2 hon (by unfold maxLen; simp; omega) (by simp; omega) hs2 ?_)
      intro v2 w3 ho2 hg2 _
      have hb3 := hb2.grown hg2 hs2 (fun j ej => (ho1.lt ej).1)
      have ho3 := ho2.lower hs
      have hb4 := hb.trans (hb3.mono hs)
      clear hg2 ho1 ho2
      go_wp2_with fail
      go_roundw
      case rel =>
        refine ⟨j + 1, by omega, by rw [Hn.out]; go_num, ?_, Lib.hid fun i hi => ?_, hb4⟩
        · rw [Hc.out]
          simpa using ho3
        · obtain rfl : i = j := by omega
          exact Hge.out
      case measure => simp [RowKit.intOf]; omega
    · obtain rfl : q = 0 := by omega
      have hwid : wid u = j := by
        refine wid_eq ?_ Hj.out hj
        rcases Nat.lt_or_ge u (256 ^ j) with h | h
        · exact h
        · have := (Nat.le_div_iff_mul_le (Nat.pow_pos (show 0 < 256 by omega))).2 (show 1 * 256 ^ j ≤ u by omega)
          omega
      have HL := Lib.hid (show natL u = UInt8.ofNat j :: beF j u by unfold natL; rw [hwid])
      have hz : (j : Int) = ((UInt8.ofNat j).toNat : Int) := by rw [UInt8.toNat_ofNat']; omega
      have hj256 : ((UInt8.ofNat j).toNat : Int) ≤ 8 := by omega
      have hlj : (beF j u).length = (UInt8.ofNat j).toNat := by rw [hlen]; omega
      generalize UInt8.ofNat j = y at *
      generalize beF j u = out at *
      have hs := hb.size
      rw [hlj]
      clear hwid hlen hz Hj hq hu hw
      go_wp2_with (at_builtin; refine wpList_append_rows _ rfl _ _ 156 rfl byteLay wr.heap.size 5 i0 (.int .u8 0) 1 Tryz.underlying156 Hi.out Hz0.out Hz1.out Hz2.out rfl (by decide) _ [] rfl (OwnRows.nil _ _ _ _) ⟨wr.heap.size, 0, none⟩ 1 y rfl (cells_new_at wr wr.heap.size #[.int .u8 y.toNat] 5 rfl) (by unfold maxLen; simp) (by simp) (by simp) ?_)
      intro v1 w2 ho1 hg1 _
      have hb2 : Below wr.heap.size wr w2 := ((Below.refl _ _).alloc (Nat.le_refl _) (.cells #[.int .u8 y.toNat] 5)).grown hg1 (by simp) (fun j ej => by cases ej)
      have hra2 := hra.keeps hb2
      have hs2 := hb2.size
      clear hg1 hra
      go_wp2_with (at_builtin; refine wpList_append_from _ rfl _ _ 156 rfl byteLay wr.heap.size 5 i0 (.int .u8 0) 1 Tryz.underlying156 Hi.out Hz0.out Hz1.out Hz2.out rfl (by decide) _ _ rfl ho1 oa oc y.toNat out rfl hlj hra2 hon (by unfold maxLen; simp; omega) (by simp; omega) hs2 ?_)
      intro v2 w3 ho2 hg2 _
      have hb3 := hb2.grown hg2 hs2 (fun j ej => (ho1.lt ej).1)
      have hb4 := hb.trans (hb3.mono hs)
      have ho3 : OwnRows byteLay w3 wr.heap.size 5 v2 (y :: out) := by simpa using ho2
      obtain ⟨a2, c2, rfl, hra3, _⟩ := ho3.read
      generalize hL : y :: out = bs at *
      have hcv := conv_bytes hra3 c2
      clear hg2 ho1 ho2 ho3 hlj
      go_wp2_with fail
      go_ret
      exact ⟨by rw [HL.out]; rfl, hb4⟩
set_option maxRecDepth 100000 in
theorem rencText_any (s : ByteArray) (w : World) (hs : s.size ≤ 100000000) :
    Calls Tryz.prog 102 #[.string s] w fun e w' => e = .returned (.string ⟨(textL s.data.toList).toArray⟩) ∧ Below w.heap.size w w' := by
  have HN := Lib.hid (rencNum_any s.size w)
  have HT := Lib.hid (textL_eq s hs)
  have hl : (⟨(numL s.size).toArray⟩ : ByteArray).size ≤ 9 := by rw [size_eq]; exact numL_len _
  generalize hq : (⟨(numL s.size).toArray⟩ : ByteArray) = q at *
  go_enter Tryz.func102, Tryz.ntmps102
  go_wp2_with fail
  refine HN.out.mono ?_
  rintro e w1 ⟨rfl, hb⟩
  go_wp2_with fail
  go_ret
  exact ⟨by rw [HT.out]; rfl, hb⟩
end Go.Proofs.YtgglheelhbfgiaaGreatDoor

namespace Go.Proofs.YtgglheelhbfgiaaGreatDoor
open Go Go.RowKit Go.Lib

theorem builderSize : (Tryz.prog.info? 180).map (·.size) = some 2 := by kernel_rfl
theorem builderLies : liesAt Tryz.prog Tryz.prog.depth 180 (2 / Tryz.prog.cellsOf 180) 0 180 1 = true := by kernel_rfl
theorem byteOne : (Tryz.prog.info? 5).map (fun i => (i.zero, i.size, i.bytes)) = some (some (.int .u8 0), 1, 1) := by kernel_rfl

set_option maxRecDepth 100000 in
theorem copyCheck_used (b : Nat) (w : World) (h0 : w.cell? ⟨b, 0, none⟩ = some (.pointer (some ⟨b, 0, none⟩))) :
    Calls Tryz.prog 159 #[.pointer (some ⟨b, 0, none⟩)] w fun e w' => e = .returned (.tuple #[]) ∧ w' = w := by
  obtain ⟨j, hj, _⟩ := Option.map_eq_some_iff.1 builderSize
  go_enter Tryz.func159, Tryz.ntmps159
  go_wp2
  rw [Lib.run_neq_ptr_same w _ Tryz.underlying178 hj]
  go_wp2
  go_end0
  exact ⟨rfl, rfl⟩

set_option maxRecDepth 100000 in
theorem copyCheck_fresh (b : Nat) (w : World) (h0 : w.cell? ⟨b, 0, none⟩ = some (.pointer none)) (hsh : w.shape? b = some (180, 2)) (hfz : w.frozen? ⟨b, 0, none⟩ = false) :
    Calls Tryz.prog 159 #[.pointer (some ⟨b, 0, none⟩)] w fun e w' => e = .returned (.tuple #[]) ∧ w' = w.setCell ⟨b, 0, none⟩ (.pointer (some ⟨b, 0, none⟩)) := by
  obtain ⟨j, hj, hjs⟩ := Option.map_eq_some_iff.1 builderSize
  go_enter Tryz.func159, Tryz.ntmps159
  go_wp2
  rw [Lib.run_to_unsafe w ⟨b, 0, none⟩ Tryz.underlying178 Tryz.underlying243 hj (by rw [hjs]; decide) hsh (Nat.zero_lt_succ 1)]
  simp only [Result.andThen]
  rw [Oper.upon_value]
  go_wp2
  rw [run_callFunc_extern Tryz.func181 (by kernel_rfl) (by kernel_rfl) (by kernel_rfl) (e := Extern.AbiNoEscape.same) (by kernel_rfl)]
  rw [Lib.run_noEscape]
  simp only [Result.andThen]
  rw [Oper.upon_value]
  go_wp2
  rw [Lib.run_from_unsafe w ⟨b, 0, none⟩ Tryz.underlying243 Tryz.underlying178 hj hsh builderLies]
  simp only [Result.andThen]
  rw [Oper.upon_value]
  go_wp2
  go_end0
  exact ⟨rfl, rfl⟩

theorem copyCheck_any (B b : Nat) (bs : List Value) (w : World) (h : Lib.IsBuilder 180 5 B b bs w) :
    Calls Tryz.prog 159 #[.pointer (some ⟨b, 0, none⟩)] w fun e w' => e = .returned (.tuple #[]) ∧ (Lib.BuilderAt 180 5 B b (.pointer (some ⟨b, 0, none⟩)) bs w' ∧ Below B w w' ∧ Lib.OthersKept 5 (some b) w w') := by
  rcases h with h | h
  · refine (copyCheck_fresh b w h.cell0 h.shape h.frozen0).mono ?_
    rintro e w' ⟨rfl, rfl⟩
    exact ⟨rfl, h.used _, (Below.refl B w).setCell (p := ⟨b, 0, none⟩) h.1 _, (Lib.OthersKept.refl _ _ _).setCell ⟨b, 0, none⟩ rfl _⟩
  · refine (copyCheck_used b w h.cell0).mono ?_
    rintro e w' ⟨rfl, rfl⟩
    exact ⟨rfl, h, Below.refl B _, Lib.OthersKept.refl _ _ _⟩

set_option maxHeartbeats 2000000 in
set_option maxRecDepth 100000 in
theorem bwrite_any (B b : Nat) (bs : List Value) (s : ByteArray) (w : World) (h : Lib.IsBuilder 180 5 B b bs w) (hlen : bs.length + s.size ≤ 140737488355328) (hBw : B ≤ w.heap.size) :
    Calls Tryz.prog 133 #[.pointer (some ⟨b, 0, none⟩), .string s] w fun e w' => e = .returned (.tuple #[.int .i64 s.size, .nilIface]) ∧ (Lib.BuilderAt 180 5 B b (.pointer (some ⟨b, 0, none⟩)) (bs ++ Lib.strCells s) w' ∧ Below B w w' ∧ Lib.OthersKept 5 (some b) w w') := by
  obtain ⟨i0, hi, hz0, hz1, hz2⟩ := info_parts byteOne
  have HC := Lib.hid fun W (h : Lib.IsBuilder 180 5 B b bs W) => copyCheck_any B b bs W h
  go_enter Tryz.func133, Tryz.ntmps133
  go_wp2_with fail
  refine (HC.out _ h).mono ?_
  rintro e w1 ⟨rfl, h1, hb1, hk1⟩
  obtain ⟨hB, v, hbk, hown, hne⟩ := h1
  have c0 : w1.cell? ⟨b, 0, none⟩ = some (.pointer (some ⟨b, 0, none⟩)) := by rw [Lib.cell_of_heap hbk]; rfl
  have c1 : w1.cell? ⟨b, 1, none⟩ = some v := by rw [Lib.cell_of_heap hbk]; rfl
  go_wp2_with (at_builtin; refine Lib.wpList_append_own_string _ rfl _ _ 156 9 rfl B 5 i0 Tryz.underlying156 Tryz.underlying9 hi hz0 hz1 hz2 _ _ _ rfl hown s rfl ?c3 ?c4 ?c5 ?_)
  case c3 => unfold maxLen; omega
  case c4 => omega
  case c5 => have := hb1.size; omega
  intro v' w2 hown' hgrow _
  have hlt : b < w1.heap.size := by
    rcases Nat.lt_or_ge b w1.heap.size with h' | h'
    · exact h'
    · simp [Array.getElem?_eq_none h'] at hbk
  have hb2 : w2.heap[b]? = some (.cells #[.pointer (some ⟨b, 0, none⟩), v] 180 (0, 0)) := by
    rw [hgrow.block b hlt (fun e => hne e.symm)]
    exact hbk
  have d0 : w2.cell? ⟨b, 0, none⟩ = some (.pointer (some ⟨b, 0, none⟩)) := by rw [Lib.cell_of_heap hb2]; rfl
  have d1 : w2.cell? ⟨b, 1, none⟩ = some v := by rw [Lib.cell_of_heap hb2]; rfl
  have f1 : w2.frozen? ⟨b, 1, none⟩ = false := Lib.frozen_of_heap hb2 1
  obtain ⟨ao, n', cap, rfl⟩ : ∃ ao n' cap, v' = .slice ao n' cap := by
    rcases hown'.2 with ⟨hv, _⟩ | ⟨g, cap, cur, hv, _⟩
    · exact ⟨_, _, _, hv⟩
    · exact ⟨_, _, _, hv⟩
  go_wp2_with fail
  go_ret2
  refine ⟨rfl, ?_, ?_, (hk1.grown hgrow (Lib.ownsRowF_kind (World.ownsRowF_of hown))).setCell ⟨b, 1, none⟩ rfl _⟩
  · exact Lib.BuilderAt.put (T := 180) (e := 5) hB hb2 (bs' := bs ++ Lib.strCells s) (by simpa [Lib.strCells_length] using hown') (by decide)
  · exact (hb1.grown hgrow (by have := hb1.size; omega) (fun k hk => (hown.lt k hk).1)).setCell (p := ⟨b, 1, none⟩) hB _
theorem builder_far {T e : TypeId} {B b : Nat} {bs : List Value} {w w' : World} (h : Lib.IsBuilder T e B b bs w) (hb : Below w.heap.size w w') : Lib.IsBuilder T e B b bs w' := by
  have key : ∀ p, Lib.BuilderAt T e B b p bs w → Lib.BuilderAt T e B b p bs w' := by
    rintro p ⟨hB, v, hbk, hown, hne⟩
    refine ⟨hB, v, ?_, ⟨hown.1, ?_⟩, hne⟩
    · rw [hb.block b (Array.getElem?_eq_some_iff.1 hbk).1]
      exact hbk
    · rcases hown.2 with hn | ⟨g, cap, cur, rfl, hg, hgg, rest⟩
      · exact .inl hn
      · refine .inr ⟨g, cap, cur, rfl, hg, ?_, rest⟩
        rw [hb.block g (Array.getElem?_eq_some_iff.1 hgg).1]
        exact hgg
  rcases h with h | h
  · exact .inl (key _ h)
  · exact .inr (key _ h)
theorem strCells_bytes (s : ByteArray) : Lib.strCells s = Lib.byteCells s.data.toList := rfl
theorem byteCells_append (a b : List UInt8) : Lib.byteCells a ++ Lib.byteCells b = Lib.byteCells (a ++ b) := by simp [Lib.byteCells]
end Go.Proofs.YtgglheelhbfgiaaGreatDoor

namespace Go.Proofs.YtgglheelhbfgiaaGreatDoor
open Go Go.RowKit Go.Lib

/-! ### An operation as bytes -/
def dirO (d : Bool) : Int := if d then 1 else 0
def numsO (x : Opr) : List Int := [x.cnt, x.who, x.seq, x.kind, x.nc, x.nw, dirO x.dir, x.pc, x.pw]
def flatN (l : List Int) : List UInt8 := l.flatMap numL
def encL (x : Opr) : List UInt8 := flatN (numsO x) ++ textL x.name.data.toList ++ textL x.man.data.toList
def encB (x : Opr) : ByteArray := if rightO x = 0 then ⟨(encL x).toArray⟩ else ⟨#[]⟩
theorem flatN_step {l : List Int} {k : Nat} {n : Int} (h : l[k]? = some n) : flatN (l.take (k + 1)) = flatN (l.take k) ++ numL n := by
  unfold flatN
  rw [List.take_add_one, h, List.flatMap_append]
  simp
theorem flatN_len (l : List Int) : (flatN l).length ≤ 9 * l.length := by
  induction l with
  | nil => simp [flatN]
  | cons n l ih =>
    have := numL_len n
    unfold flatN at *
    rw [List.flatMap_cons, List.length_append, List.length_cons]
    omega
theorem builderF_far {T e : TypeId} {B b : Nat} {bs : List Value} {w w' : World} (h : Lib.IsBuilderF T e B b bs w) (hb : Below w.heap.size w w') : Lib.IsBuilderF T e B b bs w' := by
  have key : ∀ p, Lib.BuilderAtF T e B b p bs w → Lib.BuilderAtF T e B b p bs w' := by
    rintro p ⟨hB, v, hbk, hown, hne⟩
    refine ⟨hB, v, ?_, ⟨hown.1, ?_⟩, hne⟩
    · rw [hb.block b (Array.getElem?_eq_some_iff.1 hbk).1]
      exact hbk
    · rcases hown.2 with hn | ⟨g, cap, cur, fz, rfl, hg, hgg, rest⟩
      · exact .inl hn
      · refine .inr ⟨g, cap, cur, fz, rfl, hg, ?_, rest⟩
        rw [hb.block g (Array.getElem?_eq_some_iff.1 hgg).1]
        exact hgg
  rcases h with h | h
  · exact .inl (key _ h)
  · exact .inr (key _ h)
theorem keepE {W w1 w2 : World} {B bx : Nat} {n m : Value} {T e : TypeId} {l : List Value} (hb : Below B W w1) (h : Below B w1 w2) (c9 : w1.cell? ⟨bx, 9, none⟩ = some n) (c10 : w1.cell? ⟨bx, 10, none⟩ = some m) (lt : bx < B) (hf : Lib.IsBuilderF T e B B l w2) :
    Below B W w2 ∧ w2.cell? ⟨bx, 9, none⟩ = some n ∧ w2.cell? ⟨bx, 10, none⟩ = some m ∧ Lib.IsBuilderF T e B B l w2 :=
  ⟨hb.trans h, (h.cell (p := ⟨bx, 9, none⟩) lt).trans c9, (h.cell (p := ⟨bx, 10, none⟩) lt).trans c10, hf⟩
theorem keepE2 {W w1 w2 : World} {bx : Nat} {n m : Value} {T e : TypeId} {l : List Value} (hb : Below W.heap.size W w1) (h : Below w1.heap.size w1 w2) (c9 : w1.cell? ⟨bx, 9, none⟩ = some n) (c10 : w1.cell? ⟨bx, 10, none⟩ = some m) (lt : bx < W.heap.size) (hf : Lib.IsBuilderF T e W.heap.size W.heap.size l w1) :
    Below W.heap.size W w2 ∧ w2.cell? ⟨bx, 9, none⟩ = some n ∧ w2.cell? ⟨bx, 10, none⟩ = some m ∧ Lib.IsBuilderF T e W.heap.size W.heap.size l w2 :=
  keepE hb (h.mono hb.size) c9 c10 lt (builderF_far hf h)
theorem encL_ba (x : Opr) : (⟨(encL x).toArray⟩ : ByteArray) = ⟨(flatN (numsO x)).toArray⟩ ++ ⟨(textL x.name.data.toList).toArray⟩ ++ ⟨(textL x.man.data.toList).toArray⟩ := by
  apply ba_ext
  rw [ByteArray.data_append, ByteArray.data_append, Array.toList_append, Array.toList_append]
  rfl
theorem textL_len (s : ByteArray) (hs : s.size ≤ 100000) : (⟨(textL s.data.toList).toArray⟩ : ByteArray).size ≤ 9 + s.size := by
  rw [textL_eq s (by omega), ByteArray.size_append]
  have : (⟨(numL s.size).toArray⟩ : ByteArray).size ≤ 9 := by rw [size_eq]; exact numL_len _
  omega


set_option maxRecDepth 100000 in
set_option maxHeartbeats 6400000 in
theorem encode_any (x : Opr) (w : World) (hn : x.name.size ≤ 100000) (hm : x.man.size ≤ 100000) :
    Calls Tryz.prog 110 #[.agg #[.int .i64 x.cnt, .int .i64 x.who, .int .i64 x.seq, .int .i64 x.kind, .int .i64 x.nc, .int .i64 x.nw, .bool x.dir, .int .i64 x.pc, .int .i64 x.pw, .string x.name, .string x.man]] w fun e w' => e = .returned (.tuple #[.string (encB x), .int .i64 (rightO x)]) ∧ Below w.heap.size w w' := by
  have HR := Lib.hid fun W => oright_any x W hn hm
  have HB := Lib.hid (encL_ba x)
  have HE := Lib.hid (show encB x = if rightO x = 0 then ⟨(encL x).toArray⟩ else ⟨#[]⟩ from rfl)
  have HN := Lib.hid fun W => encText_any x.name W (by omega)
  have HM := Lib.hid fun W => encText_any x.man W (by omega)
  have hq2 := textL_len x.name hn
  have hq3 := textL_len x.man hm
  have hq1 : (⟨(flatN (numsO x)).toArray⟩ : ByteArray).size ≤ 81 := by rw [size_eq]; exact flatN_len _
  have hnl : (numsO x).length = 9 := rfl
  have hns : numsO x = [x.cnt, x.who, x.seq, x.kind, x.nc, x.nw, dirO x.dir, x.pc, x.pw] := rfl
  obtain ⟨cnt, who, seq, kind, nc, nw, dir, pc, pw, name, man⟩ := x
  dsimp only at hn hm HN HM HR hq2 hq3 hns ⊢
  have hbx : Below w.heap.size w (w.alloc (.cells #[.int .i64 cnt, .int .i64 who, .int .i64 seq, .int .i64 kind, .int .i64 nc, .int .i64 nw, .bool dir, .int .i64 pc, .int .i64 pw, .string name, .string man] 66)) := (Below.refl _ _).alloc (Nat.le_refl _) _
  generalize numsO _ = ns at *
  generalize rightO _ = ro at *
  generalize encL _ = el at *
  generalize encB _ = eb at *
  generalize (⟨(textL name.data.toList).toArray⟩ : ByteArray) = q2 at *
  generalize (⟨(textL man.data.toList).toArray⟩ : ByteArray) = q3 at *
  by_cases hro : ro = 0
  · subst hro
    cases dir with
    | false =>
      go_enter Tryz.func110, Tryz.ntmps110
      go_wp2_with fail
      refine (HR.out _).mono ?_
      rintro e w1 ⟨rfl, hb1⟩
      have hc1 := hbx.trans (hb1.mono hbx.size)
      have hl1 : w.heap.size < w1.heap.size := Nat.lt_of_lt_of_le (by simp) hb1.size
      have x0 := hb1.cell (p := ⟨w.heap.size, 0, none⟩) (by simp)
      have x1 := hb1.cell (p := ⟨w.heap.size, 1, none⟩) (by simp)
      have x2 := hb1.cell (p := ⟨w.heap.size, 2, none⟩) (by simp)
      have x3 := hb1.cell (p := ⟨w.heap.size, 3, none⟩) (by simp)
      have x4 := hb1.cell (p := ⟨w.heap.size, 4, none⟩) (by simp)
      have x5 := hb1.cell (p := ⟨w.heap.size, 5, none⟩) (by simp)
      have x6 := hb1.cell (p := ⟨w.heap.size, 6, none⟩) (by simp)
      have x7 := hb1.cell (p := ⟨w.heap.size, 7, none⟩) (by simp)
      have x8 := hb1.cell (p := ⟨w.heap.size, 8, none⟩) (by simp)
      have x9 := hb1.cell (p := ⟨w.heap.size, 9, none⟩) (by simp)
      have x10 := hb1.cell (p := ⟨w.heap.size, 10, none⟩) (by simp)
      replace hns : ns = [cnt, who, seq, kind, nc, nw, 0, pc, pw] := hns
      go_wp2_with fail
      go_loopw [8, 41] (fun _ i wr => ∃ k : Nat, k ≤ 9 ∧ i = .int .i64 k ∧ Lib.IsBuilder 180 5 w1.heap.size w1.heap.size (Lib.byteCells (flatN (ns.take k))) wr ∧ wr.heap[w1.heap.size + 1]? = some (.cells #[.int .i64 cnt, .int .i64 who, .int .i64 seq, .int .i64 kind, .int .i64 nc, .int .i64 nw, .int .i64 0, .int .i64 pc, .int .i64 pw] 3 (0, 0)) ∧ Below w1.heap.size w1 wr ∧ w1.heap.size + 2 ≤ wr.heap.size) (fun _ i _ => 9 - (RowKit.intOf i).toNat)
      case atStart => exact ⟨0, Nat.zero_le _, rfl, builder_far (Lib.fresh_isBuilder _ _ w1) ((Below.refl _ _).alloc (Nat.le_refl _) _), by rw [show w1.heap.size + 1 = (w1.alloc (.cells #[.pointer none, .slice none 0 0] 180)).heap.size by simp]; exact heap_alloc_new _ _, ((Below.refl _ _).alloc (Nat.le_refl _) _).alloc (by simp) _, by simp⟩
      case round =>
        obtain ⟨k, hk, rfl, hbu, hs, hbw, hsz⟩ := hrel
        by_cases hlt : k < 9
        · obtain ⟨n, hn⟩ : ∃ n, ns[k]? = some n := at_some (by rw [hnl]; exact hlt)
          have hc : wr.cell? ⟨w1.heap.size + 1, k, none⟩ = some (.int .i64 n) := by
            rw [Lib.cell_of_heap hs]
            have : (#[.int .i64 cnt, .int .i64 who, .int .i64 seq, .int .i64 kind, .int .i64 nc, .int .i64 nw, .int .i64 0, .int .i64 pc, .int .i64 pw] : Array Value) = (ns.map (Value.int .i64)).toArray := by rw [hns]; rfl
            rw [this]
            simp [hn]
          have Hst := Lib.hid (flatN_step hn)
          have hq : (⟨(numL n).toArray⟩ : ByteArray).size ≤ 9 := by rw [size_eq]; exact numL_len _
          have Hfl := Lib.hid (show (flatN (ns.take k)).length ≤ 81 from Nat.le_trans (flatN_len _) (by rw [List.length_take, hnl]; omega))
          have Hqs := Lib.hid (show Lib.strCells ⟨(numL n).toArray⟩ = Lib.byteCells (numL n) from rfl)
          have HE := Lib.hid (encNum_any n wr)
          clear hn
          generalize (⟨(numL n).toArray⟩ : ByteArray) = q at *
          go_wp2_with fail
          refine HE.out.mono ?_
          rintro e w2 ⟨rfl, hb2⟩
          have hs2 := hb2.size
          have hbu2 := builder_far hbu hb2
          have hsl : w2.heap[w1.heap.size + 1]? = some (.cells #[.int .i64 cnt, .int .i64 who, .int .i64 seq, .int .i64 kind, .int .i64 nc, .int .i64 nw, .int .i64 0, .int .i64 pc, .int .i64 pw] 3 (0, 0)) := by rw [hb2.block _ (by omega)]; exact hs
          have hbw2 := hbw.trans (hb2.mono hbw.size)
          go_wp2_with fail
          refine (bwrite_any w1.heap.size w1.heap.size _ q w2 hbu2 (by have := Hfl.out; rw [Lib.byteCells_length]; omega) (by omega)).mono ?_
          rintro e w3 ⟨rfl, hbu3, hb3, hk3⟩
          have hs3 := hb3.size
          have hsl3 := hk3 _ _ hsl (by simp) (by intro c fz h; simp at h)
          have hbw3 := hbw2.trans hb3
          go_wp2_with fail
          go_roundw
          case rel =>
            refine ⟨k + 1, by omega, by go_num, ?_, hsl3, hbw3, by omega⟩
            rw [Hst.out, ← byteCells_append, ← Hqs.out]
            exact .inr hbu3
          case measure => simp [RowKit.intOf]; omega
        · obtain rfl : k = 9 := by omega
          rw [show ns.take 9 = ns from List.take_of_length_le (Nat.le_of_eq hnl)] at hbu
          have hf := Lib.IsBuilderF.of hbu
          have y9 : wr.cell? ⟨w.heap.size, 9, none⟩ = some (.string name) := ((hbw.cell (p := ⟨w.heap.size, 9, none⟩) (by omega)).trans x9).trans (by simp)
          have y10 : wr.cell? ⟨w.heap.size, 10, none⟩ = some (.string man) := ((hbw.cell (p := ⟨w.heap.size, 10, none⟩) (by omega)).trans x10).trans (by simp)
          have hlb : w.heap.size < w1.heap.size := hl1
          clear hbu hs
          go_wp2_with fail
      
          have HS := Lib.hid fun W h hB => Tryz.Builder_String_any_f w1.heap.size w1.heap.size (flatN ns) W h hB
          generalize (⟨(flatN ns).toArray⟩ : ByteArray) = q1 at *
          have hA1 : ¬ (q1.size + q2.size > 9223372036854775807) := by omega
          have hA2 : q1.size + q2.size ≤ 9223372036854775807 := by omega
          have hA3 : ¬ (q1.size + q2.size + q3.size > 9223372036854775807) := by omega
          have hA4 : q1.size + q2.size + q3.size ≤ 9223372036854775807 := by omega
          have hkk : Lib.IsBuilderF 180 5 w1.heap.size w1.heap.size (Lib.byteCells (flatN ns)) wr.drew := builderF_far hf (Below.refl wr.heap.size wr).drew
          have hkd : Below w1.heap.size w1 wr.drew := hbw.drew
          have hkc : Below w1.heap.size w1 wr.drew ∧ wr.drew.cell? ⟨w.heap.size, 9, none⟩ = some (.string name) ∧ wr.drew.cell? ⟨w.heap.size, 10, none⟩ = some (.string man) ∧ Lib.IsBuilderF 180 5 w1.heap.size w1.heap.size (Lib.byteCells (flatN ns)) wr.drew := ⟨hkd, y9, y10, hkk⟩
          go_region_held3 (fun w' => Below w1.heap.size w1 w' ∧ w'.cell? ⟨w.heap.size, 9, none⟩ = some (.string name) ∧ w'.cell? ⟨w.heap.size, 10, none⟩ = some (.string man) ∧ Lib.IsBuilderF 180 5 w1.heap.size w1.heap.size (Lib.byteCells (flatN ns)) w')
            (first | exact hkc | (go_split_ands; first | exact keepE (by assumption) hbl (by assumption) (by assumption) hlb hkb | exact keepE2 (by assumption) hbl (by assumption) (by assumption) hlb (by assumption)) | go_keep)
            (first | (go_at_call 135; go_split_ands; refine (HS.out _ (by assumption) (Below.size (by assumption))).mono ?_; rintro e w' ⟨rfl, hkb, hbl⟩) | (go_at_call_of 124 (Value.string name); refine (HN.out _).mono ?_; rintro e w' ⟨rfl, hbl⟩) | (go_at_call_of 124 (Value.string man); refine (HM.out _).mono ?_; rintro e w' ⟨rfl, hbl⟩))
          rename_i hH
          obtain ⟨hbz, -, -, -⟩ := hH
          go_wp2_with fail
          go_ret2
          refine ⟨?_, hc1.trans (hbz.mono hc1.size)⟩
          have hr : eb = q1 ++ q2 ++ q3 := HE.out.trans ((if_pos (by trivial)).trans HB.out)
          rw [hr]
          rfl
    | true =>
      go_enter Tryz.func110, Tryz.ntmps110
      go_wp2_with fail
      refine (HR.out _).mono ?_
      rintro e w1 ⟨rfl, hb1⟩
      have hc1 := hbx.trans (hb1.mono hbx.size)
      have hl1 : w.heap.size < w1.heap.size := Nat.lt_of_lt_of_le (by simp) hb1.size
      have x0 := hb1.cell (p := ⟨w.heap.size, 0, none⟩) (by simp)
      have x1 := hb1.cell (p := ⟨w.heap.size, 1, none⟩) (by simp)
      have x2 := hb1.cell (p := ⟨w.heap.size, 2, none⟩) (by simp)
      have x3 := hb1.cell (p := ⟨w.heap.size, 3, none⟩) (by simp)
      have x4 := hb1.cell (p := ⟨w.heap.size, 4, none⟩) (by simp)
      have x5 := hb1.cell (p := ⟨w.heap.size, 5, none⟩) (by simp)
      have x6 := hb1.cell (p := ⟨w.heap.size, 6, none⟩) (by simp)
      have x7 := hb1.cell (p := ⟨w.heap.size, 7, none⟩) (by simp)
      have x8 := hb1.cell (p := ⟨w.heap.size, 8, none⟩) (by simp)
      have x9 := hb1.cell (p := ⟨w.heap.size, 9, none⟩) (by simp)
      have x10 := hb1.cell (p := ⟨w.heap.size, 10, none⟩) (by simp)
      replace hns : ns = [cnt, who, seq, kind, nc, nw, 1, pc, pw] := hns
      go_wp2_with fail
      go_loopw [8, 41] (fun _ i wr => ∃ k : Nat, k ≤ 9 ∧ i = .int .i64 k ∧ Lib.IsBuilder 180 5 w1.heap.size w1.heap.size (Lib.byteCells (flatN (ns.take k))) wr ∧ wr.heap[w1.heap.size + 1]? = some (.cells #[.int .i64 cnt, .int .i64 who, .int .i64 seq, .int .i64 kind, .int .i64 nc, .int .i64 nw, .int .i64 1, .int .i64 pc, .int .i64 pw] 3 (0, 0)) ∧ Below w1.heap.size w1 wr ∧ w1.heap.size + 2 ≤ wr.heap.size) (fun _ i _ => 9 - (RowKit.intOf i).toNat)
      case atStart => exact ⟨0, Nat.zero_le _, rfl, builder_far (Lib.fresh_isBuilder _ _ w1) ((Below.refl _ _).alloc (Nat.le_refl _) _), by rw [show w1.heap.size + 1 = (w1.alloc (.cells #[.pointer none, .slice none 0 0] 180)).heap.size by simp]; exact heap_alloc_new _ _, ((Below.refl _ _).alloc (Nat.le_refl _) _).alloc (by simp) _, by simp⟩
      case round =>
        obtain ⟨k, hk, rfl, hbu, hs, hbw, hsz⟩ := hrel
        by_cases hlt : k < 9
        · obtain ⟨n, hn⟩ : ∃ n, ns[k]? = some n := at_some (by rw [hnl]; exact hlt)
          have hc : wr.cell? ⟨w1.heap.size + 1, k, none⟩ = some (.int .i64 n) := by
            rw [Lib.cell_of_heap hs]
            have : (#[.int .i64 cnt, .int .i64 who, .int .i64 seq, .int .i64 kind, .int .i64 nc, .int .i64 nw, .int .i64 1, .int .i64 pc, .int .i64 pw] : Array Value) = (ns.map (Value.int .i64)).toArray := by rw [hns]; rfl
            rw [this]
            simp [hn]
          have Hst := Lib.hid (flatN_step hn)
          have hq : (⟨(numL n).toArray⟩ : ByteArray).size ≤ 9 := by rw [size_eq]; exact numL_len _
          have Hfl := Lib.hid (show (flatN (ns.take k)).length ≤ 81 from Nat.le_trans (flatN_len _) (by rw [List.length_take, hnl]; omega))
          have Hqs := Lib.hid (show Lib.strCells ⟨(numL n).toArray⟩ = Lib.byteCells (numL n) from rfl)
          have HE := Lib.hid (encNum_any n wr)
          clear hn
          generalize (⟨(numL n).toArray⟩ : ByteArray) = q at *
          go_wp2_with fail
          refine HE.out.mono ?_
          rintro e w2 ⟨rfl, hb2⟩
          have hs2 := hb2.size
          have hbu2 := builder_far hbu hb2
          have hsl : w2.heap[w1.heap.size + 1]? = some (.cells #[.int .i64 cnt, .int .i64 who, .int .i64 seq, .int .i64 kind, .int .i64 nc, .int .i64 nw, .int .i64 1, .int .i64 pc, .int .i64 pw] 3 (0, 0)) := by rw [hb2.block _ (by omega)]; exact hs
          have hbw2 := hbw.trans (hb2.mono hbw.size)
          go_wp2_with fail
          refine (bwrite_any w1.heap.size w1.heap.size _ q w2 hbu2 (by have := Hfl.out; rw [Lib.byteCells_length]; omega) (by omega)).mono ?_
          rintro e w3 ⟨rfl, hbu3, hb3, hk3⟩
          have hs3 := hb3.size
          have hsl3 := hk3 _ _ hsl (by simp) (by intro c fz h; simp at h)
          have hbw3 := hbw2.trans hb3
          go_wp2_with fail
          go_roundw
          case rel =>
            refine ⟨k + 1, by omega, by go_num, ?_, hsl3, hbw3, by omega⟩
            rw [Hst.out, ← byteCells_append, ← Hqs.out]
            exact .inr hbu3
          case measure => simp [RowKit.intOf]; omega
        · obtain rfl : k = 9 := by omega
          rw [show ns.take 9 = ns from List.take_of_length_le (Nat.le_of_eq hnl)] at hbu
          have hf := Lib.IsBuilderF.of hbu
          have y9 : wr.cell? ⟨w.heap.size, 9, none⟩ = some (.string name) := ((hbw.cell (p := ⟨w.heap.size, 9, none⟩) (by omega)).trans x9).trans (by simp)
          have y10 : wr.cell? ⟨w.heap.size, 10, none⟩ = some (.string man) := ((hbw.cell (p := ⟨w.heap.size, 10, none⟩) (by omega)).trans x10).trans (by simp)
          have hlb : w.heap.size < w1.heap.size := hl1
          clear hbu hs
          go_wp2_with fail
      
          have HS := Lib.hid fun W h hB => Tryz.Builder_String_any_f w1.heap.size w1.heap.size (flatN ns) W h hB
          generalize (⟨(flatN ns).toArray⟩ : ByteArray) = q1 at *
          have hA1 : ¬ (q1.size + q2.size > 9223372036854775807) := by omega
          have hA2 : q1.size + q2.size ≤ 9223372036854775807 := by omega
          have hA3 : ¬ (q1.size + q2.size + q3.size > 9223372036854775807) := by omega
          have hA4 : q1.size + q2.size + q3.size ≤ 9223372036854775807 := by omega
          have hkk : Lib.IsBuilderF 180 5 w1.heap.size w1.heap.size (Lib.byteCells (flatN ns)) wr.drew := builderF_far hf (Below.refl wr.heap.size wr).drew
          have hkd : Below w1.heap.size w1 wr.drew := hbw.drew
          have hkc : Below w1.heap.size w1 wr.drew ∧ wr.drew.cell? ⟨w.heap.size, 9, none⟩ = some (.string name) ∧ wr.drew.cell? ⟨w.heap.size, 10, none⟩ = some (.string man) ∧ Lib.IsBuilderF 180 5 w1.heap.size w1.heap.size (Lib.byteCells (flatN ns)) wr.drew := ⟨hkd, y9, y10, hkk⟩
          go_region_held3 (fun w' => Below w1.heap.size w1 w' ∧ w'.cell? ⟨w.heap.size, 9, none⟩ = some (.string name) ∧ w'.cell? ⟨w.heap.size, 10, none⟩ = some (.string man) ∧ Lib.IsBuilderF 180 5 w1.heap.size w1.heap.size (Lib.byteCells (flatN ns)) w')
            (first | exact hkc | (go_split_ands; first | exact keepE (by assumption) hbl (by assumption) (by assumption) hlb hkb | exact keepE2 (by assumption) hbl (by assumption) (by assumption) hlb (by assumption)) | go_keep)
            (first | (go_at_call 135; go_split_ands; refine (HS.out _ (by assumption) (Below.size (by assumption))).mono ?_; rintro e w' ⟨rfl, hkb, hbl⟩) | (go_at_call_of 124 (Value.string name); refine (HN.out _).mono ?_; rintro e w' ⟨rfl, hbl⟩) | (go_at_call_of 124 (Value.string man); refine (HM.out _).mono ?_; rintro e w' ⟨rfl, hbl⟩))
          rename_i hH
          obtain ⟨hbz, -, -, -⟩ := hH
          go_wp2_with fail
          go_ret2
          refine ⟨?_, hc1.trans (hbz.mono hc1.size)⟩
          have hr : eb = q1 ++ q2 ++ q3 := HE.out.trans ((if_pos (by trivial)).trans HB.out)
          rw [hr]
          rfl
  · have hr := HE.out
    rw [if_neg hro] at hr
    have e1 : (ro != 0) = true := by rw [bne_iff_ne]; exact hro
    go_enter Tryz.func110, Tryz.ntmps110
    go_wp2_with fail
    refine (HR.out _).mono ?_
    rintro e w1 ⟨rfl, hb1⟩
    have hc1 := hbx.trans (hb1.mono hbx.size)
    go_wp2_with fail
    go_ret2
    exact ⟨by rw [hr]; rfl, hc1⟩
end Go.Proofs.YtgglheelhbfgiaaGreatDoor

