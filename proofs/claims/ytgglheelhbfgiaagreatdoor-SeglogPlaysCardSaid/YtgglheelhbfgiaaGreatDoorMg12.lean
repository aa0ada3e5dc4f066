/-
  seglog: name, frame, right, first. seglog: first. seglog: scan.
-/
import Derived.Test.YtgglheelhbfgiaaGreatDoorMg11
import Derived.Lib.BitFns
import Derived.Test.YtgglheelhbfgiaaGreatDoorMg10
import Derived.Test.YtgglheelhbfgiaaGreatDoorMg6
import Derived.Test.YtgglheelhbfgiaaGreatDoorMg7
namespace Go.Proofs.YtgglheelhbfgiaaGreatDoor
open Go Go.RowKit Go.Lib

theorem wid_bits : ∀ f u, f ≤ 8 → u < 256 ^ f → widF f u = (Lib.bitLen u + 7) / 8
  | 0, u, _, h => by
    have : u = 0 := by simpa using h
    subst this
    rfl
  | f + 1, u, hf, h => by
    have hu : u < 18446744073709551616 := Nat.lt_of_lt_of_le h (Nat.pow_le_pow_right (n := 256) (by omega) hf)
    unfold widF
    split
    · rename_i h0; subst h0; rfl
    · rename_i h0
      by_cases h256 : 256 ≤ u
      · rw [bitLen_shift8 u h256 hu, wid_bits f (u / 256) (by omega) (by rw [Nat.pow_succ] at h; omega)]
        omega
      · have e : u / 256 = 0 := by omega
        rw [e, wid_bits f 0 (by omega) (Nat.pow_pos (by omega))]
        have h1 : Lib.bitLen u ≤ 8 := Lib.bitLen_le8 ⟨u, by omega⟩
        have h2 := Lib.bitLen_half u h0 hu
        have h3 : Lib.bitLen 0 = 0 := rfl
        rw [h3]
        omega
theorem pow_bytes (m : Nat) : (2 : Int) ^ (8 * m) = ((256 ^ m : Nat) : Int) := by
  rw [Int.pow_mul]
  simp
theorem wrap_u64n (n : Int) : IntKind.u64.wrap n = (u64 n : Int) := by
  simp only [IntKind.wrap, IntKind.signed, IntKind.bits, u64]
  simp
  omega
set_option maxRecDepth 100000 in
set_option maxHeartbeats 1600000 in
theorem encNum_any (n : Int) (w : World) :
    Calls Tryz.prog 123 #[.int .i64 n] w fun e w' => e = .returned (.string ⟨(numL n).toArray⟩) ∧ Below w.heap.size w w' := by
  have hu := u64_bound n
  have HL := Lib.hid fun W => (Tryz.bits_Len64 (u64 n : Int) W (by omega) (by omega)).mono (R' := fun e w' => e = .returned (.int .i64 (Lib.bitLen (u64 n : Int).toNat)) ∧ W = w') fun _ _ h => ⟨h.1, h.2.symm⟩
  have hbl := wid_bits 8 (u64 n) (Nat.le_refl _) hu
  have hw := wrap_u64n n
  have hn : numL n = UInt8.ofNat (wid (u64 n)) :: beF (wid (u64 n)) (u64 n) := rfl
  have hwl := wid_le (u64 n)
  have h1 : wid (u64 n) = (Lib.bitLen (u64 n) + 7) / 8 := hbl
  have hblm : Lib.bitLen (u64 n) ≤ 1000 := by omega
  have hbl : ((Lib.bitLen (u64 n) : Int) + 7).tdiv 8 = wid (u64 n) := by
    rw [h1, Int.tdiv_eq_ediv_of_nonneg (by omega)]
    omega
  clear h1
  rw [Int.toNat_natCast] at HL
  rw [hn]
  clear hn
  generalize u64 n = u at *
  generalize Lib.bitLen u = bl at *
  generalize hwk : wid u = k at *
  have hb0 := (Below.refl w.heap.size w).alloc (Nat.le_refl _) (.cells #[.int .u8 (UInt8.ofNat k).toNat] 5)
  have hk8 : ((UInt8.ofNat k).toNat : Int) = k := by rw [UInt8.toNat_ofNat']; omega
  obtain ⟨i0, hi, hz0, hz1, hz2⟩ := info_parts byteInfo
  have Hi := Lib.hid hi
  have Hz0 := Lib.hid hz0
  have Hz1 := Lib.hid hz1
  have Hz2 := Lib.hid hz2
  clear hi hz0 hz1 hz2
  go_enter Tryz.func123, Tryz.ntmps123
  go_wp2_with fail
  refine (HL.out _).mono ?_
  rintro e w1 ⟨rfl, rfl⟩
  go_wp2_with fail
  go_loopw [4, 5] (fun va i wr => ∃ j : Nat, j ≤ k ∧ i = .int .i64 (k - 1 - j) ∧ OwnRows byteLay wr w.heap.size 5 va (UInt8.ofNat k :: (beF k u).take j) ∧ Below w.heap.size w wr) (fun _ i _ => (RowKit.intOf i + 1).toNat)
  case atStart => exact ⟨0, Nat.zero_le _, by simp, by rw [← hk8]; exact OwnRows.lit w byteLay w.heap.size w.heap.size 5 #[.int .u8 (UInt8.ofNat k).toNat] 1 [UInt8.ofNat k] rfl (Nat.le_refl _) (by decide) rfl rfl, by rw [← hk8]; exact hb0⟩
  case round =>
    obtain ⟨j, hj, rfl, hoa, hb⟩ := hrel
    by_cases hlt : j < k
    · have hst := beF_succ_take k u j hlt
      have hz : (u : Int) / 2 ^ (8 * (k - 1 - j)) % 256 = ((UInt8.ofNat (u / 256 ^ (k - 1 - j))).toNat : Int) := by
        rw [UInt8.toNat_ofNat', pow_bytes]
        norm_cast
      generalize UInt8.ofNat (u / 256 ^ (k - 1 - j)) = y at *
      have Hst := Lib.hid hst
      have hlen : (UInt8.ofNat k :: (beF k u).take j).length ≤ 100 := by rw [List.length_cons, List.length_take]; omega
      generalize (beF k u).take j = out at *
      clear hst
      go_wp2_with (at_builtin; refine wpList_append_rows _ rfl _ _ 156 rfl byteLay w.heap.size 5 i0 (.int .u8 0) 1 Tryz.underlying156 Hi.out Hz0.out Hz1.out Hz2.out rfl (by decide) _ _ rfl (hoa.alloc _) ⟨wr.heap.size, 0, none⟩ 1 y rfl (cells_new_at wr wr.heap.size #[.int .u8 y.toNat] 5 rfl) (by unfold maxLen; omega) (by omega) (by have := hb.size; simp; omega) ?_)
      intro va w4 hoa4 hg4 _
      have hb4 := (hb.alloc hb.size (.cells #[.int .u8 y.toNat] 5)).grown hg4 (by have := hb.size; simp; omega) (fun j ej => (hoa.lt ej).1)
      clear hg4 hoa
      go_wp2_with fail
      go_roundw
      case rel =>
        refine ⟨j + 1, by omega, by go_num, ?_, hb4⟩
        rw [Hst.out]
        exact hoa4
      case measure => simp [RowKit.intOf]; omega
    · obtain rfl : j = k := by omega
      rw [List.take_of_length_le (by rw [beF_len]; exact Nat.le_refl _)] at hoa
      generalize hL : UInt8.ofNat j :: beF j u = bs at *
      obtain ⟨a, cap, rfl, hra, _⟩ := hoa.read
      have hcv := conv_bytes hra cap
      go_wp2_with fail
      go_ret
      exact ⟨by rw [hL]; rfl, hb⟩
theorem textL_eq (s : ByteArray) (hs : s.size ≤ 100000000) : (⟨(textL s.data.toList).toArray⟩ : ByteArray) = (⟨(numL s.size).toArray⟩ : ByteArray) ++ s := by
  apply ba_ext
  rw [ByteArray.data_append, Array.toList_append]
  unfold textL numL
  rw [u64_nat (by omega), ← size_eq]
theorem numL_len (n : Int) : (numL n).length ≤ 9 := by
  unfold numL natL
  rw [List.length_cons, beF_len]
  have := wid_le (u64 n)
  omega
set_option maxRecDepth 100000 in
theorem encText_any (s : ByteArray) (w : World) (hs : s.size ≤ 100000000) :
    Calls Tryz.prog 124 #[.string s] w fun e w' => e = .returned (.string ⟨(textL s.data.toList).toArray⟩) ∧ Below w.heap.size w w' := by
  have HN := Lib.hid (encNum_any s.size w)
  have HT := Lib.hid (textL_eq s hs)
  have hl : (⟨(numL s.size).toArray⟩ : ByteArray).size ≤ 9 := by rw [size_eq]; exact numL_len _
  generalize hq : (⟨(numL s.size).toArray⟩ : ByteArray) = q at *
  go_enter Tryz.func124, Tryz.ntmps124
  go_wp2_with fail
  refine HN.out.mono ?_
  rintro e w1 ⟨rfl, hb⟩
  go_wp2_with fail
  go_ret
  exact ⟨by rw [HT.out]; rfl, hb⟩

theorem beF_cons : ∀ j u, beF (j + 1) u = UInt8.ofNat (u / 256 ^ j) :: beF j u
  | 0, u => by
    show [UInt8.ofNat (u % 256)] = [UInt8.ofNat (u / 256 ^ 0)]
    rw [Nat.pow_zero, Nat.div_one]
    congr 1
    apply UInt8.toNat_inj.1
    rw [UInt8.toNat_ofNat', UInt8.toNat_ofNat']
    omega
  | j + 1, u => by
    rw [beF, beF_cons j (u / 256), Nat.div_div_eq_div_mul, List.cons_append]
    have : 256 ^ (j + 1) = 256 * 256 ^ j := by rw [Nat.pow_succ, Nat.mul_comm]
    rw [this]
    rfl

set_option maxRecDepth 100000 in
set_option maxHeartbeats 1600000 in
theorem rencNum_any (n : Int) (w : World) :
    Calls Tryz.prog 101 #[.int .i64 n] w fun e w' => e = .returned (.string ⟨(numL n).toArray⟩) ∧ Below w.heap.size w w' := by
  have hu := u64_bound n
  have hw := wrap_u64n n
  have hn : numL n = natL (u64 n) := rfl
  rw [hn]
  clear hn
  generalize u64 n = u at *
  obtain ⟨i0, hi, hz0, hz1, hz2⟩ := info_parts byteInfo
  have Hi := Lib.hid hi
  have Hz0 := Lib.hid hz0
  have Hz1 := Lib.hid hz1
  have Hz2 := Lib.hid hz2
  clear hi hz0 hz1 hz2
  go_enter Tryz.func101, Tryz.ntmps101
  go_wp2_with fail
  go_loopw [3, 4] (fun q va wr => ∃ j : Nat, j ≤ 8 ∧ q = .int .u64 (u / 256 ^ j : Nat) ∧ OwnRows byteLay wr w.heap.size 5 va (beF j u) ∧ Hid (∀ i, j = i + 1 → 256 ^ i ≤ u) ∧ Below w.heap.size w wr) (fun q _ _ => (RowKit.intOf q).toNat)
  case atStart => exact ⟨0, Nat.zero_le _, by simp, OwnRows.nil _ _ _ _, Lib.hid fun i h => by omega, Below.refl _ _⟩
  case round =>
    obtain ⟨j, hj, rfl, hoa, Hj, hb⟩ := hrel
    obtain ⟨oa, oc, rfl, hra, hlc, hon, _⟩ := hoa.read_nil
    have hlen := beF_len j u
    generalize hq : u / 256 ^ j = q at *
    by_cases hlt : 0 < q
    · have hj8 : j < 8 := by
        rcases Nat.lt_or_ge j 8 with h | h
        · exact h
        · exfalso
          obtain rfl : j = 8 := by omega
          have : u / 256 ^ 8 = 0 := Nat.div_eq_of_lt hu
          omega
      have hge : 256 ^ j ≤ u := by
        rcases Nat.lt_or_ge u (256 ^ j) with h | h
        · rw [Nat.div_eq_of_lt h] at hq; omega
        · exact h
      have Hge := Lib.hid hge
      have hcons := beF_cons j u
      rw [hq] at hcons
      have Hc := Lib.hid hcons
      have hnext : u / 256 ^ (j + 1) = q / 256 := by rw [Nat.pow_succ, ← Nat.div_div_eq_div_mul, hq]
      have Hn := Lib.hid hnext
      have hz : (q : Int) % 256 = ((UInt8.ofNat q).toNat : Int) := by rw [UInt8.toNat_ofNat']; norm_cast
      have hq64 : q < 18446744073709551616 := Nat.lt_of_le_of_lt (by rw [← hq]; exact Nat.div_le_self _ _) hu
      generalize UInt8.ofNat q = y at *
      generalize beF j u = out at *
      have hs := hb.size
      clear hcons hnext hge hq
      go_wp2_with (at_builtin; refine wpList_append_rows _ rfl _ _ 156 rfl byteLay wr.heap.size 5 i0 (.int .u8 0) 1 Tryz.underlying156 Hi.out Hz0.out Hz1.out Hz2.out rfl (by decide) _ [] rfl (OwnRows.nil _ _ _ _) ⟨wr.heap.size, 0, none⟩ 1 y rfl (cells_new_at wr wr.heap.size #[.int .u8 y.toNat] 5 rfl) (by unfold maxLen; simp) (by simp) (by simp) ?_)
      intro v1 w2 ho1 hg1 _
      have hb2 : Below wr.heap.size wr w2 := ((Below.refl _ _).alloc (Nat.le_refl _) (.cells #[.int .u8 y.toNat] 5)).grown hg1 (by simp) (fun j ej => by cases ej)
      have hra2 := hra.keeps hb2
      have hs2 := hb2.size
      clear hg1 hra
      go_wp2_with (at_builtin; refine wpList_append_from _ rfl _ _ 156 rfl byteLay wr.heap.size 5 i0 (.int .u8 0) 1 Tryz.underlying156 Hi.out Hz0.out Hz1.out Hz2.out rfl (by decide) _ _ rfl ho1 oa oc j out rfl hlen hra2 hon (by unfold maxLen; simp; omega) (by simp; omega) hs2 ?_)
      intro v2 w3 ho2 hg2 _
      have hb3 := hb2.grown hg2 hs2 (fun j ej => (ho1.lt ej).1)
      have ho3 := ho2.lower hs
      have hb4 := hb.trans (hb3.mono hs)
      clear hg2 ho1 ho2
      go_wp2_with fail
      go_roundw
      case rel =>
        refine ⟨j + 1, by omega, by rw [Hn.out]; go_num, ?_, Lib.hid fun i hi => ?_, hb4⟩
        · rw [Hc.out]
          simpa using ho3
        · obtain rfl : i = j := by omega
          exact Hge.out
      case measure => simp [RowKit.intOf]; omega
    · obtain rfl : q = 0 := by omega
      have hwid : wid u = j := by
        refine wid_eq ?_ Hj.out hj
        rcases Nat.lt_or_ge u (256 ^ j) with h | h
        · exact h
        · have := (Nat.le_div_iff_mul_le (Nat.pow_pos (show 0 < 256 by omega))).2 (show 1 * 256 ^ j ≤ u by omega)
          omega
      have HL := Lib.hid (show natL u = UInt8.ofNat j :: beF j u by unfold natL; rw [hwid])
      have hz : (j : Int) = ((UInt8.ofNat j).toNat : Int) := by rw [UInt8.toNat_ofNat']; omega
      have hj256 : ((UInt8.ofNat j).toNat : Int) ≤ 8 := by omega
      have hlj : (beF j u).length = (UInt8.ofNat j).toNat := by rw [hlen]; omega
      generalize UInt8.ofNat j = y at *
      generalize beF j u = out at *
      have hs := hb.size
      rw [hlj]
      clear hwid hlen hz Hj hq hu hw
      go_wp2_with (at_builtin; refine wpList_append_rows _ rfl _ _ 156 rfl byteLay wr.heap.size 5 i0 (.int .u8 0) 1 Tryz.underlying156 Hi.out Hz0.out Hz1.out Hz2.out rfl (by decide) _ [] rfl (OwnRows.nil _ _ _ _) ⟨wr.heap.size, 0, none⟩ 1 y rfl (cells_new_at wr wr.heap.size #[.int .u8 y.toNat] 5 rfl) (by unfold maxLen; simp) (by simp) (by simp) ?_)
      intro v1 w2 ho1 hg1 _
      have hb2 : Below wr.heap.size wr w2 := ((Below.refl _ _).alloc (Nat.le_refl _) (.cells #[.int .u8 y.toNat] 5)).grown hg1 (by simp) (fun j ej => by cases ej)
      have hra2 := hra.keeps hb2
      have hs2 := hb2.size
      clear hg1 hra
      go_wp2_with (at_builtin; refine wpList_append_from _ rfl _ _ 156 rfl byteLay wr.heap.size 5 i0 (.int .u8 0) 1 Tryz.underlying156 Hi.out Hz0.out Hz1.out Hz2.out rfl (by decide) _ _ rfl ho1 oa oc y.toNat out rfl hlj hra2 hon (by unfold maxLen; simp; omega) (by simp; omega) hs2 ?_)
      intro v2 w3 ho2 hg2 _
      have hb3 := hb2.grown hg2 hs2 (fun j ej => (ho1.lt ej).1)
      have hb4 := hb.trans (hb3.mono hs)
      have ho3 : OwnRows byteLay w3 wr.heap.size 5 v2 (y :: out) := by simpa using ho2
      obtain ⟨a2, c2, rfl, hra3, _⟩ := ho3.read
      generalize hL : y :: out = bs at *
      have hcv := conv_bytes hra3 c2
      clear hg2 ho1 ho2 ho3 hlj
      go_wp2_with fail
      go_ret
      exact ⟨by rw [HL.out]; rfl, hb4⟩
set_option maxRecDepth 100000 in
theorem rencText_any (s : ByteArray) (w : World) (hs : s.size ≤ 100000000) :
    Calls Tryz.prog 102 #[.string s] w fun e w' => e = .returned (.string ⟨(textL s.data.toList).toArray⟩) ∧ Below w.heap.size w w' := by
  have HN := Lib.hid (rencNum_any s.size w)
  have HT := Lib.hid (textL_eq s hs)
  have hl : (⟨(numL s.size).toArray⟩ : ByteArray).size ≤ 9 := by rw [size_eq]; exact numL_len _
  generalize hq : (⟨(numL s.size).toArray⟩ : ByteArray) = q at *
  go_enter Tryz.func102, Tryz.ntmps102
  go_wp2_with fail
  refine HN.out.mono ?_
  rintro e w1 ⟨rfl, hb⟩
  go_wp2_with fail
  go_ret
  exact ⟨by rw [HT.out]; rfl, hb⟩
end Go.Proofs.YtgglheelhbfgiaaGreatDoor

namespace Go.Proofs.YtgglheelhbfgiaaGreatDoor
open Go Go.RowKit Go.Lib
theorem raw_restS (r : Rd) : r.raw.2.rest.length ≤ r.rest.length := by
  unfold Rd.raw
  split
  · exact Nat.le_refl _
  · split
    · exact Nat.zero_le _
    · rename_i h t e
      rw [e]
      split
      · exact Nat.zero_le _
      · split
        · exact Nat.zero_le _
        · split
          · exact Nat.zero_le _
          · simp only [List.length_drop, List.length_cons]
            omega
theorem text_restS (r : Rd) : r.text.1.length ≤ r.rest.length ∧ r.text.2.rest.length ≤ r.rest.length := by
  have h := raw_restS r
  unfold Rd.text
  split
  · exact ⟨Nat.zero_le _, h⟩
  · split
    · exact ⟨Nat.zero_le _, Nat.zero_le _⟩
    · simp only [List.length_take, List.length_drop]
      omega
set_option maxRecDepth 100000 in
theorem sname_any (k : Nat) (hk : k < 100) (w : World) : Calls Tryz.prog 53 #[.int .i64 k] w fun e w' => e = .returned (.string (nameS k)) ∧ w' = w := by
  have HI := Lib.hid (Tryz.strconv_Itoa_small k hk w)
  have Hn := Lib.hid (show nameS k = ⟨#[115, 101, 103, 45]⟩ ++ ⟨(Lib.decDigits k).toArray⟩ by
    apply ba_ext
    rw [ByteArray.data_append, Array.toList_append]
    rfl)
  have hq := (name_size (k := k) (by omega)).2
  rw [Hn.out, ByteArray.size_append] at hq
  have hq2 : (⟨(Lib.decDigits k).toArray⟩ : ByteArray).size ≤ 24 := by omega
  clear hq
  generalize (⟨(Lib.decDigits k).toArray⟩ : ByteArray) = q at *
  generalize nameS k = r at *
  go_enter Tryz.func53, Tryz.ntmps53
  go_wp2_with fail
  refine HI.out.mono ?_
  rintro e w1 ⟨rfl, rfl⟩
  go_wp2_with fail
  go_ret
  exact ⟨by rw [Hn.out]; rfl, rfl⟩
theorem frameB_eq (n : Nat) (s : ByteArray) : frameB n s = mkB (numL (sumC (bodyL n s.data.toList) : Nat)) ++ mkB (textL (bodyL n s.data.toList)) := by
  apply ba_ext
  rw [ByteArray.data_append, Array.toList_append]
  rfl
theorem bodyB_eq (n : Nat) (s : ByteArray) : mkB (bodyL n s.data.toList) = mkB (numL n) ++ mkB (textL s.data.toList) := by
  apply ba_ext
  rw [ByteArray.data_append, Array.toList_append]
  rfl
theorem bodyL_len (n : Nat) (s : List UInt8) : (bodyL n s).length ≤ 18 + s.length := by
  unfold bodyL textL
  rw [List.length_append, List.length_append]
  have h1 := numL_len n
  have h2 : (natL s.length).length ≤ 9 := by
    unfold natL
    rw [List.length_cons, beF_len]
    have := wid_le s.length
    omega
  omega
set_option maxRecDepth 100000 in
set_option maxHeartbeats 1600000 in
theorem frame_any (n : Nat) (s : ByteArray) (w : World) (hs : s.size ≤ 8000) : Calls Tryz.prog 91 #[.int .i64 n, .string s] w fun e w' => e = .returned (.string (frameB n s)) ∧ Below w.heap.size w w' := by
  have H1 := Lib.hid fun W => encNum_any n W
  have H2 := Lib.hid fun W => encText_any s W (by omega)
  have hb := bodyL_len n s.data.toList
  have hb1 : (mkB (bodyL n s.data.toList)).size ≤ 100000000 := by
    rw [mkB_size]
    have : s.data.toList.length = s.size := rfl
    omega
  have hz1 : (mkB (numL (n : Int))).size ≤ 9 := by rw [mkB_size]; exact numL_len _
  have hz3 : (mkB (numL (sumC (bodyL n s.data.toList) : Nat))).size ≤ 9 := by rw [mkB_size]; exact numL_len _
  have htl : ∀ l : List UInt8, (mkB (textL l)).size ≤ 9 + l.length := fun l => by
    rw [mkB_size]
    unfold textL
    rw [List.length_append]
    have h2 : (natL l.length).length ≤ 9 := by
      unfold natL
      rw [List.length_cons, beF_len]
      have := wid_le l.length
      omega
    omega
  have hz2 : (mkB (textL s.data.toList)).size ≤ 8009 := by
    have h1 := htl s.data.toList
    have h2 : s.data.toList.length = s.size := rfl
    omega
  have hz4 : (mkB (textL (bodyL n s.data.toList))).size ≤ 8027 := by
    have h1 := htl (bodyL n s.data.toList)
    have h2 : s.data.toList.length = s.size := rfl
    omega
  clear htl
  have H3 := Lib.hid fun W => sum_any (mkB (bodyL n s.data.toList)) W hb1
  have H4 := Lib.hid fun W => encNum_any (sumC (bodyL n s.data.toList) : Nat) W
  have H5 := Lib.hid fun W => encText_any (mkB (bodyL n s.data.toList)) W hb1
  have HF := Lib.hid (frameB_eq n s)
  have HB := Lib.hid (bodyB_eq n s)
  rw [show (mkB (bodyL n s.data.toList)).data.toList = bodyL n s.data.toList from rfl] at H3 H5
  rw [show (⟨(numL (n : Int)).toArray⟩ : ByteArray) = mkB (numL n) from rfl] at H1
  rw [show (⟨(textL s.data.toList).toArray⟩ : ByteArray) = mkB (textL s.data.toList) from rfl] at H2
  rw [show (⟨(numL (sumC (bodyL n s.data.toList) : Nat)).toArray⟩ : ByteArray) = mkB (numL (sumC (bodyL n s.data.toList) : Nat)) from rfl] at H4
  rw [show (⟨(textL (bodyL n s.data.toList)).toArray⟩ : ByteArray) = mkB (textL (bodyL n s.data.toList)) from rfl] at H5
  clear hb hb1
  generalize mkB (textL (bodyL n s.data.toList)) = x4 at *
  generalize mkB (numL (sumC (bodyL n s.data.toList) : Nat)) = x3 at *
  generalize sumC (bodyL n s.data.toList) = sm at *
  generalize mkB (bodyL n s.data.toList) = bd at *
  generalize mkB (textL s.data.toList) = x2 at *
  generalize mkB (numL (n : Int)) = x1 at *
  generalize frameB n s = fr at *
  go_enter Tryz.func91, Tryz.ntmps91
  go_wp2_with fail
  refine (H1.out _).mono ?_
  rintro e w1 ⟨rfl, hb1⟩
  go_wp2_with fail
  refine (H2.out _).mono ?_
  rintro e w2 ⟨rfl, hb2⟩
  have hb12 := hb1.trans (hb2.mono hb1.size)
  clear hb1 hb2
  go_wp2_with fail
  rw [← HB.out]
  refine (H3.out _).mono ?_
  rintro e w3 ⟨rfl, hb3⟩
  have hb13 := hb12.trans (hb3.mono hb12.size)
  clear hb12 hb3
  go_wp2_with fail
  refine (H4.out _).mono ?_
  rintro e w4 ⟨rfl, hb4⟩
  have hb14 := hb13.trans (hb4.mono hb13.size)
  clear hb13 hb4
  go_wp2_with fail
  refine (H5.out _).mono ?_
  rintro e w5 ⟨rfl, hb5⟩
  have hb15 := hb14.trans (hb5.mono hb14.size)
  clear hb14 hb5
  go_wp2_with fail
  go_ret
  exact ⟨by rw [HF.out]; rfl, hb15⟩
set_option maxRecDepth 100000 in
theorem right_any (s : ByteArray) (w : World) : Calls Tryz.prog 56 #[.string s] w fun e w' => e = .returned (.bool (rightR s)) ∧ w' = w := by
  have he := empty_iff s
  have Hr := Lib.hid (show rightR s = (decide (1 ≤ s.size) && decide (s.size ≤ 2000)) from rfl)
  generalize rightR s = r at *
  by_cases h0 : s.size = 0
  · rw [decide_eq_true h0] at he
    have Hr2 := Lib.hid (show r = false by rw [Hr.out, decide_eq_false (by omega)]; rfl)
    clear h0
    go_enter Tryz.func56, Tryz.ntmps56
    go_wp2_with fail
    go_ret
    exact ⟨by rw [Hr2.out]; rfl, rfl⟩
  · rw [decide_eq_false h0] at he
    by_cases h1 : s.size ≤ 2000
    · have Hr2 := Lib.hid (show r = true by rw [Hr.out, decide_eq_true h1, decide_eq_true (by omega)]; rfl)
      have d1 : decide ((s.size : Int) ≤ 2000) = true := decide_eq_true (by omega)
      have d2 : decide (s.size ≤ 2000) = true := decide_eq_true h1
      clear h0 h1
      go_enter Tryz.func56, Tryz.ntmps56
      go_wp2_with fail
      go_ret
      exact ⟨by rw [Hr2.out]; rfl, rfl⟩
    · have Hr2 := Lib.hid (show r = false by rw [Hr.out, decide_eq_false h1, Bool.and_false])
      have d1 : decide ((s.size : Int) ≤ 2000) = false := decide_eq_false (by omega)
      have d2 : decide (s.size ≤ 2000) = false := decide_eq_false h1
      clear h0 h1
      go_enter Tryz.func56, Tryz.ntmps56
      go_wp2_with fail
      go_ret
      exact ⟨by rw [Hr2.out]; rfl, rfl⟩
end Go.Proofs.YtgglheelhbfgiaaGreatDoor

namespace Go.Proofs.YtgglheelhbfgiaaGreatDoor
open Go Go.RowKit Go.Lib
def firB : Option (List UInt8 × Nat) → ByteArray
  | none => noB
  | some x => mkB x.1
def firN : Option (List UInt8 × Nat) → Nat
  | none => 0
  | some x => x.2
theorem rec_right (l : List UInt8) : rightR (mkB l) = recOk l := by
  unfold rightR recOk
  rw [mkB_size]
theorem neq_int {a b : Int} (h : a ≠ b) : (a != b) = true := bne_iff_ne.2 h
theorem eq_int {a b : Int} (h : a = b) : (a != b) = false := by rw [h]; exact bne_self_eq_false b
set_option maxRecDepth 100000 in
set_option maxHeartbeats 3200000 in
theorem sfirst_any (d : ByteArray) (n : Nat) (w : World) (hd : d.size ≤ 100000000) :
    Calls Tryz.prog 86 #[.string d, .int .i64 n] w fun e w' => e = .returned (.tuple #[.string (firB (firstL d.data.toList n)), .int .i64 (firN (firstL d.data.toList n)), .bool (firstL d.data.toList n).isSome]) ∧ Below w.heap.size w w' := by
  have HR := Lib.hid (Read_any d w hd)
  have hl : d.data.toList.length ≤ 100000000 := hd
  obtain ⟨l, hle⟩ : ∃ l, d.data.toList = l := ⟨_, rfl⟩
  rw [hle] at hl HR ⊢
  clear hle
  obtain ⟨f, hf⟩ : ∃ f, firstL l n = f := ⟨_, rfl⟩
  rw [hf]
  unfold firstL at hf
  obtain ⟨c1, q1⟩ : ∃ c r, Rd.num ⟨0, l⟩ = (c, r) ∧ r.rest.length ≤ 100000000 := ⟨_, _, rfl, Nat.le_trans (raw_restS ⟨0, l⟩) hl⟩
  obtain ⟨r1, hq1, hl1⟩ := q1
  obtain ⟨c2, q2⟩ : ∃ c r, Rd.text r1 = (c, r) ∧ c.length ≤ 100000000 := ⟨_, _, rfl, Nat.le_trans (text_restS r1).1 hl1⟩
  obtain ⟨r2, hq2, hl2⟩ := q2
  obtain ⟨c3, q3⟩ : ∃ c r, Rd.num ⟨0, c2⟩ = (c, r) ∧ r.rest.length ≤ 100000000 := ⟨_, _, rfl, Nat.le_trans (raw_restS ⟨0, c2⟩) hl2⟩
  obtain ⟨r3, hq3, hl3⟩ := q3
  obtain ⟨c4, q4⟩ : ∃ c r, Rd.text r3 = (c, r) ∧ c.length ≤ 100000000 := ⟨_, _, rfl, Nat.le_trans (text_restS r3).1 hl3⟩
  obtain ⟨r4, hq4, hl4⟩ := q4
  simp only [hq1, hq2, hq3, hq4] at hf
  have HN1 := Lib.hid fun W b (h : RdAt W b ⟨0, l⟩) => Num_any b _ W h
  rw [hq1] at HN1
  have HT1 := Lib.hid fun W b (h : RdAt W b r1) => Text_any b _ W h
  rw [hq2] at HT1
  have HE1 := Lib.hid fun W b (h : RdAt W b r2) => Err_any b _ W h
  have HS := Lib.hid fun W => sum_any (mkB c2) W (by rw [mkB_size]; exact hl2)
  rw [show (mkB c2).data.toList = c2 from rfl] at HS
  have HR2 := Lib.hid fun W => Read_any (mkB c2) W (by rw [mkB_size]; exact hl2)
  rw [show (mkB c2).data.toList = c2 from rfl] at HR2
  have HN2 := Lib.hid fun W b (h : RdAt W b ⟨0, c2⟩) => Num_any b _ W h
  rw [hq3] at HN2
  have HT2 := Lib.hid fun W b (h : RdAt W b r3) => Text_any b _ W h
  rw [hq4] at HT2
  have HE2 := Lib.hid fun W b (h : RdAt W b r4) => End_any b _ W h
  have HRt := Lib.hid fun W => right_any (mkB c4) W
  rw [rec_right] at HRt
  have HC1 := Lib.hid fun W => encNum_any c1 W
  have HC2 := Lib.hid fun W => encText_any (mkB c2) W (by rw [mkB_size]; exact hl2)
  rw [show (mkB c2).data.toList = c2 from rfl] at HC2
  have hz1 : (mkB (numL c1)).size = (numL c1).length := mkB_size _
  have hz2 : (mkB (textL c2)).size = (textL c2).length := mkB_size _
  have hb1 := numL_len c1
  have hb2 : (textL c2).length ≤ 100000009 := by
    unfold textL
    rw [List.length_append]
    have h2 : (natL c2.length).length ≤ 9 := by
      unfold natL
      rw [List.length_cons, beF_len]
      have := wid_le c2.length
      omega
    omega
  rw [show (⟨(numL c1).toArray⟩ : ByteArray) = mkB (numL c1) from rfl] at HC1
  rw [show (⟨(textL c2).toArray⟩ : ByteArray) = mkB (textL c2) from rfl] at HC2
  simp only [show (⟨c2.toArray⟩ : ByteArray) = mkB c2 from rfl] at HT1
  simp only [show (⟨c4.toArray⟩ : ByteArray) = mkB c4 from rfl] at HT2
  have Hf := Lib.hid hf
  clear hf hl hl1 hl2 hl3 hl4 hq1 hq2 hq3 hq4
  generalize mkB (numL c1) = x1 at *
  generalize mkB (textL c2) = x2 at *
  generalize (numL c1).length = y1 at *
  generalize (textL c2).length = y2 at *
  generalize hsm : sumC c2 = sm at *
  have hme : ∃ m4, mkB c4 = m4 := ⟨_, rfl⟩
  obtain ⟨m4, hm4⟩ := hme
  have Hm4 := Lib.hid hm4
  rw [hm4] at HT2 HRt
  clear hm4 hsm
  generalize mkB c2 = m2 at *
  go_enter Tryz.func86, Tryz.ntmps86
  go_wp2_with fail
  refine HR.out.mono ?_
  rintro e w1 ⟨rfl, h1, hb1w⟩
  go_wp2_with fail
  refine (HN1.out _ _ h1).mono ?_
  rintro e w2 ⟨rfl, h2, hg2⟩
  have hb2w := hb1w.grown hg2 hb1w.size (fun j ej => by cases ej; exact Nat.le_refl _)
  clear h1 hg2 hb1w
  go_wp2_with fail
  refine (HT1.out _ _ h2).mono ?_
  rintro e w3 ⟨rfl, h3, hg3⟩
  have hb3w := hb2w.grown hg3 hb2w.size (fun j ej => by cases ej; exact Nat.le_refl _)
  clear h2 hg3 hb2w
  go_wp2_with fail
  refine (HE1.out _ _ h3).mono ?_
  rintro e w3' ⟨rfl, hw3⟩
  subst hw3
  by_cases he : r2.err = 0
  · rw [he]
    have Hf2 := Lib.hid he
    clear he
    go_wp2_with fail
    refine (HS.out _).mono ?_
    rintro e w4 ⟨rfl, hb4⟩
    have hb4w := hb3w.trans (hb4.mono hb3w.size)
    clear hb4 hb3w h3
    by_cases hs : c1 = (sm : Int)
    · have e1 := eq_int hs
      have Hf3 := Lib.hid (Hf.out.symm.trans (if_neg fun h => h.elim (fun h => h Hf2.out) (fun h => h hs)))
      clear hs
      go_wp2_with fail
      refine (HR2.out _).mono ?_
      rintro e w5 ⟨rfl, h5, hb5⟩
      have hb5w := hb4w.trans (hb5.mono hb4w.size)
      have hle := hb4w.size
      clear hb5 hb4w
      go_wp2_with fail
      refine (HN2.out _ _ h5).mono ?_
      rintro e w6 ⟨rfl, h6, hg6⟩
      have hb6w := hb5w.grown hg6 hb5w.size (fun j ej => by cases ej; exact hle)
      clear h5 hg6 hb5w
      go_wp2_with fail
      refine (HT2.out _ _ h6).mono ?_
      rintro e w7 ⟨rfl, h7, hg7⟩
      have hb7w := hb6w.grown hg7 hb6w.size (fun j ej => by cases ej; exact hle)
      clear h6 hg7 hb6w
      go_wp2_with fail
      refine (HE2.out _ _ h7).mono ?_
      rintro e w8 ⟨rfl, nd, hw8⟩
      subst hw8
      have hb8w : Below w.heap.size w (w7.drewN nd) := hb7w.trans ⟨rfl, rfl, rfl, Nat.le_refl _, fun _ _ => rfl⟩
      clear h7 hb7w
      generalize w7.drewN nd = w8 at *
      by_cases hfin : r4.fin = 0
      · rw [hfin]
        have Hfin := Lib.hid hfin
        clear hfin
        by_cases hk : c3 = (n : Int)
        · have e2 := eq_int hk
          have Hk := Lib.hid hk
          clear hk
          cases hro : recOk c4 with
          | true =>
            have Hf4 := Lib.hid (Hf3.out.trans (if_neg fun h => h.elim (fun h => h Hfin.out) fun h => h.elim (fun h => h Hk.out) fun h => by rw [hro] at h; cases h))
            rw [hro] at HRt
            clear hro
            go_wp2_with fail
            refine (HRt.out _).mono ?_
            rintro e w9 ⟨rfl, hw9⟩
            subst hw9
            go_wp2_with fail
            refine (HC1.out _).mono ?_
            rintro e w10 ⟨rfl, hb10⟩
            have hb10w := hb8w.trans (hb10.mono hb8w.size)
            clear hb10 hb8w
            go_wp2_with fail
            refine (HC2.out _).mono ?_
            rintro e w11 ⟨rfl, hb11⟩
            have hb11w := hb10w.trans (hb11.mono hb10w.size)
            clear hb11 hb10w
            go_wp2_with fail
            go_ret3
            refine ⟨?_, hb11w⟩
            rw [Hf4.out]
            show _ = Ending.returned (.tuple #[.string (mkB c4), .int .i64 ((y1 + y2 : Nat) : Int), .bool true])
            rw [Hm4.out, Int.natCast_add]
            rfl
          | false =>
            have Hf4 := Lib.hid (Hf3.out.trans (if_pos (.inr (.inr hro))))
            rw [hro] at HRt
            clear hro
            go_wp2_with fail
            refine (HRt.out _).mono ?_
            rintro e w9 ⟨rfl, hw9⟩
            subst hw9
            go_wp2_with fail
            go_ret3
            exact ⟨by rw [Hf4.out]; rfl, hb8w⟩
        · have e2 := neq_int hk
          have Hf4 := Lib.hid (Hf3.out.trans (if_pos (.inr (.inl hk))))
          clear hk
          go_wp2_with fail
          go_ret3
          exact ⟨by rw [Hf4.out]; rfl, hb8w⟩
      · have e2 := neq_int hfin
        have Hf4 := Lib.hid (Hf3.out.trans (if_pos (.inl hfin)))
        clear hfin
        go_wp2_with fail
        go_ret3
        exact ⟨by rw [Hf4.out]; rfl, hb8w⟩
    · have e1 := neq_int hs
      have Hf3 := Lib.hid (Hf.out.symm.trans (if_pos (.inr hs)))
      clear hs
      go_wp2_with fail
      go_ret3
      exact ⟨by rw [Hf3.out]; rfl, hb4w⟩
  · have e1 := neq_int he
    have Hf3 := Lib.hid (Hf.out.symm.trans (if_pos (.inl he)))
    clear he
    go_wp2_with fail
    go_ret3
    exact ⟨by rw [Hf3.out]; rfl, hb3w⟩
end Go.Proofs.YtgglheelhbfgiaaGreatDoor

namespace Go.Proofs.YtgglheelhbfgiaaGreatDoor
open Go Go.RowKit Go.Lib
theorem zeroIntS (w : World) : (zeroValue 3).run Tryz.prog w = .ok (intV.val 0) w := by kernel_rfl
theorem strInfoS : (Tryz.prog.info? 9).map (fun i => (i.zero, i.size, i.bytes)) = some (some (.string ⟨#[]⟩), 1, 16) := by kernel_rfl
theorem info_three {P : Program} {t : TypeId} {z : Value} {n m : Nat} (h : (P.info? t).map (fun i => (i.zero, i.size, i.bytes)) = some (some z, n, m)) : ∃ i, P.info? t = some i ∧ i.zero = some z ∧ i.size = n ∧ i.bytes = m := by
  cases e : P.info? t with
  | none => rw [e] at h; cases h
  | some i => rw [e] at h; simp only [Option.map_some, Option.some.injEq, Prod.mk.injEq] at h; exact ⟨i, rfl, h.1, h.2.1, h.2.2⟩
def lenV : Value → Nat
  | .slice _ n _ => n
  | _ => 0
/-- Where the files that were scanned end. -/
structure EndsIn (now : Fls) (E : Ends) : Prop where
  nodup : (E.map (·.1)).Nodup
  low : ∀ p, 0 ≤ endOf E p
  high : ∀ p, endOf E p ≤ (hasD now p).size
theorem endsIn_nil (now : Fls) : EndsIn now [] := ⟨List.nodup_nil, fun _ => Int.le_refl _, fun _ => Int.natCast_nonneg _⟩
theorem endOf_put {E : Ends} (hn : (E.map (·.1)).Nodup) (p : ByteArray) (a : Int) (q : ByteArray) : endOf (putK E p a) q = if q = p then a else endOf E q := by
  unfold endOf
  rw [findK_put hn]
  split <;> rfl
theorem endsIn_put {now : Fls} {E : Ends} (h : EndsIn now E) {p : ByteArray} {n : Nat} (hn : endOf E p + n ≤ (hasD now p).size) : EndsIn now (putK E p (endOf E p + n)) := by
  refine ⟨keysK_put E p _ h.nodup, fun q => ?_, fun q => ?_⟩
  · rw [endOf_put h.nodup]
    split
    · have := h.low p
      omega
    · exact h.low q
  · rw [endOf_put h.nodup]
    split
    · rename_i e
      rw [e]
      exact hn
    · exact h.high q
theorem scan_stop {now : Fls} {out : List ByteArray} {E : Ends} (h : out.length < 800) (hf : firstL ((hasD now (nameS (out.length / 8))).data.toList.drop (endOf E (nameS (out.length / 8))).toNat) out.length = none) : scanG now (800 - out.length) out E = (out, E) := by
  obtain ⟨m, hm⟩ : ∃ m, 800 - out.length = m + 1 := ⟨799 - out.length, by omega⟩
  rw [hm, scanG, hf]
theorem scan_go {now : Fls} {out : List ByteArray} {E : Ends} {s : List UInt8} {n : Nat} (h : out.length < 800) (hf : firstL ((hasD now (nameS (out.length / 8))).data.toList.drop (endOf E (nameS (out.length / 8))).toNat) out.length = some (s, n)) :
    scanG now (800 - out.length) out E = scanG now (800 - (out ++ [mkB s]).length) (out ++ [mkB s]) (putK E (nameS (out.length / 8)) (endOf E (nameS (out.length / 8)) + n)) := by
  obtain ⟨m, hm⟩ : ∃ m, 800 - out.length = m + 1 := ⟨799 - out.length, by omega⟩
  rw [hm, scanG, hf, List.length_append, List.length_singleton, show 800 - (out.length + 1) = m by omega]
theorem scan_end {now : Fls} {out : List ByteArray} {E : Ends} (h : out.length = 800) : scanG now (800 - out.length) out E = (out, E) := by
  rw [h]
  rfl
theorem read_has {d : Dk} {k : Nat} (hd : d.dead = false) (hk : k < 100) : (readD d (nameS k)).1 = hasD d.now (nameS k) := by
  have hw : wrongD d (nameS k) 0 = 0 := wrong_none hd (by omega) (Int.le_refl _) (Int.natCast_nonneg _)
  unfold readD
  rw [if_neg (by rw [hw]; simp)]
  unfold hasD
  cases findK d.now (nameS k) <;> rfl
theorem first_len {l : List UInt8} {i : Nat} {s : List UInt8} {n : Nat} (h : firstL l i = some (s, n)) : n ≤ l.length := by
  obtain ⟨h1, _, h3⟩ := first_inv h
  have := congrArg List.length h3
  rw [List.length_append] at this
  omega
set_option maxRecDepth 100000 in
set_option maxHeartbeats 3200000 in
theorem sscan_any {w : World} {db : Nat} {S : Nat → Prop} {d : Dk} (h : DOk w db S d) (hd : d.dead = false) :
    Calls Tryz.prog 50 #[.pointer (some ⟨db, 0, none⟩)] w fun e w' => ∃ v mb, e = .returned (.tuple #[v, .map (some mb)]) ∧ OwnRows strLay w' (w.heap.size + 1) 9 v (scanG d.now 800 [] []).1 ∧ w.heap.size = mb ∧ MapK intV Tryz.prog 9 w' mb (scanG d.now 800 [] []).2 ∧ EndsIn d.now (scanG d.now 800 [] []).2 ∧ (scanG d.now 800 [] []).2.length ≤ (scanG d.now 800 [] []).1.length ∧ (scanG d.now 800 [] []).1.length ≤ 800 ∧ Below w.heap.size w w' := by
  obtain ⟨i0, hi, hz0, hz1, hz2⟩ := info_three strInfoS
  have Hi := Lib.hid hi
  have Hz0 := Lib.hid hz0
  have Hz1 := Lib.hid hz1
  have Hz2 := Lib.hid hz2
  clear hi hz0 hz1 hz2
  have hmm := @run_makeMap Tryz.prog
  have hM0 : MapK intV Tryz.prog 9 (w.alloc (.map #[] 0)) w.heap.size [] := MapK.made w
  have hb0 : Below w.heap.size w (w.alloc (.map #[] 0)) := (Below.refl _ _).alloc (Nat.le_refl _) _
  have HD := Lib.hid h
  have Hd := Lib.hid hd
  have HF := Lib.hid h.ok.now
  obtain ⟨R, hR⟩ : ∃ R, scanG d.now 800 [] [] = R := ⟨_, rfl⟩
  rw [hR]
  have HR0 := Lib.hid (show scanG d.now (800 - ([] : List ByteArray).length) [] [] = R from hR)
  clear h hd hR
  go_enter Tryz.func50, Tryz.ntmps50
  go_wp2_with fail
  go_loopw [4, 6, 7, 8, 9, 10, 11] (fun v _ _ _ _ _ _ wr => ∃ (out : List ByteArray) (E : Ends), out.length ≤ 800 ∧ OwnRows strLay wr (w.heap.size + 1) 9 v out ∧ MapK intV Tryz.prog 9 wr w.heap.size E ∧ Hid (EndsIn d.now E) ∧ E.length ≤ out.length ∧ Hid (scanG d.now (800 - out.length) out E = R) ∧ w.heap.size + 1 ≤ wr.heap.size ∧ Below w.heap.size w wr) (fun v _ _ _ _ _ _ _ => 800 - lenV v)
  case atStart => exact ⟨[], [], Nat.zero_le _, OwnRows.nil _ _ _ _, hM0, Lib.hid (endsIn_nil _), Nat.le_refl _, HR0, by simp, hb0⟩
  case round =>
    obtain ⟨out, E, hout, ho, hM, HE, hEl, HR, hsz, hb⟩ := hrel
    obtain ⟨oa, oc, rfl, _, _⟩ := ho.read
    by_cases hlt : out.length < 800
    · have hlti : (out.length : Int) < 800 := by omega
      have hq8 : ((out.length / 8 : Nat) : Int) = (out.length : Int) / 8 := by omega
      have hk8 : out.length / 8 < 100 := by omega
      have Hnm := Lib.hid fun W => sname_any (out.length / 8) hk8 W
      have hnz := (name_size (k := out.length / 8) (by omega)).2
      have HRd := Lib.hid (dread_any (HD.out.below hb) (nameS (out.length / 8)))
      have HX := Lib.hid (read_has (d := d) Hd.out hk8)
      rw [HX.out] at HRd
      have hstop := scan_stop (now := d.now) (out := out) (E := E) hlt
      have hgo := fun s n => scan_go (now := d.now) (out := out) (E := E) (s := s) (n := n) hlt
      have hlow := HE.out.low (nameS (out.length / 8))
      have hhigh := HE.out.high (nameS (out.length / 8))
      have hput := fun n => endsIn_put (n := n) HE.out (p := nameS (out.length / 8))
      have hhas := HF.out.has (nameS (out.length / 8))
      have hlk := MapK.look1 (t := 83) hM dkeyL Tryz.underlying9 Tryz.underlying83 (zeroIntS wr) (p := nameS (out.length / 8)) (by unfold maxLen; omega)
      have hlk2 : (Instr.lookup 83 (.map (some w.heap.size)) (.string (nameS (out.length / 8))) false).run Tryz.prog wr = .ok (.int .i64 (endOf E (nameS (out.length / 8)))) wr := hlk
      have Hlk := Lib.hid fun W (hW : MapK intV Tryz.prog 9 W w.heap.size E) => (show (Instr.lookup 83 (.map (some w.heap.size)) (.string (nameS (out.length / 8))) false).run Tryz.prog W = .ok (.int .i64 (endOf E (nameS (out.length / 8)))) W from MapK.look1 (t := 83) hW dkeyL Tryz.underlying9 Tryz.underlying83 (zeroIntS W) (p := nameS (out.length / 8)) (by unfold maxLen; omega))
      have Hup := Lib.hid fun W (hW : MapK intV Tryz.prog 9 W w.heap.size E) x => MapK.put (t := 83) hW dkeyL Tryz.underlying9 Tryz.underlying83 (nameS (out.length / 8)) x (by unfold maxLen; omega) (by unfold maxLen; omega)
      have hpl := fun x => lenK_put E (nameS (out.length / 8)) x
      clear hlk
      generalize hasD d.now (nameS (out.length / 8)) = s at *
      generalize nameS (out.length / 8) = nm at *
      obtain ⟨m, hm⟩ : ∃ m : Nat, endOf E nm = (m : Int) := ⟨(endOf E nm).toNat, by omega⟩
      rw [hm] at hlk2 hhigh hstop hgo hput Hlk
      rw [Int.toNat_natCast] at hstop hgo
      have hms : m ≤ s.size := by omega
      have hmi : min (m : Int) (s.size : Int) = (m : Int) := by omega
      have hxd : (s.extract m s.size).data.toList = s.data.toList.drop m := drop_extract s m
      have hxz := drop_size s m
      have HFs := Lib.hid fun W => sfirst_any (s.extract m s.size) out.length W (by omega)
      rw [hxd] at HFs
      have Hxz := Lib.hid hxz
      have hdl : (s.data.toList.drop m).length ≤ s.size - m := by
        rw [List.length_drop]
        exact Nat.le_refl _
      have Ho := Lib.hid ho
      have HM := Lib.hid hM
      clear hxd hxz ho hM hm hlow hhigh
      cases hf : firstL (s.data.toList.drop m) out.length with
      | none =>
        rw [hf] at HFs
        have Hst := Lib.hid (HR.out.symm.trans (hstop hf))
        clear hf hstop hgo hput hpl
        go_wp2_with fail
        refine (Hnm.out _).mono ?_
        rintro e w1 ⟨rfl, rfl⟩
        go_wp2_with fail
        refine HRd.out.mono ?_
        rintro e w2 ⟨rfl, rfl⟩
        go_wp2_with fail
        refine (HFs.out _).mono ?_
        rintro e w3 ⟨rfl, hb3⟩
        have hbw3 := hb.trans (hb3.mono hb.size)
        go_wp2_with fail
        refine bodyPost_ret (v := .tuple #[.slice oa out.length oc, .map (some w.heap.size)]) (by simp [results, Tryz.results50, go_sem]) rfl ?_
        rw [Hst.out]
        exact ⟨_, _, rfl, Ho.out.below hb3, rfl, HM.out.keeps hb3 (by omega), HE.out, hEl, hout, hbw3⟩
      | some x =>
        obtain ⟨rs, n⟩ := x
        rw [hf] at HFs
        have Hst := Lib.hid ((hgo rs n hf).symm.trans HR.out)
        have hnl := first_len hf
        have HE2 := Lib.hid (hput n (by omega))
        clear hf hstop hgo hput
        have hmn : m + n ≤ 4202304 := by omega
        go_wp2_with fail
        refine (Hnm.out _).mono ?_
        rintro e w1 ⟨rfl, rfl⟩
        go_wp2_with fail
        refine HRd.out.mono ?_
        rintro e w2 ⟨rfl, rfl⟩
        go_wp2_with fail
        refine (HFs.out _).mono ?_
        rintro e w3 ⟨rfl, hb3⟩
        have hbw3 := hb.trans (hb3.mono hb.size)
        have ho3 := Ho.out.below hb3
        have hM3 := HM.out.keeps hb3 (by omega)
        have hsz3 := hb3.size
        have Ho3 := Lib.hid ho3
        have HM3 := Lib.hid hM3
        clear ho3 hM3
        simp only [firB, firN, Option.isSome_some]
        obtain ⟨q, hq⟩ : ∃ q, mkB rs = q := ⟨_, rfl⟩
        rw [hq] at Hst
        rw [hq]
        clear hq
        have hmn2 : ((m + n : Nat) : Int) = (m : Int) + (n : Int) := Int.natCast_add m n
        go_wp2_with (at_builtin; refine wpList_append_rows _ rfl _ _ 23 rfl strLay (w.heap.size + 1) 9 i0 (.string ⟨#[]⟩) 16 Tryz.underlying23 Hi.out Hz0.out Hz1.out Hz2.out rfl (by decide) _ out rfl (Ho3.out.alloc _) ⟨w3.heap.size, 0, none⟩ 1 q rfl (cells_new_at w3 w3.heap.size #[.string q] 9 rfl) (by unfold maxLen; omega) (by omega) (by simp; omega) ?_; intro va w4 hrow4 hg4 hv4; have hM4 := (HM3.out.keeps ((Below.refl w3.heap.size w3).alloc (Nat.le_refl _) (.cells #[.string q] 9)) HM3.out.lt).grown hg4 (fun e => by have := (Ho3.out.lt e.symm).1; omega); have hlk4 := Hlk.out w4 hM4; obtain ⟨w5, hu5, hM5, hg5⟩ := Hup.out w4 hM4 ((m : Int) + (n : Int)); simp only [intV] at hu5; clear hM4 hv4; go_frame)
        have hb4 := (hbw3.alloc hbw3.size (.cells #[.string q] 9)).grown hg4 (by simp; omega) (fun j ej => by have := (Ho3.out.lt ej).1; omega)
        have hb5 := hb4.grown hg5 hb4.size (fun j ej => by cases ej; exact Nat.le_refl _)
        have ho5 := hrow4.kept hg5 (.inr fun e => by have := (hrow4.lt e).1; omega)
        have hsz4 := hg4.size
        have hsz5 := hg5.size
        simp only [World.size_alloc] at hsz4
        have hpl2 := hpl ((m : Int) + (n : Int))
        obtain ⟨va2, vc2, rfl, _, _⟩ := hrow4.read
        go_roundw
        case rel => exact ⟨out ++ [q], _, by rw [List.length_append, List.length_singleton]; omega, ho5, hM5, HE2, by rw [List.length_append, List.length_singleton]; omega, Hst, by omega, hb5⟩
        case measure => simp only [lenV, List.length_append, List.length_singleton]; omega
    · have h8 : out.length = 800 := by omega
      have hlti : ¬ ((out.length : Int) < 800) := by omega
      have Hst := Lib.hid (HR.out.symm.trans (scan_end h8))
      clear h8
      go_wp2_with fail
      refine bodyPost_ret (v := .tuple #[.slice oa out.length oc, .map (some w.heap.size)]) (by simp [results, Tryz.results50, go_sem]) rfl ?_
      rw [Hst.out]
      exact ⟨_, _, rfl, ho, rfl, hM, HE.out, hEl, hout, hb⟩
end Go.Proofs.YtgglheelhbfgiaaGreatDoor

