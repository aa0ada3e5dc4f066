import Derived.Test.YtlenpifjkbcmdaaGreatDoorCodecW3
import Derived.Test.YtlenpifjkbcmdaaGreatDoorBytes
import Derived.Lib.BitFns
namespace Go.Proofs.YtlenpifjkbcmdaaGreatDoor
open Go Go.RowKit Go.Lib

theorem wid_bits : ∀ f u, f ≤ 8 → u < 256 ^ f → widF f u = (Lib.bitLen u + 7) / 8
  | 0, u, _, h => by
    have : u = 0 := by simpa using h
    subst this
    rfl
  | f + 1, u, hf, h => by
    have hu : u < 18446744073709551616 := Nat.lt_of_lt_of_le h (Nat.pow_le_pow_right (n := 256) (by omega) hf)
    unfold widF
    split
    · rename_i h0; subst h0; rfl
    · rename_i h0
      by_cases h256 : 256 ≤ u
      · rw [bitLen_shift8 u h256 hu, wid_bits f (u / 256) (by omega) (by rw [Nat.pow_succ] at h; omega)]
        omega
      · have e : u / 256 = 0 := by omega
        rw [e, wid_bits f 0 (by omega) (Nat.pow_pos (by omega))]
        have h1 : Lib.bitLen u ≤ 8 := Lib.bitLen_le8 ⟨u, by omega⟩
        have h2 := Lib.bitLen_half u h0 hu
        have h3 : Lib.bitLen 0 = 0 := rfl
        rw [h3]
        omega
theorem pow_bytes (m : Nat) : (2 : Int) ^ (8 * m) = ((256 ^ m : Nat) : Int) := by
  rw [Int.pow_mul]
  simp
theorem wrap_u64n (n : Int) : IntKind.u64.wrap n = (u64 n : Int) := by
  simp only [IntKind.wrap, IntKind.signed, IntKind.bits, u64]
  simp
  omega
set_option maxRecDepth 100000 in
set_option maxHeartbeats 1600000 in
theorem encNum_any (n : Int) (w : World) :
    Calls Tryz.prog 28 #[.int .i64 n] w fun e w' => e = .returned (.string ⟨(numL n).toArray⟩) ∧ Below w.heap.size w w' := by
  have hu := u64_bound n
  have HL := Lib.hid fun W => (Tryz.bits_Len64 (u64 n : Int) W (by omega) (by omega)).mono (R' := fun e w' => e = .returned (.int .i64 (Lib.bitLen (u64 n : Int).toNat)) ∧ W = w') fun _ _ h => ⟨h.1, h.2.symm⟩
  have hbl := wid_bits 8 (u64 n) (Nat.le_refl _) hu
  have hw := wrap_u64n n
  have hn : numL n = UInt8.ofNat (wid (u64 n)) :: beF (wid (u64 n)) (u64 n) := rfl
  have hwl := wid_le (u64 n)
  have h1 : wid (u64 n) = (Lib.bitLen (u64 n) + 7) / 8 := hbl
  have hblm : Lib.bitLen (u64 n) ≤ 1000 := by omega
  have hbl : ((Lib.bitLen (u64 n) : Int) + 7).tdiv 8 = wid (u64 n) := by
    rw [h1, Int.tdiv_eq_ediv_of_nonneg (by omega)]
    omega
  clear h1
  rw [Int.toNat_natCast] at HL
  rw [hn]
  clear hn
  generalize u64 n = u at *
  generalize Lib.bitLen u = bl at *
  generalize hwk : wid u = k at *
  have hb0 := (Below.refl w.heap.size w).alloc (Nat.le_refl _) (.cells #[.int .u8 (UInt8.ofNat k).toNat] 5)
  have hk8 : ((UInt8.ofNat k).toNat : Int) = k := by rw [UInt8.toNat_ofNat']; omega
  obtain ⟨i0, hi, hz0, hz1, hz2⟩ := info_parts byteInfo
  have Hi := Lib.hid hi
  have Hz0 := Lib.hid hz0
  have Hz1 := Lib.hid hz1
  have Hz2 := Lib.hid hz2
  clear hi hz0 hz1 hz2
  go_enter Tryz.func28, Tryz.ntmps28
  go_wp2_with fail
  refine (HL.out _).mono ?_
  rintro e w1 ⟨rfl, rfl⟩
  go_wp2_with fail
  go_loopw [4, 5] (fun va i wr => ∃ j : Nat, j ≤ k ∧ i = .int .i64 (k - 1 - j) ∧ OwnRows byteLay wr w.heap.size 5 va (UInt8.ofNat k :: (beF k u).take j) ∧ Below w.heap.size w wr) (fun _ i _ => (RowKit.intOf i + 1).toNat)
  case atStart => exact ⟨0, Nat.zero_le _, by simp, by rw [← hk8]; exact OwnRows.lit w byteLay w.heap.size w.heap.size 5 #[.int .u8 (UInt8.ofNat k).toNat] 1 [UInt8.ofNat k] rfl (Nat.le_refl _) (by decide) rfl rfl, by rw [← hk8]; exact hb0⟩
  case round =>
    obtain ⟨j, hj, rfl, hoa, hb⟩ := hrel
    by_cases hlt : j < k
    · have hst := beF_succ_take k u j hlt
      have hz : (u : Int) / 2 ^ (8 * (k - 1 - j)) % 256 = ((UInt8.ofNat (u / 256 ^ (k - 1 - j))).toNat : Int) := by
        rw [UInt8.toNat_ofNat', pow_bytes]
        norm_cast
      generalize UInt8.ofNat (u / 256 ^ (k - 1 - j)) = y at *
      have Hst := Lib.hid hst
      have hlen : (UInt8.ofNat k :: (beF k u).take j).length ≤ 100 := by rw [List.length_cons, List.length_take]; omega
      generalize (beF k u).take j = out at *
      clear hst
      go_wp2_with (at_builtin; refine wpList_append_rows _ rfl _ _ 96 rfl byteLay w.heap.size 5 i0 (.int .u8 0) 1 Tryz.underlying96 Hi.out Hz0.out Hz1.out Hz2.out rfl (by decide) _ _ rfl (hoa.alloc _) ⟨wr.heap.size, 0, none⟩ 1 y rfl (cells_new_at wr wr.heap.size #[.int .u8 y.toNat] 5 rfl) (by unfold maxLen; omega) (by omega) (by have := hb.size; simp; omega) ?_)
      intro va w4 hoa4 hg4 _
      have hb4 := (hb.alloc hb.size (.cells #[.int .u8 y.toNat] 5)).grown hg4 (by have := hb.size; simp; omega) (fun j ej => (hoa.lt ej).1)
      clear hg4 hoa
      go_wp2_with fail
      go_roundw
      case rel =>
        refine ⟨j + 1, by omega, by go_num, ?_, hb4⟩
        rw [Hst.out]
        exact hoa4
      case measure => simp [RowKit.intOf]; omega
    · obtain rfl : j = k := by omega
      rw [List.take_of_length_le (by rw [beF_len]; exact Nat.le_refl _)] at hoa
      generalize hL : UInt8.ofNat j :: beF j u = bs at *
      obtain ⟨a, cap, rfl, hra, _⟩ := hoa.read
      have hcv := conv_bytes hra cap
      go_wp2_with fail
      go_ret
      exact ⟨by rw [hL]; rfl, hb⟩
theorem textL_eq (s : ByteArray) (hs : s.size ≤ 100000000) : (⟨(textL s.data.toList).toArray⟩ : ByteArray) = (⟨(numL s.size).toArray⟩ : ByteArray) ++ s := by
  apply ba_ext
  rw [ByteArray.data_append, Array.toList_append]
  unfold textL numL
  rw [u64_nat (by omega), ← size_eq]
theorem numL_len (n : Int) : (numL n).length ≤ 9 := by
  unfold numL natL
  rw [List.length_cons, beF_len]
  have := wid_le (u64 n)
  omega
set_option maxRecDepth 100000 in
theorem encText_any (s : ByteArray) (w : World) (hs : s.size ≤ 100000000) :
    Calls Tryz.prog 31 #[.string s] w fun e w' => e = .returned (.string ⟨(textL s.data.toList).toArray⟩) ∧ Below w.heap.size w w' := by
  have HN := Lib.hid (encNum_any s.size w)
  have HT := Lib.hid (textL_eq s hs)
  have hl : (⟨(numL s.size).toArray⟩ : ByteArray).size ≤ 9 := by rw [size_eq]; exact numL_len _
  generalize hq : (⟨(numL s.size).toArray⟩ : ByteArray) = q at *
  go_enter Tryz.func31, Tryz.ntmps31
  go_wp2_with fail
  refine HN.out.mono ?_
  rintro e w1 ⟨rfl, hb⟩
  go_wp2_with fail
  go_ret
  exact ⟨by rw [HT.out]; rfl, hb⟩

theorem beF_cons : ∀ j u, beF (j + 1) u = UInt8.ofNat (u / 256 ^ j) :: beF j u
  | 0, u => by
    show [UInt8.ofNat (u % 256)] = [UInt8.ofNat (u / 256 ^ 0)]
    rw [Nat.pow_zero, Nat.div_one]
    congr 1
    apply UInt8.toNat_inj.1
    rw [UInt8.toNat_ofNat', UInt8.toNat_ofNat']
    omega
  | j + 1, u => by
    rw [beF, beF_cons j (u / 256), Nat.div_div_eq_div_mul, List.cons_append]
    have : 256 ^ (j + 1) = 256 * 256 ^ j := by rw [Nat.pow_succ, Nat.mul_comm]
    rw [this]
    rfl

end Go.Proofs.YtlenpifjkbcmdaaGreatDoor
