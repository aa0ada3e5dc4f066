import Derived.Test.YtgjgeojhhglidaaDoorGlobW4
namespace Go.Proofs.YtgjgeojhhglidaaDoor
open Go.RowKit Go.Lib

/-- What arbourref09.Split has behind i bytes: the parts, and where the next one begins. -/
def splG (s : ByteArray) (c : UInt8) : Nat → List ByteArray × Nat
  | 0 => ([], 0)
  | i + 1 => if s.data.toList[i]? = some c then ((splG s c i).1 ++ [s.extract (splG s c i).2 i], i + 1) else splG s c i
def splitG (s : ByteArray) (c : UInt8) : List ByteArray := (splG s c s.size).1 ++ [s.extract (splG s c s.size).2 s.size]
theorem splG_le (s : ByteArray) (c : UInt8) : ∀ i, (splG s c i).2 ≤ i ∧ (splG s c i).1.length ≤ i
  | 0 => ⟨Nat.le_refl _, Nat.le_refl _⟩
  | i + 1 => by
    have := splG_le s c i
    unfold splG
    split
    · simp; omega
    · omega
theorem splG_yes {s : ByteArray} {c : UInt8} {i : Nat} (hi : i < s.size) (h : s[i] = c) : splG s c (i + 1) = ((splG s c i).1 ++ [s.extract (splG s c i).2 i], i + 1) := by
  have : s.data.toList[i]? = some c := by
    rw [List.getElem?_eq_getElem (by rw [← size_eq]; exact hi)]
    exact congrArg some h
  rw [splG, if_pos this]
theorem splG_no {s : ByteArray} {c : UInt8} {i : Nat} (hi : i < s.size) (h : ¬ s[i] = c) : splG s c (i + 1) = splG s c i := by
  have : ¬ s.data.toList[i]? = some c := by
    rw [List.getElem?_eq_getElem (by rw [← size_eq]; exact hi)]
    exact fun e => h (Option.some.inj e)
  rw [splG, if_neg this]

set_option maxRecDepth 100000 in
set_option maxHeartbeats 1600000 in
theorem rsplit_any (s : ByteArray) (c : UInt8) (w : World) (hs : s.size ≤ 100000) :
    Calls Tryd.prog 61 #[.string s, .int .u8 c.toNat] w fun e w' => ∃ v, e = .returned v ∧ OwnRows strLay w' w.heap.size 9 v (splitG s c) ∧ Below w.heap.size w w' := by
  obtain ⟨i0, hi, hz0, hz1, hz2⟩ := info_parts strInfo
  have Hi := Lib.hid hi
  have Hz0 := Lib.hid hz0
  have Hz1 := Lib.hid hz1
  have Hz2 := Lib.hid hz2
  clear hi hz0 hz1 hz2
  go_enter Tryd.func61, Tryd.ntmps61
  go_wp2_with fail
  go_loopw [5, 6, 7] (fun va at' i wr => ∃ k : Nat, k ≤ s.size ∧ at' = .int .i64 ((splG s c k).2 : Nat) ∧ i = .int .i64 k ∧ OwnRows strLay wr w.heap.size 9 va (splG s c k).1 ∧ Below w.heap.size w wr) (fun _ _ i _ => s.size - (RowKit.intOf i).toNat)
  case atStart => exact ⟨0, Nat.zero_le _, rfl, rfl, OwnRows.nil _ _ _ _, Below.refl _ _⟩
  case round =>
    obtain ⟨k, hk, rfl, rfl, hoa, hb⟩ := hrel
    obtain ⟨hle, hlen⟩ := splG_le s c k
    by_cases hlt : k < s.size
    · by_cases hc : s[k] = c
      · have hst := splG_yes hlt hc
        have Hst := Lib.hid hst
        have e1 : ((s[k].toNat : Int) == (c.toNat : Int)) = true := by rw [hc]; simp
        clear hst hc
        generalize (splG s c k).1 = out at *
        generalize (splG s c k).2 = m at *
        go_wp2_with (at_builtin; refine wpList_append_rows _ rfl _ _ 76 rfl strLay w.heap.size 9 i0 (.string ⟨#[]⟩) 16 Tryd.underlying76 Hi.out Hz0.out Hz1.out Hz2.out rfl (by decide) _ _ rfl (hoa.alloc _) ⟨wr.heap.size, 0, none⟩ 1 (s.extract m k) rfl (cells_new_at wr wr.heap.size #[.string (s.extract m k)] 9 rfl) (by unfold maxLen; omega) (by omega) (by have := hb.size; simp; omega) ?_)
        intro va w4 hoa4 hg4 _
        have hb4 := (hb.alloc hb.size (.cells #[.string (s.extract m k)] 9)).grown hg4 (by have := hb.size; simp; omega) (fun j ej => (hoa.lt ej).1)
        clear hg4 hoa
        go_wp2_with fail
        go_roundw
        case rel =>
          refine ⟨k + 1, by omega, by rw [Hst.out]; go_num, by go_num, ?_, hb4⟩
          rw [Hst.out]
          exact hoa4
        case measure => simp [RowKit.intOf]; omega
      · have hst := splG_no hlt hc
        have Hst := Lib.hid hst
        have e1 : ((s[k].toNat : Int) == (c.toNat : Int)) = false := by rw [beq_eq_false_iff_ne]; exact fun e => hc (by rw [← UInt8.toNat_inj]; exact Int.ofNat.inj e)
        clear hst hc
        go_wp2_with fail
        go_roundw
        case rel =>
          refine ⟨k + 1, by omega, by rw [Hst.out], by go_num, ?_, hb⟩
          rw [Hst.out]
          exact hoa
        case measure => simp [RowKit.intOf]; omega
    · obtain rfl : k = s.size := by omega
      have hsp : splitG s c = (splG s c s.size).1 ++ [s.extract (splG s c s.size).2 s.size] := rfl
      have Hsp := Lib.hid hsp
      clear hsp
      generalize (splG s c s.size).1 = out at *
      generalize (splG s c s.size).2 = m at *
      go_wp2_with (at_builtin; refine wpList_append_rows _ rfl _ _ 76 rfl strLay w.heap.size 9 i0 (.string ⟨#[]⟩) 16 Tryd.underlying76 Hi.out Hz0.out Hz1.out Hz2.out rfl (by decide) _ _ rfl (hoa.alloc _) ⟨wr.heap.size, 0, none⟩ 1 (s.extract m s.size) rfl (cells_new_at wr wr.heap.size #[.string (s.extract m s.size)] 9 rfl) (by unfold maxLen; omega) (by omega) (by have := hb.size; simp; omega) ?_)
      intro va w4 hoa4 hg4 _
      have hb4 := (hb.alloc hb.size (.cells #[.string (s.extract m s.size)] 9)).grown hg4 (by have := hb.size; simp; omega) (fun j ej => (hoa.lt ej).1)
      clear hg4 hoa
      go_wp2_with fail
      go_ret
      exact ⟨_, rfl, by rw [Hsp.out]; exact hoa4, hb4⟩
end Go.Proofs.YtgjgeojhhglidaaDoor
