import Derived.Test.YtmbmaompoplbaaaLayW6
import Derived.Test.YtmbmaompoplbaaaScanPure
namespace Go.Proofs.Ytmbmaompoplbaaa
open Go.RowKit Go.Lib

theorem kInfo : (Try.prog.info? 34).map (fun i => (i.zero, i.size, i.bytes)) = some (some (.agg #[.int .i64 0, .string ⟨#[]⟩, .bool false, .string ⟨#[]⟩]), 4, 48) := by kernel_rfl
theorem intK : KeyOps Try.prog 3 (Value.int .i64) := keyOps_int Try.underlying3

set_option maxRecDepth 100000 in
set_option maxHeartbeats 1600000 in
theorem learn_any (a : Option Addr) (cap : Nat) (l : List Ent) (w : World) (hl : l.length ≤ 1000) (ha : RowsAt entLay w a l) :
    Calls Try.prog 12 #[.slice a l.length cap] w fun e w' => ∃ v, e = .returned v ∧ OwnRows kLay w' w.heap.size 34 v (l.map toK) ∧ Below w.heap.size w w' := by
  have HA := Lib.hid ha
  obtain ⟨i0, hi, hz0, hz1, hz2⟩ := info_parts kInfo
  have Hi := Lib.hid hi
  have Hz0 := Lib.hid hz0
  have Hz1 := Lib.hid hz1
  have Hz2 := Lib.hid hz2
  clear hi hz0 hz1 hz2 ha
  go_enter Try.func12, Try.ntmps12
  go_wp2_with fail
  go_loopw [3, 8] (fun va i wr => ∃ k : Nat, k ≤ l.length ∧ i = .int .i64 k ∧ OwnRows kLay wr w.heap.size 34 va ((l.take k).map toK) ∧ Below w.heap.size w wr) (fun _ i _ => l.length - (RowKit.intOf i).toNat)
  case atStart => exact ⟨0, Nat.zero_le _, rfl, OwnRows.nil _ _ _ _, Below.refl _ _⟩
  case round =>
    obtain ⟨k, hk, rfl, hoa, hb⟩ := hrel
    by_cases hlt : k < l.length
    · obtain ⟨x, hx⟩ := at_some hlt
      obtain ⟨b, off, rfl, hbl, c0, c1, c2, c3⟩ := ent_at (HA.out.keeps hb) hx
      have hst : (l.take (k + 1)).map toK = (l.take k).map toK ++ [toK x] := by rw [List.take_add_one, hx]; simp
      obtain ⟨xp, xi, xd, xt⟩ := x
      dsimp only [toK] at c0 c1 c2 c3 hst
      have Hst := Lib.hid hst
      have hsl : ((l.take k).map toK).length ≤ 1000 := by simp; omega
      clear hx hst
      generalize (l.take k).map toK = acts at *
      have hoa2 := hoa.alloc (.cells #[.string xp, .int .i64 xi, .bool xd, .string xt] 36)
      have hb2 := hb.alloc hb.size (.cells #[.string xp, .int .i64 xi, .bool xd, .string xt] 36)
      clear hoa
      go_wp2_with (at_builtin; refine wpList_append_rows _ rfl _ _ 31 rfl kLay w.heap.size 34 i0 (.agg #[.int .i64 0, .string ⟨#[]⟩, .bool false, .string ⟨#[]⟩]) 48 Try.underlying31 Hi.out Hz0.out Hz1.out Hz2.out rfl (by decide) _ _ rfl (hoa2.alloc _) ⟨wr.heap.size + 1, 0, none⟩ 1 ⟨xi, xp, xd, xt⟩ rfl (cells_new_at (wr.alloc (.cells #[.string xp, .int .i64 xi, .bool xd, .string xt] 36)) (wr.heap.size + 1) #[.int .i64 xi, .string xp, .bool xd, .string xt] 34 (by simp)) (by unfold maxLen; omega) (by omega) (by have := hb.size; simp; omega) ?_)
      intro va w4 hoa4 hg4 _
      have hb4 := (hb2.alloc hb2.size (.cells #[.int .i64 xi, .string xp, .bool xd, .string xt] 34)).grown hg4 (by have := hb.size; simp; omega) (fun j ej => (hoa2.lt ej).1)
      clear hg4 hoa2 hb2
      go_wp2_with fail
      go_roundw
      case rel =>
        refine ⟨k + 1, by omega, by go_num, ?_, hb4⟩
        rw [Hst.out]
        exact hoa4
      case measure => simp [RowKit.intOf]; omega
    · obtain rfl : k = l.length := by omega
      rw [List.take_length] at hoa
      go_wp2_with fail
      go_ret
      exact ⟨_, rfl, hoa, hb⟩
end Go.Proofs.Ytmbmaompoplbaaa
