import Derived.Test.YtifpdejgkofnaaaDoorOpsW13
import Derived.Test.YtifpdejgkofnaaaDoorOpsW10
namespace Go.Proofs.YtifpdejgkofnaaaDoor
open Go Go.RowKit Go.Lib

def opA : Opr := ⟨1, 0, 1, 1, 1, 0, true, 0, 0, ⟨#[97]⟩, ⟨#[]⟩⟩
def opB : Opr := ⟨1, 0, 2, 1, 1, 0, true, 0, 0, ⟨#[97]⟩, ⟨#[]⟩⟩
theorem addA : addO [] opA = ([opA], 0) := by kernel_rfl
theorem addB : addO [] opB = ([], 26) := by kernel_rfl
theorem addC : addO [opA] opA = ([opA], 0) := by kernel_rfl
theorem memC : memB [opA] opA = true := by kernel_rfl
theorem decE : decO [] = (noOpr, 10) := by kernel_rfl
theorem ins_nil (x : Opr) : InsOk [] x := fun v vb B W h1 h2 h3 => insertEnd_any v [] x vb B W (by simp) h1 h2 h3
theorem addB_any (w : World) : Calls Tryd.prog 18 #[.slice none 0 0, .agg #[.int .i64 1, .int .i64 0, .int .i64 2, .int .i64 1, .int .i64 1, .int .i64 0, .bool true, .int .i64 0, .int .i64 0, .string ⟨#[97]⟩, .string ⟨#[]⟩]] w fun e w' => ∃ a' cap', e = .returned (.tuple #[.slice a' 0 cap', .int .i64 26]) ∧ Below w.heap.size w w' := by
  have h := add_walk none 0 [] opB w (by simp) (by decide) (by decide) (fun _ => rfl) (Nat.le_refl _) (RowsAt.nil _ _ _) (fun _ _ _ => ins_nil _)
  rw [addB] at h
  exact h.mono fun e w' ⟨a', c', h1, h2, h3, h4, h5⟩ => ⟨a', c', h1, h5⟩
theorem addA_any (w : World) : Calls Tryd.prog 18 #[.slice none 0 0, .agg #[.int .i64 1, .int .i64 0, .int .i64 1, .int .i64 1, .int .i64 1, .int .i64 0, .bool true, .int .i64 0, .int .i64 0, .string ⟨#[97]⟩, .string ⟨#[]⟩]] w fun e w' => ∃ a' cap', e = .returned (.tuple #[.slice a' 1 cap', .int .i64 0]) ∧ RowsAt oprLay w' a' [opA] ∧ (a' = none → cap' = 0) ∧ 1 ≤ cap' ∧ Below w.heap.size w w' := by
  have h := add_walk none 0 [] opA w (by simp) (by decide) (by decide) (fun _ => rfl) (Nat.le_refl _) (RowsAt.nil _ _ _) (fun _ _ _ => ins_nil _)
  rw [addA] at h
  exact h
theorem addC_any (a : Option Addr) (cap : Nat) (w : World) (hn : a = none → cap = 0) (hc : 1 ≤ cap) (ha : RowsAt oprLay w a [opA]) : Calls Tryd.prog 18 #[.slice a 1 cap, .agg #[.int .i64 1, .int .i64 0, .int .i64 1, .int .i64 1, .int .i64 1, .int .i64 0, .bool true, .int .i64 0, .int .i64 0, .string ⟨#[97]⟩, .string ⟨#[]⟩]] w fun e w' => ∃ a' cap', e = .returned (.tuple #[.slice a' 1 cap', .int .i64 0]) ∧ RowsAt oprLay w' a' [opA] ∧ Below w.heap.size w w' := by
  have h := add_walk a cap [opA] opA w (by simp) (by decide) (by decide) hn hc ha (fun _ h _ => by rw [memC] at h; cases h)
  rw [addC] at h
  exact h.mono fun e w' ⟨a', c', h1, h2, h3, h4, h5⟩ => ⟨a', c', h1, h2, h5⟩
theorem decE_any (w : World) : Calls Tryd.prog 16 #[.string ⟨#[]⟩] w fun e w' => e = .returned (.tuple #[.agg #[.int .i64 0, .int .i64 0, .int .i64 0, .int .i64 0, .int .i64 0, .int .i64 0, .bool false, .int .i64 0, .int .i64 0, .string ⟨#[]⟩, .string ⟨#[]⟩], .int .i64 10]) ∧ Below w.heap.size w w' := by
  have h := decode_any ⟨#[]⟩ w (by decide)
  rw [show (ByteArray.mk #[]).data.toList = [] from rfl, decE] at h
  exact h
theorem sameA_any (a b : Option Addr) (cap cap' : Nat) (w : World) (ha : RowsAt oprLay w a [opA]) (hb : RowsAt oprLay w b [opA]) : Calls Tryd.prog 20 #[.slice a 1 cap, .slice b 1 cap'] w fun e w' => e = .returned (.bool true) ∧ ∃ n, w' = w.drewN n := by
  have h := oprs_any a b cap cap' [opA] [opA] w (by simp) ha hb
  simpa using h

set_option maxRecDepth 100000 in
theorem first_any (w : World) : Calls Tryd.prog 35 #[] w fun e w' => e = .returned (.agg #[.int .i64 1, .int .i64 0, .int .i64 1, .int .i64 1, .int .i64 1, .int .i64 0, .bool true, .int .i64 0, .int .i64 0, .string ⟨#[97]⟩, .string ⟨#[]⟩]) ∧ Below w.heap.size w w' := by
  go_enter Tryd.func35, Tryd.ntmps35
  go_wp2_with fail
  refine bodyPost_ret (v := .agg #[.int .i64 1, .int .i64 0, .int .i64 1, .int .i64 1, .int .i64 1, .int .i64 0, .bool true, .int .i64 0, .int .i64 0, .string ⟨#[97]⟩, .string ⟨#[]⟩]) (by simp [results, Tryd.results35, go_sem]) rfl ⟨rfl, ?_⟩
  exact ((Below.refl _ _).alloc (Nat.le_refl _) _).alloc (by simp) _

set_option maxRecDepth 100000 in
set_option maxHeartbeats 6400000 in
theorem awake06_any (w : World) : Calls Tryd.prog 15 #[] w fun e w' => e = .returned (.bool true) ∧ Below w.heap.size w w' := by
  have HFI := Lib.hid first_any
  have HB := Lib.hid addB_any
  have HA := Lib.hid addA_any
  have HC := Lib.hid addC_any
  have HD := Lib.hid decE_any
  have HS := Lib.hid sameA_any
  go_enter Tryd.func15, Tryd.ntmps15
  go_wp2_with fail
  refine (HFI.out _).mono ?_
  rintro e w1 ⟨rfl, hb1⟩
  have hX := box_VarAt w1 opA
  have hX2 := hX.keeps ((Below.refl _ _).alloc (Nat.le_refl _) (.cells #[.int .i64 1, .int .i64 0, .int .i64 2, .int .i64 1, .int .i64 1, .int .i64 0, .bool true, .int .i64 0, .int .i64 0, .string ⟨#[97]⟩, .string ⟨#[]⟩] 25)) hX.1
  have hBw := (hb1.alloc hb1.size (.cells #[.int .i64 1, .int .i64 0, .int .i64 1, .int .i64 1, .int .i64 1, .int .i64 0, .bool true, .int .i64 0, .int .i64 0, .string ⟨#[97]⟩, .string ⟨#[]⟩] 25)).alloc (by have := hb1.size; simp; omega) (.cells #[.int .i64 1, .int .i64 0, .int .i64 2, .int .i64 1, .int .i64 1, .int .i64 0, .bool true, .int .i64 0, .int .i64 0, .string ⟨#[97]⟩, .string ⟨#[]⟩] 25)
  go_wp2_with fail
  refine (HB.out _).mono ?_
  rintro e w2 ⟨a2, c2, rfl, hb2⟩
  have hX3 := hX2.keeps hb2 hX2.1
  have hB2 := hBw.trans (hb2.mono hBw.size)
  clear hX hX2 hBw
  have x0 := hX3.2.2 0 _ rfl
  have x1 := hX3.2.2 1 _ rfl
  have x2 := hX3.2.2 2 _ rfl
  have x3 := hX3.2.2 3 _ rfl
  have x4 := hX3.2.2 4 _ rfl
  have x5 := hX3.2.2 5 _ rfl
  have x6 := hX3.2.2 6 _ rfl
  have x7 := hX3.2.2 7 _ rfl
  have x8 := hX3.2.2 8 _ rfl
  have x9 := hX3.2.2 9 _ rfl
  have x10 := hX3.2.2 10 _ rfl
  go_wp2_with fail
  refine (HA.out _).mono ?_
  rintro e w3 ⟨a3, c3, rfl, hr3, hn3, hc3, hb3⟩
  have hX4 := hX3.keeps hb3 hX3.1
  have hB3 := hB2.trans (hb3.mono hB2.size)
  clear x0 x1 x2 x3 x4 x5 x6 x7 x8 x9 x10
  clear hX3
  have x0 := hX4.2.2 0 _ rfl
  have x1 := hX4.2.2 1 _ rfl
  have x2 := hX4.2.2 2 _ rfl
  have x3 := hX4.2.2 3 _ rfl
  have x4 := hX4.2.2 4 _ rfl
  have x5 := hX4.2.2 5 _ rfl
  have x6 := hX4.2.2 6 _ rfl
  have x7 := hX4.2.2 7 _ rfl
  have x8 := hX4.2.2 8 _ rfl
  have x9 := hX4.2.2 9 _ rfl
  have x10 := hX4.2.2 10 _ rfl
  go_wp2_with fail
  refine (HC.out _ _ _ hn3 hc3 hr3).mono ?_
  rintro e w4 ⟨a4, c4, rfl, hr4, hb4⟩
  have hB4 := hB3.trans (hb4.mono hB3.size)
  have hr3' := hr3.keeps hb4
  clear x0 x1 x2 x3 x4 x5 x6 x7 x8 x9 x10
  clear hX4
  go_wp2_with fail
  refine (HD.out _).mono ?_
  rintro e w5 ⟨rfl, hb5⟩
  have hB5 := (hB4.trans (hb5.mono hB4.size)).alloc (hB4.trans (hb5.mono hB4.size)).size (.cells #[.int .i64 0, .int .i64 0, .int .i64 0, .int .i64 0, .int .i64 0, .int .i64 0, .bool false, .int .i64 0, .int .i64 0, .string ⟨#[]⟩, .string ⟨#[]⟩] 25)
  have hr5 := (hr3'.keeps hb5).keeps ((Below.refl _ _).alloc (Nat.le_refl _) (.cells #[.int .i64 0, .int .i64 0, .int .i64 0, .int .i64 0, .int .i64 0, .int .i64 0, .bool false, .int .i64 0, .int .i64 0, .string ⟨#[]⟩, .string ⟨#[]⟩] 25))
  have hr6 := (hr4.keeps hb5).keeps ((Below.refl _ _).alloc (Nat.le_refl _) (.cells #[.int .i64 0, .int .i64 0, .int .i64 0, .int .i64 0, .int .i64 0, .int .i64 0, .bool false, .int .i64 0, .int .i64 0, .string ⟨#[]⟩, .string ⟨#[]⟩] 25))
  go_wp2_with fail
  refine (HS.out _ _ _ _ _ hr5 hr6).mono ?_
  rintro e w6 ⟨rfl, n6, rfl⟩
  go_wp2_with fail
  go_ret
  exact ⟨rfl, belowDrew hB5 n6⟩

/-! ### few -/
def bigO (x : Opr) : Bool := decide (200 < x.name.size) || decide (2000 < x.man.size)
def fewO (l : List Opr) : Bool := decide (l.length ≤ 450) && !l.any bigO
set_option maxRecDepth 100000 in
set_option maxHeartbeats 1600000 in
theorem few06_any (a : Option Addr) (cap : Nat) (l : List Opr) (w : World) (hl : l.length ≤ 140737488351232) (ha : RowsAt oprLay w a l) :
    Calls Tryd.prog 12 #[.slice a l.length cap] w fun e w' => e = .returned (.bool (fewO l)) ∧ w' = w := by
  have HA := Lib.hid ha
  have HF := Lib.hid (show fewO l = (decide (l.length ≤ 450) && !l.any bigO) from rfl)
  generalize fewO l = fo at *
  clear ha
  by_cases h450 : l.length ≤ 450
  · go_enter Tryd.func12, Tryd.ntmps12
    go_wp2_with fail
    go_loopw [3] (fun i wr => ∃ k : Nat, k ≤ l.length ∧ i = .int .i64 k ∧ Hid (∀ j y, j < k → l[j]? = some y → bigO y = false) ∧ wr = w) (fun i _ => l.length - (RowKit.intOf i).toNat)
    case atStart => exact ⟨0, Nat.zero_le _, rfl, Lib.hid (fun j _ hj => absurd hj (Nat.not_lt_zero _)), rfl⟩
    case round =>
      obtain ⟨k, hk, rfl, Hk, rfl⟩ := hrel
      by_cases hlt : k < l.length
      · obtain ⟨y, hy⟩ := at_some hlt
        obtain ⟨b, off, rfl, hbl, c0, c1, c2, c3, c4, c5, c6, c7, c8, c9, c10⟩ := opr_at HA.out hy
        have Hy := Lib.hid hy
        by_cases h1 : 200 < y.name.size
        · have Hr := Lib.hid (any_hit (p := bigO) Hy.out (by unfold bigO; simp [h1]))
          go_wp2_with fail
          go_ret
          exact ⟨ret_bool (by rw [HF.out, Hr.out]; simp), rfl⟩
        by_cases h2 : 2000 < y.man.size
        · have Hr := Lib.hid (any_hit (p := bigO) Hy.out (by unfold bigO; simp [h2]))
          go_wp2_with fail
          go_ret
          exact ⟨ret_bool (by rw [HF.out, Hr.out]; simp), rfl⟩
        have Hn := Lib.hid (show bigO y = false by unfold bigO; simp [h1, h2])
        go_wp2_with fail
        go_roundw
        case rel =>
          refine ⟨k + 1, by omega, by go_num, fun j z hj hz => ?_, by first | rfl | trivial⟩
          by_cases e : j = k
          · subst e
            rw [Hy.out] at hz
            cases hz
            exact Hn.out
          · exact Hk.out j z (by omega) hz
        case measure => simp [RowKit.intOf]; omega
      · have Hr := Lib.hid (any_none (l := l) (p := bigO) (fun j y hj hy => Hk.out j y (by omega) hy))
        go_wp2_with fail
        go_ret
        exact ⟨ret_bool (by rw [HF.out, Hr.out]; simp; omega), rfl⟩
  · go_enter Tryd.func12, Tryd.ntmps12
    go_wp2_with fail
    go_ret
    exact ⟨ret_bool (by rw [HF.out]; simp; omega), rfl⟩
end Go.Proofs.YtifpdejgkofnaaaDoor
