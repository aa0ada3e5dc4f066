/-
  
-/
import Derived.Test.YtgjgeojhhglidaaDoorLayW6
import Derived.Test.YtgjgeojhhglidaaDoorDrawn
import Derived.Test.YtgjgeojhhglidaaDoorUnder
import Derived.Shelf.Small.Strs
namespace Go.Proofs.YtgjgeojhhglidaaDoor
open Go.RowKit Go.Lib

theorem inB_step {now want : List Ent} {k : Nat} {y : Ent} (h : now[k]? = some y) (p : ByteArray) : inB now want (k + 1) p = (inB now want k p || (y.dir && !staysE y want && underB p y.path)) := by
  unfold inB
  rw [List.take_add_one, h, Option.toList_some, List.any_append]
  simp

end Go.Proofs.YtgjgeojhhglidaaDoor

namespace Go.Proofs.YtgjgeojhhglidaaDoor
open Go.RowKit Go.Lib

def wakeNow : List Ent := [⟨⟨#[97]⟩, 0, false, ⟨#[]⟩⟩, ⟨⟨#[100]⟩, 0, true, ⟨#[]⟩⟩, ⟨⟨#[100, 47, 120]⟩, 0, false, ⟨#[]⟩⟩]
def wakeWant : List Ent := [⟨⟨#[97]⟩, 0, true, ⟨#[]⟩⟩, ⟨⟨#[100]⟩, 0, true, ⟨#[]⟩⟩, ⟨⟨#[100, 47, 121]⟩, 0, false, ⟨#[]⟩⟩]
def wakeActs : List Act3 := [⟨1, ⟨#[97]⟩, ⟨#[]⟩⟩, ⟨1, ⟨#[100, 47, 120]⟩, ⟨#[]⟩⟩, ⟨2, ⟨#[97]⟩, ⟨#[]⟩⟩, ⟨3, ⟨#[100, 47, 121]⟩, ⟨#[]⟩⟩]
theorem wake_plan : sameA (planA wakeNow wakeWant) wakeActs = true := by decide +kernel
theorem wake_len : (planA wakeNow wakeWant).length = 4 := by decide +kernel

set_option maxRecDepth 100000 in
set_option maxHeartbeats 800000 in
theorem awake21_any (w : World) : Calls Tryd.prog 32 #[] w fun e w' => e = .returned (.bool true) ∧ Below w.heap.size w w' := by
  go_enter Tryd.func32, Tryd.ntmps32
  go_wp2_with fail
  have hb0 := (Below.refl w.heap.size w).alloc (Nat.le_refl _) (.cells #[.string ⟨#[97]⟩, .int .i64 0, .bool false, .string ⟨#[]⟩, .string ⟨#[100]⟩, .int .i64 0, .bool true, .string ⟨#[]⟩, .string ⟨#[100, 47, 120]⟩, .int .i64 0, .bool false, .string ⟨#[]⟩] 38)
  have hr0 := rows_new entLay w _ #[.string ⟨#[97]⟩, .int .i64 0, .bool false, .string ⟨#[]⟩, .string ⟨#[100]⟩, .int .i64 0, .bool true, .string ⟨#[]⟩, .string ⟨#[100, 47, 120]⟩, .int .i64 0, .bool false, .string ⟨#[]⟩] 38 wakeNow rfl rfl
  generalize hw1 : w.alloc (.cells #[.string ⟨#[97]⟩, .int .i64 0, .bool false, .string ⟨#[]⟩, .string ⟨#[100]⟩, .int .i64 0, .bool true, .string ⟨#[]⟩, .string ⟨#[100, 47, 120]⟩, .int .i64 0, .bool false, .string ⟨#[]⟩] 38) = w1 at *
  have hs1 : w.heap.size + 1 = w1.heap.size := by rw [← hw1]; simp
  rw [hs1]
  have hb1 := hb0.alloc (by omega) (.cells #[.string ⟨#[97]⟩, .int .i64 0, .bool true, .string ⟨#[]⟩, .string ⟨#[100]⟩, .int .i64 0, .bool true, .string ⟨#[]⟩, .string ⟨#[100, 47, 121]⟩, .int .i64 0, .bool false, .string ⟨#[]⟩] 38)
  have hr1 := rows_new entLay w1 _ #[.string ⟨#[97]⟩, .int .i64 0, .bool true, .string ⟨#[]⟩, .string ⟨#[100]⟩, .int .i64 0, .bool true, .string ⟨#[]⟩, .string ⟨#[100, 47, 121]⟩, .int .i64 0, .bool false, .string ⟨#[]⟩] 38 wakeWant rfl rfl
  have hr0' := hr0.keeps ((Below.refl _ w1).alloc (Nat.le_refl _) (.cells #[.string ⟨#[97]⟩, .int .i64 0, .bool true, .string ⟨#[]⟩, .string ⟨#[100]⟩, .int .i64 0, .bool true, .string ⟨#[]⟩, .string ⟨#[100, 47, 121]⟩, .int .i64 0, .bool false, .string ⟨#[]⟩] 38))
  generalize w1.alloc (.cells #[.string ⟨#[97]⟩, .int .i64 0, .bool true, .string ⟨#[]⟩, .string ⟨#[100]⟩, .int .i64 0, .bool true, .string ⟨#[]⟩, .string ⟨#[100, 47, 121]⟩, .int .i64 0, .bool false, .string ⟨#[]⟩] 38) = w2 at *
  refine (plan_any _ _ 3 3 wakeNow wakeWant w2 (by decide) (by decide) (by decide) hr0' hr1).mono ?_
  rintro e w3 ⟨v, rfl, hoa, hb3⟩
  have hb4 := hb1.trans (hb3.mono hb1.size)
  obtain ⟨a, cap, rfl, hra, _⟩ := hoa.read
  rw [wake_len]
  clear hr0 hr0' hr1 hb0 hb1 hb3 hoa hs1 hw1
  go_wp2_with fail
  have hr5 := rows_new act3Lay w3 _ #[.int .i64 1, .string ⟨#[97]⟩, .string ⟨#[]⟩, .int .i64 1, .string ⟨#[100, 47, 120]⟩, .string ⟨#[]⟩, .int .i64 2, .string ⟨#[97]⟩, .string ⟨#[]⟩, .int .i64 3, .string ⟨#[100, 47, 121]⟩, .string ⟨#[]⟩] 84 wakeActs rfl rfl
  have hra5 := hra.keeps ((Below.refl _ w3).alloc (Nat.le_refl _) (.cells #[.int .i64 1, .string ⟨#[97]⟩, .string ⟨#[]⟩, .int .i64 1, .string ⟨#[100, 47, 120]⟩, .string ⟨#[]⟩, .int .i64 2, .string ⟨#[97]⟩, .string ⟨#[]⟩, .int .i64 3, .string ⟨#[100, 47, 121]⟩, .string ⟨#[]⟩] 84))
  have hb5 := hb4.alloc hb4.size (.cells #[.int .i64 1, .string ⟨#[97]⟩, .string ⟨#[]⟩, .int .i64 1, .string ⟨#[100, 47, 120]⟩, .string ⟨#[]⟩, .int .i64 2, .string ⟨#[97]⟩, .string ⟨#[]⟩, .int .i64 3, .string ⟨#[100, 47, 121]⟩, .string ⟨#[]⟩] 84)
  have HC := acts_any a _ cap 4 (planA wakeNow wakeWant) wakeActs _ (by rw [wake_len]; decide) hra5 hr5
  rw [wake_plan, wake_len] at HC
  refine HC.mono ?_
  rintro e w6 ⟨rfl, n, rfl⟩
  go_wp2_with fail
  go_ret
  exact ⟨rfl, below_drewN hb5 n⟩

def lawB (now want : List Ent) : Bool := !fewE 500 5000 now || !fewE 500 5000 want
end Go.Proofs.YtgjgeojhhglidaaDoor

