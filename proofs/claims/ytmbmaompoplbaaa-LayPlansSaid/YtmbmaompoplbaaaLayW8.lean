import Derived.Test.YtmbmaompoplbaaaLayW7
namespace Go.Proofs.Ytmbmaompoplbaaa
open Go.RowKit Go.Lib

def wakeNow : List Ent := [⟨⟨#[97]⟩, 0, false, ⟨#[]⟩⟩, ⟨⟨#[100]⟩, 0, true, ⟨#[]⟩⟩, ⟨⟨#[100, 47, 120]⟩, 0, false, ⟨#[]⟩⟩]
def wakeWant : List Ent := [⟨⟨#[97]⟩, 0, true, ⟨#[]⟩⟩, ⟨⟨#[100]⟩, 0, true, ⟨#[]⟩⟩, ⟨⟨#[100, 47, 121]⟩, 0, false, ⟨#[]⟩⟩]
def wakeActs : List Act3 := [⟨1, ⟨#[97]⟩, ⟨#[]⟩⟩, ⟨1, ⟨#[100, 47, 120]⟩, ⟨#[]⟩⟩, ⟨2, ⟨#[97]⟩, ⟨#[]⟩⟩, ⟨3, ⟨#[100, 47, 121]⟩, ⟨#[]⟩⟩]
theorem wake_plan : sameA (planA wakeNow wakeWant) wakeActs = true := by decide +kernel
theorem wake_len : (planA wakeNow wakeWant).length = 4 := by decide +kernel

set_option maxRecDepth 100000 in
set_option maxHeartbeats 800000 in
theorem awake_any (w : World) : Calls Try.prog 9 #[] w fun e w' => e = .returned (.bool true) ∧ Below w.heap.size w w' := by
  go_enter Try.func9, Try.ntmps9
  go_wp2_with fail
  have hb0 := (Below.refl w.heap.size w).alloc (Nat.le_refl _) (.cells #[.string ⟨#[97]⟩, .int .i64 0, .bool false, .string ⟨#[]⟩, .string ⟨#[100]⟩, .int .i64 0, .bool true, .string ⟨#[]⟩, .string ⟨#[100, 47, 120]⟩, .int .i64 0, .bool false, .string ⟨#[]⟩] 36)
  have hr0 := rows_new entLay w _ #[.string ⟨#[97]⟩, .int .i64 0, .bool false, .string ⟨#[]⟩, .string ⟨#[100]⟩, .int .i64 0, .bool true, .string ⟨#[]⟩, .string ⟨#[100, 47, 120]⟩, .int .i64 0, .bool false, .string ⟨#[]⟩] 36 wakeNow rfl rfl
  generalize hw1 : w.alloc (.cells #[.string ⟨#[97]⟩, .int .i64 0, .bool false, .string ⟨#[]⟩, .string ⟨#[100]⟩, .int .i64 0, .bool true, .string ⟨#[]⟩, .string ⟨#[100, 47, 120]⟩, .int .i64 0, .bool false, .string ⟨#[]⟩] 36) = w1 at *
  have hs1 : w.heap.size + 1 = w1.heap.size := by rw [← hw1]; simp
  rw [hs1]
  have hb1 := hb0.alloc (by omega) (.cells #[.string ⟨#[97]⟩, .int .i64 0, .bool true, .string ⟨#[]⟩, .string ⟨#[100]⟩, .int .i64 0, .bool true, .string ⟨#[]⟩, .string ⟨#[100, 47, 121]⟩, .int .i64 0, .bool false, .string ⟨#[]⟩] 36)
  have hr1 := rows_new entLay w1 _ #[.string ⟨#[97]⟩, .int .i64 0, .bool true, .string ⟨#[]⟩, .string ⟨#[100]⟩, .int .i64 0, .bool true, .string ⟨#[]⟩, .string ⟨#[100, 47, 121]⟩, .int .i64 0, .bool false, .string ⟨#[]⟩] 36 wakeWant rfl rfl
  have hr0' := hr0.keeps ((Below.refl _ w1).alloc (Nat.le_refl _) (.cells #[.string ⟨#[97]⟩, .int .i64 0, .bool true, .string ⟨#[]⟩, .string ⟨#[100]⟩, .int .i64 0, .bool true, .string ⟨#[]⟩, .string ⟨#[100, 47, 121]⟩, .int .i64 0, .bool false, .string ⟨#[]⟩] 36))
  generalize w1.alloc (.cells #[.string ⟨#[97]⟩, .int .i64 0, .bool true, .string ⟨#[]⟩, .string ⟨#[100]⟩, .int .i64 0, .bool true, .string ⟨#[]⟩, .string ⟨#[100, 47, 121]⟩, .int .i64 0, .bool false, .string ⟨#[]⟩] 36) = w2 at *
  refine (plan_any _ _ 3 3 wakeNow wakeWant w2 (by decide) (by decide) (by decide) hr0' hr1).mono ?_
  rintro e w3 ⟨v, rfl, hoa, hb3⟩
  have hb4 := hb1.trans (hb3.mono hb1.size)
  obtain ⟨a, cap, rfl, hra, _⟩ := hoa.read
  rw [wake_len]
  clear hr0 hr0' hr1 hb0 hb1 hb3 hoa hs1 hw1
  go_wp2_with fail
  have hr5 := rows_new act3Lay w3 _ #[.int .i64 1, .string ⟨#[97]⟩, .string ⟨#[]⟩, .int .i64 1, .string ⟨#[100, 47, 120]⟩, .string ⟨#[]⟩, .int .i64 2, .string ⟨#[97]⟩, .string ⟨#[]⟩, .int .i64 3, .string ⟨#[100, 47, 121]⟩, .string ⟨#[]⟩] 39 wakeActs rfl rfl
  have hra5 := hra.keeps ((Below.refl _ w3).alloc (Nat.le_refl _) (.cells #[.int .i64 1, .string ⟨#[97]⟩, .string ⟨#[]⟩, .int .i64 1, .string ⟨#[100, 47, 120]⟩, .string ⟨#[]⟩, .int .i64 2, .string ⟨#[97]⟩, .string ⟨#[]⟩, .int .i64 3, .string ⟨#[100, 47, 121]⟩, .string ⟨#[]⟩] 39))
  have hb5 := hb4.alloc hb4.size (.cells #[.int .i64 1, .string ⟨#[97]⟩, .string ⟨#[]⟩, .int .i64 1, .string ⟨#[100, 47, 120]⟩, .string ⟨#[]⟩, .int .i64 2, .string ⟨#[97]⟩, .string ⟨#[]⟩, .int .i64 3, .string ⟨#[100, 47, 121]⟩, .string ⟨#[]⟩] 39)
  have HC := acts_any a _ cap 4 (planA wakeNow wakeWant) wakeActs _ (by rw [wake_len]; decide) hra5 hr5
  rw [wake_plan, wake_len] at HC
  refine HC.mono ?_
  rintro e w6 ⟨rfl, n, rfl⟩
  go_wp2_with fail
  go_ret
  exact ⟨rfl, below_drewN hb5 n⟩

def lawB (now want : List Ent) : Bool := !fewE 500 5000 now || !fewE 500 5000 want
set_option maxRecDepth 100000 in
set_option maxHeartbeats 800000 in
theorem law_lay (a a' : Option Addr) (cap cap' : Nat) (now want : List Ent) (w : World) (ha : RowsAt entLay w a now) (ha' : RowsAt entLay w a' want) :
    Calls Try.prog 3 #[.slice a now.length cap, .slice a' want.length cap'] w fun e w' => e = .returned (.bool true) ∧ Below w.heap.size w w' := by
  have HF := Lib.hid (few_any a cap now w ha)
  have HF' := Lib.hid (few_any a' cap' want w ha')
  cases h1 : fewE 500 5000 now with
  | false =>
    rw [h1] at HF
    clear h1
    go_enter Try.func3, Try.ntmps3
    go_wp2_with fail
    refine HF.out.mono ?_
    rintro e w1 ⟨rfl, rfl⟩
    go_wp2_with fail
    refine (awake_any _).mono ?_
    rintro e w1 ⟨rfl, hb⟩
    go_wp2_with fail
    go_ret
    exact ⟨rfl, hb⟩
  | true =>
    cases h2 : fewE 500 5000 want with
    | false =>
      rw [h1] at HF
      rw [h2] at HF'
      clear h1 h2
      go_enter Try.func3, Try.ntmps3
      go_wp2_with fail
      refine HF.out.mono ?_
      rintro e w1 ⟨rfl, rfl⟩
      go_wp2_with fail
      refine HF'.out.mono ?_
      rintro e w1 ⟨rfl, rfl⟩
      go_wp2_with fail
      refine (awake_any _).mono ?_
      rintro e w1 ⟨rfl, hb⟩
      go_wp2_with fail
      go_ret
      exact ⟨rfl, hb⟩
    | true =>
      obtain ⟨hl, hz⟩ := fewE_parts h1
      obtain ⟨hl', _⟩ := fewE_parts h2
      rw [h1] at HF
      rw [h2] at HF'
      have HP := Lib.hid (plan_any a a' cap cap' now want w hl hl' (fun x hx => (hz x hx).1) ha ha')
      have HR := Lib.hid fun W (hb : Below w.heap.size w W) => ref_plan_any a a' cap cap' now want W hl hl' (fun x hx => (hz x hx).1) (ha.keeps hb) (ha'.keeps hb)
      have hlen := wrA_length now want want.length
      have Hl : Hid ((planA now want).length ≤ 140737488351232) := Lib.hid (by unfold planA; omega)
      have Hs : Hid (sameA (planA now want) (planA now want) = true) := Lib.hid (by simp [sameA])
      clear h1 h2 hz hlen
      generalize planA now want = acts at *
      go_enter Try.func3, Try.ntmps3
      go_wp2_with fail
      refine HF.out.mono ?_
      rintro e w1 ⟨rfl, rfl⟩
      go_wp2_with fail
      refine HF'.out.mono ?_
      rintro e w1 ⟨rfl, rfl⟩
      go_wp2_with fail
      refine HP.out.mono ?_
      rintro e w1 ⟨v1, rfl, hoa1, hb1⟩
      go_wp2_with fail
      refine (HR.out _ hb1).mono ?_
      rintro e w2 ⟨v2, rfl, hoa2, hb2⟩
      have hoa1 := hoa1.below hb2
      obtain ⟨b1, c1, rfl, hr1, _⟩ := hoa1.read
      obtain ⟨b2, c2, rfl, hr2, _⟩ := hoa2.read
      have hb3 := hb1.trans (hb2.mono hb1.size)
      clear hoa1 hoa2 hb1 hb2
      go_wp2_with fail
      have HC := acts_any b1 b2 c1 c2 acts acts w2 Hl.out hr1 hr2
      rw [Hs.out] at HC
      refine HC.mono ?_
      rintro e w3 ⟨rfl, n, rfl⟩
      go_wp2_with fail
      refine (awake_any _).mono ?_
      rintro e w4 ⟨rfl, hb⟩
      have hb5 := below_drewN hb3 n
      go_wp2_with fail
      go_ret
      exact ⟨rfl, hb5.trans (hb.mono hb5.size)⟩
end Go.Proofs.Ytmbmaompoplbaaa
