/-
  sync.Once in one goroutine, as crc's table uses it: the lock, the two deferred calls. crc's table: its steps are laid. crc's table: made once; a byte's step. crc.Sum.
-/
import Derived.Test.YtgglheelhbfgiaaGreatDoorProg
import Derived.Test.YtgglheelhbfgiaaGreatDoorBasics
import Derived.Test.YtgglheelhbfgiaaGreatDoorLogG
import Derived.Test.YtgglheelhbfgiaaGreatDoorTurned
import Derived.Defers
import Derived.Laws.Pointers
import Derived.Laws.LoneSync
import Derived.RegionTactic
import Derived.RegionCalls
import Derived.ChangeAlike
import Derived.Laws.NewBlocks
import Derived.Test.YtgglheelhbfgiaaGreatDoorPut
import Derived.Laws.BitsAllLaws
import Derived.IntWalk
namespace Go.Proofs.YtgglheelhbfgiaaGreatDoor
open Go Go.RowKit Go.Lib
theorem race_disable (w : World) : (callFunc 215 #[]).run Tryz.prog w = .ok (.value (.tuple #[])) w := run_call_mark0 Tryz.func215 (by kernel_rfl) (by kernel_rfl) (by kernel_rfl) .disable (by kernel_rfl) w
theorem race_enable (w : World) : (callFunc 217 #[]).run Tryz.prog w = .ok (.value (.tuple #[])) w := run_call_mark0 Tryz.func217 (by kernel_rfl) (by kernel_rfl) (by kernel_rfl) .enable (by kernel_rfl) w
theorem race_acquire (a : Addr) (w : World) : (callFunc 218 #[.pointer (some a)]).run Tryz.prog w = .ok (.value (.tuple #[])) w := run_call_marked Tryz.func218 (by kernel_rfl) (by kernel_rfl) (by kernel_rfl) .acquire (by kernel_rfl) a w
theorem race_release (a : Addr) (w : World) : (callFunc 220 #[.pointer (some a)]).run Tryz.prog w = .ok (.value (.tuple #[])) w := run_call_marked Tryz.func220 (by kernel_rfl) (by kernel_rfl) (by kernel_rfl) .releaseMerge (by kernel_rfl) a w
/-- '(*sync/atomic.Bool).Store(true)', entered as a deferred call. -/
theorem once_store (a : Addr) (x : Value) (u : FrameMode) (w : World) (hc : w.cell? a = some x) (hz : w.frozen? a = false) :
    CallsD Tryz.prog 208 #[.pointer (some a), .bool true] u w fun e u' w' => u' = u ∧ (e = .returned (.tuple #[]) ∧ w' = w.drew.setCell a (.int .u32 1)) := by
  have hc' : w.drew.cell? a = some x := by go_simp
  have hz' : w.drew.frozen? a = false := by go_simp
  have hst := run_call_store (P := Tryz.prog) Tryz.func212 (by kernel_rfl) (by kernel_rfl) (by kernel_rfl) (by kernel_rfl) (k := .u32) (y := 1) hc' hz'
  go_enter_d Tryz.func208, Tryz.ntmps208
  go_wp2
  go_region_calls
  all_goals (go_end0; exact ⟨rfl, rfl⟩)
set_option maxRecDepth 100000 in
set_option maxHeartbeats 1600000 in
/-- '(*sync.Mutex).Unlock', entered as a deferred call, the lock held and nobody waiting. -/
theorem once_unlock (a : Addr) (u : FrameMode) (w : World) (hc : w.cell? a = some (.int .i32 1)) (hz : w.frozen? a = false) :
    CallsD Tryz.prog 207 #[.pointer (some a)] u w fun e u' w' => u' = u ∧ (e = .returned (.tuple #[]) ∧ w' = w.setCell a (.int .i32 0)) := by
  have hd := race_disable
  have he := race_enable
  have hr := race_release
  have hadd := run_call_add (P := Tryz.prog) Tryz.func221 (by kernel_rfl) (by kernel_rfl) (by kernel_rfl) .i32 (by kernel_rfl) (y := -1) (s := 0) hc hz (by simp [go_sem]; rfl)
  have hcv := run_convert_to_unsafe (P := Tryz.prog) (src := 276) (dst := 243) Tryz.underlying276 Tryz.underlying243 (by kernel_rfl) hc
  go_enter_d Tryz.func207, Tryz.ntmps207
  go_wp2
  go_end0
  go_wp2
  go_end0
  exact ⟨rfl, rfl⟩
set_option maxRecDepth 100000 in
set_option maxHeartbeats 1600000 in
/-- '(*sync.Mutex).Lock', the lock free. -/
theorem once_lock (a : Addr) (w : World) (hc : w.cell? a = some (.int .i32 0)) (hz : w.frozen? a = false) :
    Calls Tryz.prog 206 #[.pointer (some a)] w fun e w' => e = .returned (.tuple #[]) ∧ w' = w.setCell a (.int .i32 1) := by
  have hd := race_disable
  have he := race_enable
  have ha := race_acquire
  have hcas := run_call_cas_hit (P := Tryz.prog) Tryz.func216 (by kernel_rfl) (by kernel_rfl) (by kernel_rfl) .i32 (by kernel_rfl) (y := 1) hc hz
  have hc' : (w.setCell a (.int .i32 1)).cell? a = some (.int .i32 1) := World.cell?_setCell_same w a _ hc
  have hcv := run_convert_to_unsafe (P := Tryz.prog) (src := 276) (dst := 243) Tryz.underlying276 Tryz.underlying243 (by kernel_rfl) hc'
  go_enter Tryz.func206, Tryz.ntmps206
  go_wp2
  first | go_end0 | (simp only [Exit.inBlock, Exit.then]; refine bodyPost_ret (results_none rfl _ _ _) rfl ?_) | refine bodyPost_ret (results_none rfl _ _ _) rfl ?_
  go_wp2
  go_end0
  exact ⟨rfl, rfl⟩
end Go.Proofs.YtgglheelhbfgiaaGreatDoor

namespace Go.Proofs.YtgglheelhbfgiaaGreatDoor
open Go Go.RowKit Go.Lib
def iterC : Nat → Nat → Nat
  | 0, x => x
  | n + 1, x => stepC (iterC n x)
theorem iterC_8 (x : Nat) : iterC 8 x = tabC x := rfl
theorem stepC_lt {x : Nat} (h : x < 4294967296) : stepC x < 4294967296 := by
  unfold stepC
  have h1 : x / 2 < 2 ^ 32 := by omega
  have h2 : x % 2 * 3988292384 < 2 ^ 32 := by
    have : x % 2 < 2 := Nat.mod_lt _ (by decide)
    omega
  exact Nat.xor_lt_two_pow h1 h2
theorem iterC_lt {x : Nat} (h : x < 4294967296) : ∀ n, iterC n x < 4294967296
  | 0 => h
  | n + 1 => stepC_lt (iterC_lt h n)
theorem step_val {x : Nat} (hx : x < 4294967296) : bits .xor .u32 ((x : Int) / 2) (bits .and .u32 (x : Int) 1 * 3988292384 % 4294967296) = ((stepC x : Nat) : Int) := by
  have h1 : bits .and .u32 (x : Int) 1 = ((x % 2 : Nat) : Int) := by
    have := u32_and_nat x 1 hx (by decide)
    rw [Nat.and_one_is_mod] at this
    exact this
  have h2 : x % 2 < 2 := Nat.mod_lt _ (by decide)
  rw [h1, show ((x % 2 : Nat) : Int) * 3988292384 % 4294967296 = ((x % 2 * 3988292384 : Nat) : Int) by omega, show (x : Int) / 2 = ((x / 2 : Nat) : Int) by omega, u32_xor_nat _ _ (by omega) (by omega)]
  rfl
/-- A table of which so many steps are laid. -/
structure StepsW (w : World) (b k : Nat) (c0 c1 c2 : Value) : Prop where
  lt : b < w.heap.size
  fz : ∀ i, w.frozen? ⟨b, i, none⟩ = false
  h0 : w.cell? ⟨b, 0, none⟩ = some c0
  h1 : w.cell? ⟨b, 1, none⟩ = some c1
  h2 : w.cell? ⟨b, 2, none⟩ = some c2
  st : ∀ i, i < 256 → ∃ v, w.cell? ⟨b, 3 + i, none⟩ = some v ∧ (i < k → v = .int .u32 (tabC i))
set_option maxRecDepth 100000 in
set_option maxHeartbeats 1600000 in
theorem fill_any (b : Nat) (pl : Addr) (hpb : pl.block ≠ b) (c0 c1 c2 : Value) (w : World) (hp : w.cell? pl = some (.pointer (some ⟨b, 0, none⟩))) (h : StepsW w b 0 c0 c1 c2) :
    Calls Tryz.prog 188 #[.pointer (some pl)] w fun e w' => e = .returned (.tuple #[]) ∧ StepsW w' b 256 c0 c1 c2 ∧ Turned (fun j => j = b) w.heap.size w w' := by
  go_enter Tryz.func188, Tryz.ntmps188
  go_wp2_with fail
  go_loopw [3] (fun i wr => ∃ k : Nat, k ≤ 256 ∧ i = .int .i64 k ∧ StepsW wr b k c0 c1 c2 ∧ Turned (fun j => j = b) w.heap.size w wr ∧ wr.cell? pl = some (.pointer (some ⟨b, 0, none⟩))) (fun i _ => 256 - (RowKit.intOf i).toNat)
  case atStart => exact ⟨0, by omega, rfl, h, Turned.refl _ _ _, hp⟩
  case round =>
    obtain ⟨k, hk, rfl, hs, ht, hp⟩ := hrel
    by_cases hlt : k < 256
    · have hk32 : IntKind.u32.wrap (k : Int) = (k : Int) := IntWalk.u32_in _ ⟨by omega, by omega⟩
      go_wp2_with fail
      go_loop [2, 8] (fun x j => ∃ n : Nat, n ≤ 8 ∧ j = .int .i64 n ∧ x = .int .u32 (iterC n k)) (fun _ j => 8 - (RowKit.intOf j).toNat)
      case atStart => exact ⟨0, by omega, rfl, rfl⟩
      case round =>
        obtain ⟨n, hn, rfl, rfl⟩ := hrel
        by_cases hn8 : n < 8
        · have hx := iterC_lt (show k < 4294967296 by omega) n
          have Hst := Lib.hid (show iterC (n + 1) k = stepC (iterC n k) from rfl)
          generalize iterC n k = x at *
          have hsv := step_val hx
          go_wp2_with fail
          go_round
          case rel => exact ⟨n + 1, by omega, by go_num, by rw [Hst.out]⟩
          case measure => simp [RowKit.intOf]; omega
        · obtain rfl : n = 8 := by omega
          rw [iterC_8]
          obtain ⟨v, hv, _⟩ := hs.st k hlt
          have hf := hs.fz (3 + k)
          have hki : (k : Int) < 256 := by omega
          generalize hg : tabC k = t at *
          go_wp2_with fail
          have hne : ∀ j, j ≠ 3 + k → ∀ v, wr.cell? ⟨b, j, none⟩ = some v → (wr.setCell ⟨b, 3 + k, none⟩ (.int .u32 (t : Int))).cell? ⟨b, j, none⟩ = some v := fun j hj v hv => by
            rw [World.cell?_setCell_other _ _ _ _ (fun e => hj (by simpa using e.symm))]
            exact hv
          go_roundw
          case rel =>
            refine ⟨k + 1, by omega, by go_num, ⟨?_, fun i => ?_, hne 0 (by omega) _ hs.h0, hne 1 (by omega) _ hs.h1, hne 2 (by omega) _ hs.h2, fun i hi => ?_⟩, ht.set (3 + k) _ (fun _ => rfl), ?_⟩
            · simpa using hs.lt
            · simpa using hs.fz i
            · by_cases hik : i = k
              · subst hik
                exact ⟨_, World.cell?_setCell_same _ _ _ hv, fun _ => by rw [hg]⟩
              · obtain ⟨v', e1, e2⟩ := hs.st i hi
                exact ⟨v', hne _ (by omega) _ e1, fun h => e2 (by omega)⟩
            · rw [World.cell?_setCell_other _ _ _ _ (fun e => hpb (by rw [← e]))]
              exact hp
          case measure => simp [RowKit.intOf]; omega
    · obtain rfl : k = 256 := by omega
      go_wp2_with fail
      go_end0
      exact ⟨rfl, hs, ht⟩
end Go.Proofs.YtgglheelhbfgiaaGreatDoor

namespace Go.Proofs.YtgglheelhbfgiaaGreatDoor
open Go Go.RowKit Go.Lib
theorem StepsW.set0 {w : World} {b k : Nat} {c0 c1 c2 : Value} (h : StepsW w b k c0 c1 c2) (v : Value) : StepsW (w.setCell ⟨b, 0, none⟩ v) b k v c1 c2 := by
  have hne : ∀ j, j ≠ 0 → ∀ u, w.cell? ⟨b, j, none⟩ = some u → (w.setCell ⟨b, 0, none⟩ v).cell? ⟨b, j, none⟩ = some u := fun j hj u hu => by
    rw [World.cell?_setCell_other _ _ _ _ (fun e => hj (by simpa using e.symm))]
    exact hu
  refine ⟨by simpa using h.lt, fun i => by simpa using h.fz i, World.cell?_setCell_same _ _ _ h.h0, hne 1 (by omega) _ h.h1, hne 2 (by omega) _ h.h2, fun i hi => ?_⟩
  obtain ⟨u, e1, e2⟩ := h.st i hi
  exact ⟨u, hne _ (by omega) _ e1, e2⟩
theorem StepsW.set1 {w : World} {b k : Nat} {c0 c1 c2 : Value} (h : StepsW w b k c0 c1 c2) (v : Value) : StepsW (w.setCell ⟨b, 1, none⟩ v) b k c0 v c2 := by
  have hne : ∀ j, j ≠ 1 → ∀ u, w.cell? ⟨b, j, none⟩ = some u → (w.setCell ⟨b, 1, none⟩ v).cell? ⟨b, j, none⟩ = some u := fun j hj u hu => by
    rw [World.cell?_setCell_other _ _ _ _ (fun e => hj (by simpa using e.symm))]
    exact hu
  refine ⟨by simpa using h.lt, fun i => by simpa using h.fz i, hne 0 (by omega) _ h.h0, World.cell?_setCell_same _ _ _ h.h1, hne 2 (by omega) _ h.h2, fun i hi => ?_⟩
  obtain ⟨u, e1, e2⟩ := h.st i hi
  exact ⟨u, hne _ (by omega) _ e1, e2⟩
theorem StepsW.drewN {w : World} {b k : Nat} {c0 c1 c2 : Value} (h : StepsW w b k c0 c1 c2) (n : Nat) : StepsW (w.drewN n) b k c0 c1 c2 := ⟨h.lt, h.fz, h.h0, h.h1, h.h2, h.st⟩
theorem bload_any (a : Addr) (x : Int) (w : World) (h : w.cell? a = some (.int .u32 x)) : Calls Tryz.prog 197 #[.pointer (some a)] w fun e w' => e = .returned (.bool (x != 0)) ∧ w' = w := by
  have hl := run_call_load (P := Tryz.prog) Tryz.func205 (by kernel_rfl) (by kernel_rfl) (by kernel_rfl) .u32 (by kernel_rfl) h
  go_enter Tryz.func197, Tryz.ntmps197
  go_wp2
  go_ret
  exact ⟨rfl, rfl⟩
set_option maxRecDepth 100000 in
set_option maxHeartbeats 1600000 in
theorem slow_any (b : Nat) (pl : Addr) (hpb : pl.block ≠ b) (c2 : Value) (w : World) (hp : w.cell? pl = some (.pointer (some ⟨b, 0, none⟩))) (h : StepsW w b 0 (.int .u32 0) (.int .i32 0) c2) :
    Calls Tryz.prog 198 #[.pointer (some ⟨b, 0, none⟩), .func (.func 188) #[] #[.pointer (some pl)]] w fun e w' => e = .returned (.tuple #[]) ∧ StepsW w' b 256 (.int .u32 1) (.int .i32 0) c2 ∧ Turned (fun j => j = b) w.heap.size w w' := by
  have hS1 := h.set1 (.int .i32 1)
  have HB := Lib.hid (bload_any _ _ _ hS1.h0)
  have hp1 : (w.setCell ⟨b, 1, none⟩ (.int .i32 1)).cell? pl = some (.pointer (some ⟨b, 0, none⟩)) := (World.cell?_setCell_other _ ⟨b, 1, none⟩ pl _ (fun e => hpb (by rw [← e]))).trans hp
  have hnot : ∀ (x : Bool) (w : World), (Op.unary .not (.bool x)).run Tryz.prog w = .ok (.bool (!x)) w := fun _ _ => rfl
  have HL := Lib.hid (once_lock ⟨b, 1, none⟩ w h.h1 (h.fz 1))
  have HF := Lib.hid (fill_any b pl hpb _ _ _ _ hp1 hS1)
  have HT := Lib.hid ((Turned.refl (fun j => j = b) w.heap.size w).set (b := b) 1 (.int .i32 1) (fun _ => rfl))
  have hsz : (w.setCell ⟨b, 1, none⟩ (.int .i32 1)).heap.size = w.heap.size := by simp
  go_enter_defers Tryz.func198, Tryz.ntmps198
  go_wp2_with fail
  refine HL.out.mono ?_
  rintro e w' ⟨rfl, rfl⟩
  go_wp2_with fail
  refine HB.out.mono ?_
  rintro e w' ⟨rfl, rfl⟩
  go_wp2_with fail
  refine HF.out.mono ?_
  rintro e w2 ⟨rfl, hS2, ht2⟩
  rw [hsz] at ht2
  have hT2 := HT.out.trans ht2
  go_wp2_with fail
  refine leaves_cons (f := 208) (args := #[.pointer (some ⟨b, 0, none⟩), .bool true]) (by simp) (by simp [go_sem]) ?_
  refine (once_store ⟨b, 0, none⟩ (.int .u32 0) .returning _ hS2.h0 (hS2.fz 0)).mono ?_
  rintro e u' w'' ⟨rfl, rfl, rfl⟩
  have hS3 := (hS2.drewN 1).set0 (.int .u32 1)
  have hT3 := (hT2.drewN 1).set (b := b) 0 (.int .u32 1) (fun _ => rfl)
  refine leaves_cons (f := 207) (args := #[.pointer (some ⟨b, 1, none⟩)]) (by simp [settle]) (by simp [go_sem]) ?_
  refine (once_unlock ⟨b, 1, none⟩ _ _ hS3.h1 (hS3.fz 1)).mono ?_
  rintro e u' w'' ⟨rfl, rfl, rfl⟩
  have hS4 := hS3.set1 (.int .i32 0)
  have hT4 := hT3.set (b := b) 1 (.int .i32 0) (fun _ => rfl)
  simp [Leaves, settle, results, Tryz.results198]
  exact ⟨hS4, hT4⟩
end Go.Proofs.YtgglheelhbfgiaaGreatDoor

namespace Go.Proofs.YtgglheelhbfgiaaGreatDoor
open Go Go.RowKit Go.Lib
def TabW (w : World) (b : Nat) (m : Bool) : Prop := ∃ c2, StepsW w b (if m then 256 else 0) (.int .u32 (if m then 1 else 0)) (.int .i32 0) c2
set_option maxRecDepth 100000 in
set_option maxHeartbeats 1600000 in
theorem do_any (b : Nat) (pl : Addr) (hpb : pl.block ≠ b) (m : Bool) (w : World) (hp : w.cell? pl = some (.pointer (some ⟨b, 0, none⟩))) (h : TabW w b m) :
    Calls Tryz.prog 187 #[.pointer (some ⟨b, 0, none⟩), .func (.func 188) #[] #[.pointer (some pl)]] w fun e w' => e = .returned (.tuple #[]) ∧ TabW w' b true ∧ Turned (fun j => j = b) w.heap.size w w' := by
  obtain ⟨c2, hS⟩ := h
  have HB := Lib.hid (bload_any _ _ _ hS.h0)
  cases m with
  | false =>
    have HSl := Lib.hid (slow_any b pl hpb c2 w hp hS)
    clear hS hp
    go_enter Tryz.func187, Tryz.ntmps187
    go_wp2_with fail
    refine HB.out.mono ?_
    rintro e w' ⟨rfl, rfl⟩
    go_wp2_with fail
    refine HSl.out.mono ?_
    rintro e w' ⟨rfl, h1, h2⟩
    go_wp2_with fail
    go_end0
    exact ⟨rfl, ⟨c2, h1⟩, h2⟩
  | true =>
    have HS := Lib.hid hS
    clear hS hp
    go_enter Tryz.func187, Tryz.ntmps187
    go_wp2_with fail
    refine HB.out.mono ?_
    rintro e w' ⟨rfl, rfl⟩
    go_wp2_with fail
    go_end0
    exact ⟨rfl, ⟨c2, HS.out⟩, Turned.refl _ _ _⟩
theorem TabW.alloc {w : World} {b : Nat} {m : Bool} (h : TabW w b m) (o : Obj) : TabW (w.alloc o) b m := by
  obtain ⟨c2, h⟩ := h
  have hlt := h.lt
  refine ⟨c2, ⟨by simp; omega, fun i => ?_, ?_, ?_, ?_, fun i hi => ?_⟩⟩
  · rw [World.frozen?_alloc_past _ _ _ hlt]; exact h.fz i
  · rw [World.cell?_alloc_past _ _ _ hlt]; exact h.h0
  · rw [World.cell?_alloc_past _ _ _ hlt]; exact h.h1
  · rw [World.cell?_alloc_past _ _ _ hlt]; exact h.h2
  · rw [World.cell?_alloc_past _ _ _ hlt]; exact h.st i hi
set_option maxRecDepth 100000 in
set_option maxHeartbeats 1600000 in
theorem step_any (b : Nat) (m : Bool) (x : Nat) (hx : x < 256) (w : World) (h : TabW w b m) :
    Calls Tryz.prog 170 #[.pointer (some ⟨b, 0, none⟩), .int .u8 x] w fun e w' => e = .returned (.int .u32 (tabC x : Nat)) ∧ TabW w' b true ∧ Turned (fun j => j = b) w.heap.size w w' := by
  have hlt : b < w.heap.size := by
    obtain ⟨c2, h⟩ := h
    exact h.lt
  have hA := h.alloc (.cells #[.pointer (some ⟨b, 0, none⟩)] 218)
  have HD := Lib.hid (do_any b ⟨w.heap.size, 0, none⟩ (fun e => by dsimp only at e; omega) m _ (by simp) hA)
  have HT := Lib.hid ((Turned.refl (fun j => j = b) w.heap.size w).alloc (Nat.le_refl _) (.cells #[.pointer (some ⟨b, 0, none⟩)] 218))
  have hp0 : (w.alloc (.cells #[.pointer (some ⟨b, 0, none⟩)] 218)).cell? ⟨w.heap.size, 0, none⟩ = some (.pointer (some ⟨b, 0, none⟩)) := by simp
  have HP := Lib.hid hp0
  clear h hA
  go_enter Tryz.func170, Tryz.ntmps170
  go_wp2_with fail
  refine HD.out.mono ?_
  rintro e w2 ⟨rfl, h2, ht2⟩
  have hp2 : w2.cell? ⟨w.heap.size, 0, none⟩ = some (.pointer (some ⟨b, 0, none⟩)) := (World.cell?_of_block (ht2.block w.heap.size (by simp) (show ¬ (w.heap.size = b) by omega))).trans HP.out
  have hT2 := HT.out.trans (ht2.mono (by simp) (fun _ _ h => h))
  obtain ⟨c2, hS⟩ := h2
  obtain ⟨v, hv, hv2⟩ := hS.st x hx
  obtain rfl := hv2 hx
  have HS := Lib.hid hS
  have hxi : (x : Int) < 256 := by omega
  clear hS hv2
  obtain ⟨t, htt⟩ : ∃ t, tabC x = t := ⟨_, rfl⟩
  rw [htt] at hv
  have Hr := Lib.hid htt
  clear htt
  go_wp2_with fail
  go_ret
  exact ⟨by rw [Hr.out]; rfl, ⟨c2, HS.out⟩, hT2⟩
def tabZ : Array Value := #[.int .u32 0, .int .i32 0, .int .u32 0] ++ Array.replicate 256 (.int .u32 0)
theorem tabZ_zero : Tryz.zeroCells232 = tabZ := by kernel_rfl
theorem ones32 : bits .xor .u32 IntKind.u32.max 0 = ((4294967295 : Nat) : Int) := by kernel_rfl
theorem tabZ_list : tabZ.toList = [.int .u32 0, .int .i32 0, .int .u32 0] ++ List.replicate 256 (.int .u32 0) := by
  unfold tabZ
  rw [Array.toList_append, Array.toList_replicate]
theorem tabZ_at {i : Nat} (hi : i < 256) : tabZ.toList[3 + i]? = some (.int .u32 0) := by
  rw [tabZ_list, List.getElem?_append_right (by show 3 ≤ 3 + i; omega), List.getElem?_replicate, if_pos (by show 3 + i - 3 < 256; omega)]
theorem tabZ_new (w : World) : TabW (w.alloc (.cells tabZ 232)) w.heap.size false := by
  have f := cells_new w tabZ 232
  generalize hZ : tabZ = Z at *
  have h0 := f 0 (.int .u32 0) (by rw [← hZ, tabZ_list]; rfl)
  have h1 := f 1 (.int .i32 0) (by rw [← hZ, tabZ_list]; rfl)
  have h2 := f 2 (.int .u32 0) (by rw [← hZ, tabZ_list]; rfl)
  refine ⟨.int .u32 0, ⟨by simp, fun i => by simp, h0, ?_, ?_, fun i hi => ⟨.int .u32 0, ?_, fun h => ?_⟩⟩⟩
  · simpa [Addr.add] using h1
  · simpa [Addr.add] using h2
  · have := f (3 + i) (.int .u32 0) (by rw [← hZ, tabZ_at hi])
    simpa [Addr.add] using this
  · simp at h
theorem nextC_lt {x : Nat} (h : x < 4294967296) (b : UInt8) : nextC x b < 4294967296 := by
  have h1 : x / 256 < 2 ^ 32 := by omega
  have h2 : tabC (x % 256 ^^^ b.toNat) < 2 ^ 32 := by
    have : x % 256 ^^^ b.toNat < 2 ^ 8 := Nat.xor_lt_two_pow (by omega) b.toNat_lt
    exact iterC_lt (by omega) 8
  exact Nat.xor_lt_two_pow h1 h2
theorem fold_lt : ∀ (l : List UInt8) (x : Nat), x < 4294967296 → l.foldl nextC x < 4294967296
  | [], _, h => h
  | b :: r, _, h => fold_lt r _ (nextC_lt h b)
theorem ones_xor {x : Nat} (h : x < 4294967296) : bits .xor .u32 IntKind.u32.max (x : Int) = ((4294967295 - x : Nat) : Int) := by
  have h1 : IntKind.u32.max = ((4294967295 : Nat) : Int) := by kernel_rfl
  rw [h1, u32_xor_nat _ _ (by decide) h]
  congr 1
  have h2 := congrArg BitVec.toNat (BitVec.xor_allOnes (x := BitVec.ofNat 32 x))
  rw [BitVec.toNat_xor, BitVec.toNat_not, BitVec.toNat_ofNat, BitVec.toNat_allOnes, Nat.mod_eq_of_lt (by omega), Nat.xor_comm] at h2
  exact h2
theorem step_u8 {x : Nat} (b : UInt8) : bits .xor .u8 ((x : Int) % 256) (b.toNat : Int) = ((x % 256 ^^^ b.toNat : Nat) : Int) := by
  rw [show (x : Int) % 256 = ((x % 256 : Nat) : Int) by omega, u8_xor_nat _ _ (by omega) b.toNat_lt]
theorem next_val {x : Nat} (h : x < 4294967296) (b : UInt8) : bits .xor .u32 ((x : Int) / 256) ((tabC (x % 256 ^^^ b.toNat) : Nat) : Int) = ((nextC x b : Nat) : Int) := by
  have h2 : x % 256 ^^^ b.toNat < 2 ^ 8 := Nat.xor_lt_two_pow (by omega) b.toNat_lt
  rw [show (x : Int) / 256 = ((x / 256 : Nat) : Int) by omega, u32_xor_nat _ _ (by omega) (show tabC (x % 256 ^^^ b.toNat) < 4294967296 from iterC_lt (by omega) 8)]
  rfl
set_option maxRecDepth 100000 in
set_option maxHeartbeats 1600000 in
theorem more_any (d : ByteArray) (w : World) (hd : d.size ≤ 100000000) :
    Calls Tryz.prog 143 #[.int .i64 0, .string d] w fun e w' => e = .returned (.int .i64 (sumC d.data.toList : Nat)) ∧ Below w.heap.size w w' := by
  have hN := tabZ_new w
  have hT := (Turned.refl (fun j => j = w.heap.size) w.heap.size w).alloc (Nat.le_refl _) (.cells tabZ 232)
  rw [← tabZ_zero] at hN hT
  have HN := Lib.hid hN
  have HT := Lib.hid hT
  have hone := ones32
  have Hl := Lib.hid (show d.data.toList.length = d.size from rfl)
  have Hsum := Lib.hid (show sumC d.data.toList = 4294967295 - d.data.toList.foldl nextC 4294967295 from rfl)
  clear hN hT
  go_enter Tryz.func143, Tryz.ntmps143
  go_wp2_with fail
  go_loopw [6, 7, 15] (fun x _ i wr => ∃ k : Nat, k ≤ d.size ∧ i = .int .i64 k ∧ x = .int .u32 ((d.data.toList.take k).foldl nextC 4294967295 : Nat) ∧ (∃ m, TabW wr w.heap.size m) ∧ Turned (fun j => j = w.heap.size) w.heap.size w wr) (fun _ _ i _ => d.size - (RowKit.intOf i).toNat)
  case atStart => exact ⟨0, Nat.zero_le _, rfl, by first | rfl | simp, ⟨false, HN.out⟩, HT.out⟩
  case round =>
    obtain ⟨k, hk, rfl, rfl, ⟨m, hm⟩, ht⟩ := hrel
    by_cases hlt : k < d.size
    · have hx := fold_lt (d.data.toList.take k) 4294967295 (by decide)
      obtain ⟨b, hb⟩ : ∃ b, d.data.toList[k]? = some b := ⟨_, List.getElem?_eq_getElem (by rw [Hl.out]; exact hlt)⟩
      have Hst := Lib.hid (show (d.data.toList.take (k + 1)).foldl nextC 4294967295 = nextC ((d.data.toList.take k).foldl nextC 4294967295) b by rw [List.take_add_one, hb, Option.toList_some, List.foldl_append]; rfl)
      generalize (d.data.toList.take k).foldl nextC 4294967295 = x at *
      have hdk : (d[k]'hlt).toNat = b.toNat := by
        obtain ⟨h1, h2⟩ := List.getElem?_eq_some_iff.1 hb
        rw [← h2]
        rfl
      have h8 := step_u8 (x := x) b
      have hy : x % 256 ^^^ b.toNat < 256 := Nat.xor_lt_two_pow (n := 8) (by omega) b.toNat_lt
      have Hnv := Lib.hid (next_val hx b)
      have HS := Lib.hid fun W (h : TabW W w.heap.size m) => step_any w.heap.size m (x % 256 ^^^ b.toNat) hy W h
      clear hb
      generalize x % 256 ^^^ b.toNat = y at *
      have hnv := Hnv.out
      go_wp2_with fail
      refine (HS.out _ hm).mono ?_
      rintro e w4 ⟨rfl, hm4, ht4⟩
      go_wp2_with fail
      go_roundw
      case rel => exact ⟨k + 1, by omega, by go_num, by rw [Hst.out], ⟨true, hm4⟩, ht.trans (ht4.mono ht.size (fun _ _ h => h))⟩
      case measure => simp [RowKit.intOf]; omega
    · obtain rfl : k = d.size := by omega
      have hfull : d.data.toList.take d.size = d.data.toList := List.take_of_length_le (Nat.le_of_eq Hl.out)
      rw [hfull]
      have hx := fold_lt d.data.toList 4294967295 (by decide)
      generalize d.data.toList.foldl nextC 4294967295 = x at *
      have hox := ones_xor hx
      have h64 : IntKind.i64.wrap ((4294967295 - x : Nat) : Int) = ((4294967295 - x : Nat) : Int) := IntWalk.i64_in _ ⟨by omega, by omega⟩
      generalize 4294967295 - x = y at *
      go_wp2_with fail
      go_ret
      exact ⟨by rw [Hsum.out]; rfl, ht.below (Nat.le_refl _) (fun j hj e => by omega)⟩
set_option maxRecDepth 100000 in
theorem sum_any (d : ByteArray) (w : World) (hd : d.size ≤ 100000000) :
    Calls Tryz.prog 121 #[.string d] w fun e w' => e = .returned (.int .i64 (sumC d.data.toList : Nat)) ∧ Below w.heap.size w w' := by
  have HM := Lib.hid (more_any d w hd)
  go_enter Tryz.func121, Tryz.ntmps121
  go_wp2_with fail
  refine HM.out.mono ?_
  rintro e w4 ⟨rfl, hb⟩
  go_wp2_with fail
  go_ret
  exact ⟨rfl, hb⟩
end Go.Proofs.YtgglheelhbfgiaaGreatDoor

