/-
  crc's table: made once; a byte's step. crc.Sum. seglog: name, frame, right, first. seglog: first. seglog: scan.
-/
import Derived.Test.YtgglheelhbfgiaaGreatDoorMg19
import Derived.Test.YtgglheelhbfgiaaGreatDoorMg10
import Derived.Test.YtgglheelhbfgiaaGreatDoorMg5
namespace Go.Proofs.YtgglheelhbfgiaaGreatDoor
open Go Go.RowKit Go.Lib
theorem StepsW.set0 {w : World} {b k : Nat} {c0 c1 c2 : Value} (h : StepsW w b k c0 c1 c2) (v : Value) : StepsW (w.setCell ⟨b, 0, none⟩ v) b k v c1 c2 := by
  have hne : ∀ j, j ≠ 0 → ∀ u, w.cell? ⟨b, j, none⟩ = some u → (w.setCell ⟨b, 0, none⟩ v).cell? ⟨b, j, none⟩ = some u := fun j hj u hu => by
    rw [World.cell?_setCell_other _ _ _ _ (fun e => hj (by simpa using e.symm))]
    exact hu
  refine ⟨by simpa using h.lt, fun i => by simpa using h.fz i, World.cell?_setCell_same _ _ _ h.h0, hne 1 (by omega) _ h.h1, hne 2 (by omega) _ h.h2, fun i hi => ?_⟩
  obtain ⟨u, e1, e2⟩ := h.st i hi
  exact ⟨u, hne _ (by omega) _ e1, e2⟩
theorem StepsW.set1 {w : World} {b k : Nat} {c0 c1 c2 : Value} (h : StepsW w b k c0 c1 c2) (v : Value) : StepsW (w.setCell ⟨b, 1, none⟩ v) b k c0 v c2 := by
  have hne : ∀ j, j ≠ 1 → ∀ u, w.cell? ⟨b, j, none⟩ = some u → (w.setCell ⟨b, 1, none⟩ v).cell? ⟨b, j, none⟩ = some u := fun j hj u hu => by
    rw [World.cell?_setCell_other _ _ _ _ (fun e => hj (by simpa using e.symm))]
    exact hu
  refine ⟨by simpa using h.lt, fun i => by simpa using h.fz i, hne 0 (by omega) _ h.h0, World.cell?_setCell_same _ _ _ h.h1, hne 2 (by omega) _ h.h2, fun i hi => ?_⟩
  obtain ⟨u, e1, e2⟩ := h.st i hi
  exact ⟨u, hne _ (by omega) _ e1, e2⟩
theorem StepsW.drewN {w : World} {b k : Nat} {c0 c1 c2 : Value} (h : StepsW w b k c0 c1 c2) (n : Nat) : StepsW (w.drewN n) b k c0 c1 c2 := ⟨h.lt, h.fz, h.h0, h.h1, h.h2, h.st⟩
theorem bload_any (a : Addr) (x : Int) (w : World) (h : w.cell? a = some (.int .u32 x)) : Calls Tryz.prog 197 #[.pointer (some a)] w fun e w' => e = .returned (.bool (x != 0)) ∧ w' = w := by
  have hl := run_call_load (P := Tryz.prog) Tryz.func205 (by kernel_rfl) (by kernel_rfl) (by kernel_rfl) .u32 (by kernel_rfl) h
  go_enter Tryz.func197, Tryz.ntmps197
  go_wp2
  go_ret
  exact ⟨rfl, rfl⟩
set_option maxRecDepth 100000 in
set_option maxHeartbeats 1600000 in
theorem slow_any (b : Nat) (pl : Addr) (hpb : pl.block ≠ b) (c2 : Value) (w : World) (hp : w.cell? pl = some (.pointer (some ⟨b, 0, none⟩))) (h : StepsW w b 0 (.int .u32 0) (.int .i32 0) c2) :
    Calls Tryz.prog 198 #[.pointer (some ⟨b, 0, none⟩), .func (.func 188) #[] #[.pointer (some pl)]] w fun e w' => e = .returned (.tuple #[]) ∧ StepsW w' b 256 (.int .u32 1) (.int .i32 0) c2 ∧ Turned (fun j => j = b) w.heap.size w w' := by
  have hS1 := h.set1 (.int .i32 1)
  have HB := Lib.hid (bload_any _ _ _ hS1.h0)
  have hp1 : (w.setCell ⟨b, 1, none⟩ (.int .i32 1)).cell? pl = some (.pointer (some ⟨b, 0, none⟩)) := (World.cell?_setCell_other _ ⟨b, 1, none⟩ pl _ (fun e => hpb (by rw [← e]))).trans hp
  have hnot : ∀ (x : Bool) (w : World), (Op.unary .not (.bool x)).run Tryz.prog w = .ok (.bool (!x)) w := fun _ _ => rfl
  have HL := Lib.hid (once_lock ⟨b, 1, none⟩ w h.h1 (h.fz 1))
  have HF := Lib.hid (fill_any b pl hpb _ _ _ _ hp1 hS1)
  have HT := Lib.hid ((Turned.refl (fun j => j = b) w.heap.size w).set (b := b) 1 (.int .i32 1) (fun _ => rfl))
  have hsz : (w.setCell ⟨b, 1, none⟩ (.int .i32 1)).heap.size = w.heap.size := by simp
  go_enter_defers Tryz.func198, Tryz.ntmps198
  go_wp2_with fail
  refine HL.out.mono ?_
  rintro e w' ⟨rfl, rfl⟩
  go_wp2_with fail
  refine HB.out.mono ?_
  rintro e w' ⟨rfl, rfl⟩
  go_wp2_with fail
  refine HF.out.mono ?_
  rintro e w2 ⟨rfl, hS2, ht2⟩
  rw [hsz] at ht2
  have hT2 := HT.out.trans ht2
  go_wp2_with fail
  refine leaves_cons (f := 208) (args := #[.pointer (some ⟨b, 0, none⟩), .bool true]) (by simp) (by simp [go_sem]) ?_
  refine (once_store ⟨b, 0, none⟩ (.int .u32 0) .returning _ hS2.h0 (hS2.fz 0)).mono ?_
  rintro e u' w'' ⟨rfl, rfl, rfl⟩
  have hS3 := (hS2.drewN 1).set0 (.int .u32 1)
  have hT3 := (hT2.drewN 1).set (b := b) 0 (.int .u32 1) (fun _ => rfl)
  refine leaves_cons (f := 207) (args := #[.pointer (some ⟨b, 1, none⟩)]) (by simp [settle]) (by simp [go_sem]) ?_
  refine (once_unlock ⟨b, 1, none⟩ _ _ hS3.h1 (hS3.fz 1)).mono ?_
  rintro e u' w'' ⟨rfl, rfl, rfl⟩
  have hS4 := hS3.set1 (.int .i32 0)
  have hT4 := hT3.set (b := b) 1 (.int .i32 0) (fun _ => rfl)
  simp [Leaves, settle, results, Tryz.results198]
  exact ⟨hS4, hT4⟩
end Go.Proofs.YtgglheelhbfgiaaGreatDoor

namespace Go.Proofs.YtgglheelhbfgiaaGreatDoor
open Go Go.RowKit Go.Lib
def TabW (w : World) (b : Nat) (m : Bool) : Prop := ∃ c2, StepsW w b (if m then 256 else 0) (.int .u32 (if m then 1 else 0)) (.int .i32 0) c2
set_option maxRecDepth 100000 in
set_option maxHeartbeats 1600000 in
theorem do_any (b : Nat) (pl : Addr) (hpb : pl.block ≠ b) (m : Bool) (w : World) (hp : w.cell? pl = some (.pointer (some ⟨b, 0, none⟩))) (h : TabW w b m) :
    Calls Tryz.prog 187 #[.pointer (some ⟨b, 0, none⟩), .func (.func 188) #[] #[.pointer (some pl)]] w fun e w' => e = .returned (.tuple #[]) ∧ TabW w' b true ∧ Turned (fun j => j = b) w.heap.size w w' := by
  obtain ⟨c2, hS⟩ := h
  have HB := Lib.hid (bload_any _ _ _ hS.h0)
  cases m with
  | false =>
    have HSl := Lib.hid (slow_any b pl hpb c2 w hp hS)
    clear hS hp
    go_enter Tryz.func187, Tryz.ntmps187
    go_wp2_with fail
    refine HB.out.mono ?_
    rintro e w' ⟨rfl, rfl⟩
    go_wp2_with fail
    refine HSl.out.mono ?_
    rintro e w' ⟨rfl, h1, h2⟩
    go_wp2_with fail
    go_end0
    exact ⟨rfl, ⟨c2, h1⟩, h2⟩
  | true =>
    have HS := Lib.hid hS
    clear hS hp
    go_enter Tryz.func187, Tryz.ntmps187
    go_wp2_with fail
    refine HB.out.mono ?_
    rintro e w' ⟨rfl, rfl⟩
    go_wp2_with fail
    go_end0
    exact ⟨rfl, ⟨c2, HS.out⟩, Turned.refl _ _ _⟩
theorem TabW.alloc {w : World} {b : Nat} {m : Bool} (h : TabW w b m) (o : Obj) : TabW (w.alloc o) b m := by
  obtain ⟨c2, h⟩ := h
  have hlt := h.lt
  refine ⟨c2, ⟨by simp; omega, fun i => ?_, ?_, ?_, ?_, fun i hi => ?_⟩⟩
  · rw [World.frozen?_alloc_past _ _ _ hlt]; exact h.fz i
  · rw [World.cell?_alloc_past _ _ _ hlt]; exact h.h0
  · rw [World.cell?_alloc_past _ _ _ hlt]; exact h.h1
  · rw [World.cell?_alloc_past _ _ _ hlt]; exact h.h2
  · rw [World.cell?_alloc_past _ _ _ hlt]; exact h.st i hi
set_option maxRecDepth 100000 in
set_option maxHeartbeats 1600000 in
theorem step_any (b : Nat) (m : Bool) (x : Nat) (hx : x < 256) (w : World) (h : TabW w b m) :
    Calls Tryz.prog 170 #[.pointer (some ⟨b, 0, none⟩), .int .u8 x] w fun e w' => e = .returned (.int .u32 (tabC x : Nat)) ∧ TabW w' b true ∧ Turned (fun j => j = b) w.heap.size w w' := by
  have hlt : b < w.heap.size := by
    obtain ⟨c2, h⟩ := h
    exact h.lt
  have hA := h.alloc (.cells #[.pointer (some ⟨b, 0, none⟩)] 218)
  have HD := Lib.hid (do_any b ⟨w.heap.size, 0, none⟩ (fun e => by dsimp only at e; omega) m _ (by simp) hA)
  have HT := Lib.hid ((Turned.refl (fun j => j = b) w.heap.size w).alloc (Nat.le_refl _) (.cells #[.pointer (some ⟨b, 0, none⟩)] 218))
  have hp0 : (w.alloc (.cells #[.pointer (some ⟨b, 0, none⟩)] 218)).cell? ⟨w.heap.size, 0, none⟩ = some (.pointer (some ⟨b, 0, none⟩)) := by simp
  have HP := Lib.hid hp0
  clear h hA
  go_enter Tryz.func170, Tryz.ntmps170
  go_wp2_with fail
  refine HD.out.mono ?_
  rintro e w2 ⟨rfl, h2, ht2⟩
  have hp2 : w2.cell? ⟨w.heap.size, 0, none⟩ = some (.pointer (some ⟨b, 0, none⟩)) := (World.cell?_of_block (ht2.block w.heap.size (by simp) (show ¬ (w.heap.size = b) by omega))).trans HP.out
  have hT2 := HT.out.trans (ht2.mono (by simp) (fun _ _ h => h))
  obtain ⟨c2, hS⟩ := h2
  obtain ⟨v, hv, hv2⟩ := hS.st x hx
  obtain rfl := hv2 hx
  have HS := Lib.hid hS
  have hxi : (x : Int) < 256 := by omega
  clear hS hv2
  obtain ⟨t, htt⟩ : ∃ t, tabC x = t := ⟨_, rfl⟩
  rw [htt] at hv
  have Hr := Lib.hid htt
  clear htt
  go_wp2_with fail
  go_ret
  exact ⟨by rw [Hr.out]; rfl, ⟨c2, HS.out⟩, hT2⟩
def tabZ : Array Value := #[.int .u32 0, .int .i32 0, .int .u32 0] ++ Array.replicate 256 (.int .u32 0)
theorem tabZ_zero : Tryz.zeroCells232 = tabZ := by kernel_rfl
theorem ones32 : bits .xor .u32 IntKind.u32.max 0 = ((4294967295 : Nat) : Int) := by kernel_rfl
theorem tabZ_list : tabZ.toList = [.int .u32 0, .int .i32 0, .int .u32 0] ++ List.replicate 256 (.int .u32 0) := by
  unfold tabZ
  rw [Array.toList_append, Array.toList_replicate]
theorem tabZ_at {i : Nat} (hi : i < 256) : tabZ.toList[3 + i]? = some (.int .u32 0) := by
  rw [tabZ_list, List.getElem?_append_right (by show 3 ≤ 3 + i; omega), List.getElem?_replicate, if_pos (by show 3 + i - 3 < 256; omega)]
theorem tabZ_new (w : World) : TabW (w.alloc (.cells tabZ 232)) w.heap.size false := by
  have f := cells_new w tabZ 232
  generalize hZ : tabZ = Z at *
  have h0 := f 0 (.int .u32 0) (by rw [← hZ, tabZ_list]; rfl)
  have h1 := f 1 (.int .i32 0) (by rw [← hZ, tabZ_list]; rfl)
  have h2 := f 2 (.int .u32 0) (by rw [← hZ, tabZ_list]; rfl)
  refine ⟨.int .u32 0, ⟨by simp, fun i => by simp, h0, ?_, ?_, fun i hi => ⟨.int .u32 0, ?_, fun h => ?_⟩⟩⟩
  · simpa [Addr.add] using h1
  · simpa [Addr.add] using h2
  · have := f (3 + i) (.int .u32 0) (by rw [← hZ, tabZ_at hi])
    simpa [Addr.add] using this
  · simp at h
theorem nextC_lt {x : Nat} (h : x < 4294967296) (b : UInt8) : nextC x b < 4294967296 := by
  have h1 : x / 256 < 2 ^ 32 := by omega
  have h2 : tabC (x % 256 ^^^ b.toNat) < 2 ^ 32 := by
    have : x % 256 ^^^ b.toNat < 2 ^ 8 := Nat.xor_lt_two_pow (by omega) b.toNat_lt
    exact iterC_lt (by omega) 8
  exact Nat.xor_lt_two_pow h1 h2
theorem fold_lt : ∀ (l : List UInt8) (x : Nat), x < 4294967296 → l.foldl nextC x < 4294967296
  | [], _, h => h
  | b :: r, _, h => fold_lt r _ (nextC_lt h b)
theorem ones_xor {x : Nat} (h : x < 4294967296) : bits .xor .u32 IntKind.u32.max (x : Int) = ((4294967295 - x : Nat) : Int) := by
  have h1 : IntKind.u32.max = ((4294967295 : Nat) : Int) := by kernel_rfl
  rw [h1, u32_xor_nat _ _ (by decide) h]
  congr 1
  have h2 := congrArg BitVec.toNat (BitVec.xor_allOnes (x := BitVec.ofNat 32 x))
  rw [BitVec.toNat_xor, BitVec.toNat_not, BitVec.toNat_ofNat, BitVec.toNat_allOnes, Nat.mod_eq_of_lt (by omega), Nat.xor_comm] at h2
  exact h2
theorem step_u8 {x : Nat} (b : UInt8) : bits .xor .u8 ((x : Int) % 256) (b.toNat : Int) = ((x % 256 ^^^ b.toNat : Nat) : Int) := by
  rw [show (x : Int) % 256 = ((x % 256 : Nat) : Int) by omega, u8_xor_nat _ _ (by omega) b.toNat_lt]
theorem next_val {x : Nat} (h : x < 4294967296) (b : UInt8) : bits .xor .u32 ((x : Int) / 256) ((tabC (x % 256 ^^^ b.toNat) : Nat) : Int) = ((nextC x b : Nat) : Int) := by
  have h2 : x % 256 ^^^ b.toNat < 2 ^ 8 := Nat.xor_lt_two_pow (by omega) b.toNat_lt
  rw [show (x : Int) / 256 = ((x / 256 : Nat) : Int) by omega, u32_xor_nat _ _ (by omega) (show tabC (x % 256 ^^^ b.toNat) < 4294967296 from iterC_lt (by omega) 8)]
  rfl
set_option maxRecDepth 100000 in
set_option maxHeartbeats 1600000 in
theorem more_any (d : ByteArray) (w : World) (hd : d.size ≤ 100000000) :
    Calls Tryz.prog 143 #[.int .i64 0, .string d] w fun e w' => e = .returned (.int .i64 (sumC d.data.toList : Nat)) ∧ Below w.heap.size w w' := by
  have hN := tabZ_new w
  have hT := (Turned.refl (fun j => j = w.heap.size) w.heap.size w).alloc (Nat.le_refl _) (.cells tabZ 232)
  rw [← tabZ_zero] at hN hT
  have HN := Lib.hid hN
  have HT := Lib.hid hT
  have hone := ones32
  have Hl := Lib.hid (show d.data.toList.length = d.size from rfl)
  have Hsum := Lib.hid (show sumC d.data.toList = 4294967295 - d.data.toList.foldl nextC 4294967295 from rfl)
  clear hN hT
  go_enter Tryz.func143, Tryz.ntmps143
  go_wp2_with fail
  go_loopw [6, 7, 15] (fun x _ i wr => ∃ k : Nat, k ≤ d.size ∧ i = .int .i64 k ∧ x = .int .u32 ((d.data.toList.take k).foldl nextC 4294967295 : Nat) ∧ (∃ m, TabW wr w.heap.size m) ∧ Turned (fun j => j = w.heap.size) w.heap.size w wr) (fun _ _ i _ => d.size - (RowKit.intOf i).toNat)
  case atStart => exact ⟨0, Nat.zero_le _, rfl, by first | rfl | simp, ⟨false, HN.out⟩, HT.out⟩
  case round =>
    obtain ⟨k, hk, rfl, rfl, ⟨m, hm⟩, ht⟩ := hrel
    by_cases hlt : k < d.size
    · have hx := fold_lt (d.data.toList.take k) 4294967295 (by decide)
      obtain ⟨b, hb⟩ : ∃ b, d.data.toList[k]? = some b := ⟨_, List.getElem?_eq_getElem (by rw [Hl.out]; exact hlt)⟩
      have Hst := Lib.hid (show (d.data.toList.take (k + 1)).foldl nextC 4294967295 = nextC ((d.data.toList.take k).foldl nextC 4294967295) b by rw [List.take_add_one, hb, Option.toList_some, List.foldl_append]; rfl)
      generalize (d.data.toList.take k).foldl nextC 4294967295 = x at *
      have hdk : (d[k]'hlt).toNat = b.toNat := by
        obtain ⟨h1, h2⟩ := List.getElem?_eq_some_iff.1 hb
        rw [← h2]
        rfl
      have h8 := step_u8 (x := x) b
      have hy : x % 256 ^^^ b.toNat < 256 := Nat.xor_lt_two_pow (n := 8) (by omega) b.toNat_lt
      have Hnv := Lib.hid (next_val hx b)
      have HS := Lib.hid fun W (h : TabW W w.heap.size m) => step_any w.heap.size m (x % 256 ^^^ b.toNat) hy W h
      clear hb
      generalize x % 256 ^^^ b.toNat = y at *
      have hnv := Hnv.out
      go_wp2_with fail
      refine (HS.out _ hm).mono ?_
      rintro e w4 ⟨rfl, hm4, ht4⟩
      go_wp2_with fail
      go_roundw
      case rel => exact ⟨k + 1, by omega, by go_num, by rw [Hst.out], ⟨true, hm4⟩, ht.trans (ht4.mono ht.size (fun _ _ h => h))⟩
      case measure => simp [RowKit.intOf]; omega
    · obtain rfl : k = d.size := by omega
      have hfull : d.data.toList.take d.size = d.data.toList := List.take_of_length_le (Nat.le_of_eq Hl.out)
      rw [hfull]
      have hx := fold_lt d.data.toList 4294967295 (by decide)
      generalize d.data.toList.foldl nextC 4294967295 = x at *
      have hox := ones_xor hx
      have h64 : IntKind.i64.wrap ((4294967295 - x : Nat) : Int) = ((4294967295 - x : Nat) : Int) := IntWalk.i64_in _ ⟨by omega, by omega⟩
      generalize 4294967295 - x = y at *
      go_wp2_with fail
      go_ret
      exact ⟨by rw [Hsum.out]; rfl, ht.below (Nat.le_refl _) (fun j hj e => by omega)⟩
set_option maxRecDepth 100000 in
theorem sum_any (d : ByteArray) (w : World) (hd : d.size ≤ 100000000) :
    Calls Tryz.prog 121 #[.string d] w fun e w' => e = .returned (.int .i64 (sumC d.data.toList : Nat)) ∧ Below w.heap.size w w' := by
  have HM := Lib.hid (more_any d w hd)
  go_enter Tryz.func121, Tryz.ntmps121
  go_wp2_with fail
  refine HM.out.mono ?_
  rintro e w4 ⟨rfl, hb⟩
  go_wp2_with fail
  go_ret
  exact ⟨rfl, hb⟩
end Go.Proofs.YtgglheelhbfgiaaGreatDoor

namespace Go.Proofs.YtgglheelhbfgiaaGreatDoor
open Go Go.RowKit Go.Lib
theorem raw_restS (r : Rd) : r.raw.2.rest.length ≤ r.rest.length := by
  unfold Rd.raw
  split
  · exact Nat.le_refl _
  · split
    · exact Nat.zero_le _
    · rename_i h t e
      rw [e]
      split
      · exact Nat.zero_le _
      · split
        · exact Nat.zero_le _
        · split
          · exact Nat.zero_le _
          · simp only [List.length_drop, List.length_cons]
            omega
theorem text_restS (r : Rd) : r.text.1.length ≤ r.rest.length ∧ r.text.2.rest.length ≤ r.rest.length := by
  have h := raw_restS r
  unfold Rd.text
  split
  · exact ⟨Nat.zero_le _, h⟩
  · split
    · exact ⟨Nat.zero_le _, Nat.zero_le _⟩
    · simp only [List.length_take, List.length_drop]
      omega
set_option maxRecDepth 100000 in
theorem sname_any (k : Nat) (hk : k < 100) (w : World) : Calls Tryz.prog 53 #[.int .i64 k] w fun e w' => e = .returned (.string (nameS k)) ∧ w' = w := by
  have HI := Lib.hid (Tryz.strconv_Itoa_small k hk w)
  have Hn := Lib.hid (show nameS k = ⟨#[115, 101, 103, 45]⟩ ++ ⟨(Lib.decDigits k).toArray⟩ by
    apply ba_ext
    rw [ByteArray.data_append, Array.toList_append]
    rfl)
  have hq := (name_size (k := k) (by omega)).2
  rw [Hn.out, ByteArray.size_append] at hq
  have hq2 : (⟨(Lib.decDigits k).toArray⟩ : ByteArray).size ≤ 24 := by omega
  clear hq
  generalize (⟨(Lib.decDigits k).toArray⟩ : ByteArray) = q at *
  generalize nameS k = r at *
  go_enter Tryz.func53, Tryz.ntmps53
  go_wp2_with fail
  refine HI.out.mono ?_
  rintro e w1 ⟨rfl, rfl⟩
  go_wp2_with fail
  go_ret
  exact ⟨by rw [Hn.out]; rfl, rfl⟩
theorem frameB_eq (n : Nat) (s : ByteArray) : frameB n s = mkB (numL (sumC (bodyL n s.data.toList) : Nat)) ++ mkB (textL (bodyL n s.data.toList)) := by
  apply ba_ext
  rw [ByteArray.data_append, Array.toList_append]
  rfl
theorem bodyB_eq (n : Nat) (s : ByteArray) : mkB (bodyL n s.data.toList) = mkB (numL n) ++ mkB (textL s.data.toList) := by
  apply ba_ext
  rw [ByteArray.data_append, Array.toList_append]
  rfl
theorem bodyL_len (n : Nat) (s : List UInt8) : (bodyL n s).length ≤ 18 + s.length := by
  unfold bodyL textL
  rw [List.length_append, List.length_append]
  have h1 := numL_len n
  have h2 : (natL s.length).length ≤ 9 := by
    unfold natL
    rw [List.length_cons, beF_len]
    have := wid_le s.length
    omega
  omega
set_option maxRecDepth 100000 in
set_option maxHeartbeats 1600000 in
theorem frame_any (n : Nat) (s : ByteArray) (w : World) (hs : s.size ≤ 8000) : Calls Tryz.prog 91 #[.int .i64 n, .string s] w fun e w' => e = .returned (.string (frameB n s)) ∧ Below w.heap.size w w' := by
  have H1 := Lib.hid fun W => encNum_any n W
  have H2 := Lib.hid fun W => encText_any s W (by omega)
  have hb := bodyL_len n s.data.toList
  have hb1 : (mkB (bodyL n s.data.toList)).size ≤ 100000000 := by
    rw [mkB_size]
    have : s.data.toList.length = s.size := rfl
    omega
  have hz1 : (mkB (numL (n : Int))).size ≤ 9 := by rw [mkB_size]; exact numL_len _
  have hz3 : (mkB (numL (sumC (bodyL n s.data.toList) : Nat))).size ≤ 9 := by rw [mkB_size]; exact numL_len _
  have htl : ∀ l : List UInt8, (mkB (textL l)).size ≤ 9 + l.length := fun l => by
    rw [mkB_size]
    unfold textL
    rw [List.length_append]
    have h2 : (natL l.length).length ≤ 9 := by
      unfold natL
      rw [List.length_cons, beF_len]
      have := wid_le l.length
      omega
    omega
  have hz2 : (mkB (textL s.data.toList)).size ≤ 8009 := by
    have h1 := htl s.data.toList
    have h2 : s.data.toList.length = s.size := rfl
    omega
  have hz4 : (mkB (textL (bodyL n s.data.toList))).size ≤ 8027 := by
    have h1 := htl (bodyL n s.data.toList)
    have h2 : s.data.toList.length = s.size := rfl
    omega
  clear htl
  have H3 := Lib.hid fun W => sum_any (mkB (bodyL n s.data.toList)) W hb1
  have H4 := Lib.hid fun W => encNum_any (sumC (bodyL n s.data.toList) : Nat) W
  have H5 := Lib.hid fun W => encText_any (mkB (bodyL n s.data.toList)) W hb1
  have HF := Lib.hid (frameB_eq n s)
  have HB := Lib.hid (bodyB_eq n s)
  rw [show (mkB (bodyL n s.data.toList)).data.toList = bodyL n s.data.toList from rfl] at H3 H5
  rw [show (⟨(numL (n : Int)).toArray⟩ : ByteArray) = mkB (numL n) from rfl] at H1
  rw [show (⟨(textL s.data.toList).toArray⟩ : ByteArray) = mkB (textL s.data.toList) from rfl] at H2
  rw [show (⟨(numL (sumC (bodyL n s.data.toList) : Nat)).toArray⟩ : ByteArray) = mkB (numL (sumC (bodyL n s.data.toList) : Nat)) from rfl] at H4
  rw [show (⟨(textL (bodyL n s.data.toList)).toArray⟩ : ByteArray) = mkB (textL (bodyL n s.data.toList)) from rfl] at H5
  clear hb hb1
  generalize mkB (textL (bodyL n s.data.toList)) = x4 at *
  generalize mkB (numL (sumC (bodyL n s.data.toList) : Nat)) = x3 at *
  generalize sumC (bodyL n s.data.toList) = sm at *
  generalize mkB (bodyL n s.data.toList) = bd at *
  generalize mkB (textL s.data.toList) = x2 at *
  generalize mkB (numL (n : Int)) = x1 at *
  generalize frameB n s = fr at *
  go_enter Tryz.func91, Tryz.ntmps91
  go_wp2_with fail
  refine (H1.out _).mono ?_
  rintro e w1 ⟨rfl, hb1⟩
  go_wp2_with fail
  refine (H2.out _).mono ?_
  rintro e w2 ⟨rfl, hb2⟩
  have hb12 := hb1.trans (hb2.mono hb1.size)
  clear hb1 hb2
  go_wp2_with fail
  rw [← HB.out]
  refine (H3.out _).mono ?_
  rintro e w3 ⟨rfl, hb3⟩
  have hb13 := hb12.trans (hb3.mono hb12.size)
  clear hb12 hb3
  go_wp2_with fail
  refine (H4.out _).mono ?_
  rintro e w4 ⟨rfl, hb4⟩
  have hb14 := hb13.trans (hb4.mono hb13.size)
  clear hb13 hb4
  go_wp2_with fail
  refine (H5.out _).mono ?_
  rintro e w5 ⟨rfl, hb5⟩
  have hb15 := hb14.trans (hb5.mono hb14.size)
  clear hb14 hb5
  go_wp2_with fail
  go_ret
  exact ⟨by rw [HF.out]; rfl, hb15⟩
set_option maxRecDepth 100000 in
theorem right_any (s : ByteArray) (w : World) : Calls Tryz.prog 56 #[.string s] w fun e w' => e = .returned (.bool (rightR s)) ∧ w' = w := by
  have he := empty_iff s
  have Hr := Lib.hid (show rightR s = (decide (1 ≤ s.size) && decide (s.size ≤ 2000)) from rfl)
  generalize rightR s = r at *
  by_cases h0 : s.size = 0
  · rw [decide_eq_true h0] at he
    have Hr2 := Lib.hid (show r = false by rw [Hr.out, decide_eq_false (by omega)]; rfl)
    clear h0
    go_enter Tryz.func56, Tryz.ntmps56
    go_wp2_with fail
    go_ret
    exact ⟨by rw [Hr2.out]; rfl, rfl⟩
  · rw [decide_eq_false h0] at he
    by_cases h1 : s.size ≤ 2000
    · have Hr2 := Lib.hid (show r = true by rw [Hr.out, decide_eq_true h1, decide_eq_true (by omega)]; rfl)
      have d1 : decide ((s.size : Int) ≤ 2000) = true := decide_eq_true (by omega)
      have d2 : decide (s.size ≤ 2000) = true := decide_eq_true h1
      clear h0 h1
      go_enter Tryz.func56, Tryz.ntmps56
      go_wp2_with fail
      go_ret
      exact ⟨by rw [Hr2.out]; rfl, rfl⟩
    · have Hr2 := Lib.hid (show r = false by rw [Hr.out, decide_eq_false h1, Bool.and_false])
      have d1 : decide ((s.size : Int) ≤ 2000) = false := decide_eq_false (by omega)
      have d2 : decide (s.size ≤ 2000) = false := decide_eq_false h1
      clear h0 h1
      go_enter Tryz.func56, Tryz.ntmps56
      go_wp2_with fail
      go_ret
      exact ⟨by rw [Hr2.out]; rfl, rfl⟩
end Go.Proofs.YtgglheelhbfgiaaGreatDoor

namespace Go.Proofs.YtgglheelhbfgiaaGreatDoor
open Go Go.RowKit Go.Lib
def firB : Option (List UInt8 × Nat) → ByteArray
  | none => noB
  | some x => mkB x.1
def firN : Option (List UInt8 × Nat) → Nat
  | none => 0
  | some x => x.2
theorem rec_right (l : List UInt8) : rightR (mkB l) = recOk l := by
  unfold rightR recOk
  rw [mkB_size]
theorem neq_int {a b : Int} (h : a ≠ b) : (a != b) = true := bne_iff_ne.2 h
theorem eq_int {a b : Int} (h : a = b) : (a != b) = false := by rw [h]; exact bne_self_eq_false b
set_option maxRecDepth 100000 in
set_option maxHeartbeats 3200000 in
theorem sfirst_any (d : ByteArray) (n : Nat) (w : World) (hd : d.size ≤ 100000000) :
    Calls Tryz.prog 86 #[.string d, .int .i64 n] w fun e w' => e = .returned (.tuple #[.string (firB (firstL d.data.toList n)), .int .i64 (firN (firstL d.data.toList n)), .bool (firstL d.data.toList n).isSome]) ∧ Below w.heap.size w w' := by
  have HR := Lib.hid (Read_any d w hd)
  have hl : d.data.toList.length ≤ 100000000 := hd
  obtain ⟨l, hle⟩ : ∃ l, d.data.toList = l := ⟨_, rfl⟩
  rw [hle] at hl HR ⊢
  clear hle
  obtain ⟨f, hf⟩ : ∃ f, firstL l n = f := ⟨_, rfl⟩
  rw [hf]
  unfold firstL at hf
  obtain ⟨c1, q1⟩ : ∃ c r, Rd.num ⟨0, l⟩ = (c, r) ∧ r.rest.length ≤ 100000000 := ⟨_, _, rfl, Nat.le_trans (raw_restS ⟨0, l⟩) hl⟩
  obtain ⟨r1, hq1, hl1⟩ := q1
  obtain ⟨c2, q2⟩ : ∃ c r, Rd.text r1 = (c, r) ∧ c.length ≤ 100000000 := ⟨_, _, rfl, Nat.le_trans (text_restS r1).1 hl1⟩
  obtain ⟨r2, hq2, hl2⟩ := q2
  obtain ⟨c3, q3⟩ : ∃ c r, Rd.num ⟨0, c2⟩ = (c, r) ∧ r.rest.length ≤ 100000000 := ⟨_, _, rfl, Nat.le_trans (raw_restS ⟨0, c2⟩) hl2⟩
  obtain ⟨r3, hq3, hl3⟩ := q3
  obtain ⟨c4, q4⟩ : ∃ c r, Rd.text r3 = (c, r) ∧ c.length ≤ 100000000 := ⟨_, _, rfl, Nat.le_trans (text_restS r3).1 hl3⟩
  obtain ⟨r4, hq4, hl4⟩ := q4
  simp only [hq1, hq2, hq3, hq4] at hf
  have HN1 := Lib.hid fun W b (h : RdAt W b ⟨0, l⟩) => Num_any b _ W h
  rw [hq1] at HN1
  have HT1 := Lib.hid fun W b (h : RdAt W b r1) => Text_any b _ W h
  rw [hq2] at HT1
  have HE1 := Lib.hid fun W b (h : RdAt W b r2) => Err_any b _ W h
  have HS := Lib.hid fun W => sum_any (mkB c2) W (by rw [mkB_size]; exact hl2)
  rw [show (mkB c2).data.toList = c2 from rfl] at HS
  have HR2 := Lib.hid fun W => Read_any (mkB c2) W (by rw [mkB_size]; exact hl2)
  rw [show (mkB c2).data.toList = c2 from rfl] at HR2
  have HN2 := Lib.hid fun W b (h : RdAt W b ⟨0, c2⟩) => Num_any b _ W h
  rw [hq3] at HN2
  have HT2 := Lib.hid fun W b (h : RdAt W b r3) => Text_any b _ W h
  rw [hq4] at HT2
  have HE2 := Lib.hid fun W b (h : RdAt W b r4) => End_any b _ W h
  have HRt := Lib.hid fun W => right_any (mkB c4) W
  rw [rec_right] at HRt
  have HC1 := Lib.hid fun W => encNum_any c1 W
  have HC2 := Lib.hid fun W => encText_any (mkB c2) W (by rw [mkB_size]; exact hl2)
  rw [show (mkB c2).data.toList = c2 from rfl] at HC2
  have hz1 : (mkB (numL c1)).size = (numL c1).length := mkB_size _
  have hz2 : (mkB (textL c2)).size = (textL c2).length := mkB_size _
  have hb1 := numL_len c1
  have hb2 : (textL c2).length ≤ 100000009 := by
    unfold textL
    rw [List.length_append]
    have h2 : (natL c2.length).length ≤ 9 := by
      unfold natL
      rw [List.length_cons, beF_len]
      have := wid_le c2.length
      omega
    omega
  rw [show (⟨(numL c1).toArray⟩ : ByteArray) = mkB (numL c1) from rfl] at HC1
  rw [show (⟨(textL c2).toArray⟩ : ByteArray) = mkB (textL c2) from rfl] at HC2
  simp only [show (⟨c2.toArray⟩ : ByteArray) = mkB c2 from rfl] at HT1
  simp only [show (⟨c4.toArray⟩ : ByteArray) = mkB c4 from rfl] at HT2
  have Hf := Lib.hid hf
  clear hf hl hl1 hl2 hl3 hl4 hq1 hq2 hq3 hq4
  generalize mkB (numL c1) = x1 at *
  generalize mkB (textL c2) = x2 at *
  generalize (numL c1).length = y1 at *
  generalize (textL c2).length = y2 at *
  generalize hsm : sumC c2 = sm at *
  have hme : ∃ m4, mkB c4 = m4 := ⟨_, rfl⟩
  obtain ⟨m4, hm4⟩ := hme
  have Hm4 := Lib.hid hm4
  rw [hm4] at HT2 HRt
  clear hm4 hsm
  generalize mkB c2 = m2 at *
  go_enter Tryz.func86, Tryz.ntmps86
  go_wp2_with fail
  refine HR.out.mono ?_
  rintro e w1 ⟨rfl, h1, hb1w⟩
  go_wp2_with fail
  refine (HN1.out _ _ h1).mono ?_
  rintro e w2 ⟨rfl, h2, hg2⟩
  have hb2w := hb1w.grown hg2 hb1w.size (fun j ej => by cases ej; exact Nat.le_refl _)
  clear h1 hg2 hb1w
  go_wp2_with fail
  refine (HT1.out _ _ h2).mono ?_
  rintro e w3 ⟨rfl, h3, hg3⟩
  have hb3w := hb2w.grown hg3 hb2w.size (fun j ej => by cases ej; exact Nat.le_refl _)
  clear h2 hg3 hb2w
  go_wp2_with fail
  refine (HE1.out _ _ h3).mono ?_
  rintro e w3' ⟨rfl, hw3⟩
  subst hw3
  by_cases he : r2.err = 0
  · rw [he]
    have Hf2 := Lib.hid he
    clear he
    go_wp2_with fail
    refine (HS.out _).mono ?_
    rintro e w4 ⟨rfl, hb4⟩
    have hb4w := hb3w.trans (hb4.mono hb3w.size)
    clear hb4 hb3w h3
    by_cases hs : c1 = (sm : Int)
    · have e1 := eq_int hs
      have Hf3 := Lib.hid (Hf.out.symm.trans (if_neg fun h => h.elim (fun h => h Hf2.out) (fun h => h hs)))
      clear hs
      go_wp2_with fail
      refine (HR2.out _).mono ?_
      rintro e w5 ⟨rfl, h5, hb5⟩
      have hb5w := hb4w.trans (hb5.mono hb4w.size)
      have hle := hb4w.size
      clear hb5 hb4w
      go_wp2_with fail
      refine (HN2.out _ _ h5).mono ?_
      rintro e w6 ⟨rfl, h6, hg6⟩
      have hb6w := hb5w.grown hg6 hb5w.size (fun j ej => by cases ej; exact hle)
      clear h5 hg6 hb5w
      go_wp2_with fail
      refine (HT2.out _ _ h6).mono ?_
      rintro e w7 ⟨rfl, h7, hg7⟩
      have hb7w := hb6w.grown hg7 hb6w.size (fun j ej => by cases ej; exact hle)
      clear h6 hg7 hb6w
      go_wp2_with fail
      refine (HE2.out _ _ h7).mono ?_
      rintro e w8 ⟨rfl, nd, hw8⟩
      subst hw8
      have hb8w : Below w.heap.size w (w7.drewN nd) := hb7w.trans ⟨rfl, rfl, rfl, Nat.le_refl _, fun _ _ => rfl⟩
      clear h7 hb7w
      generalize w7.drewN nd = w8 at *
      by_cases hfin : r4.fin = 0
      · rw [hfin]
        have Hfin := Lib.hid hfin
        clear hfin
        by_cases hk : c3 = (n : Int)
        · have e2 := eq_int hk
          have Hk := Lib.hid hk
          clear hk
          cases hro : recOk c4 with
          | true =>
            have Hf4 := Lib.hid (Hf3.out.trans (if_neg fun h => h.elim (fun h => h Hfin.out) fun h => h.elim (fun h => h Hk.out) fun h => by rw [hro] at h; cases h))
            rw [hro] at HRt
            clear hro
            go_wp2_with fail
            refine (HRt.out _).mono ?_
            rintro e w9 ⟨rfl, hw9⟩
            subst hw9
            go_wp2_with fail
            refine (HC1.out _).mono ?_
            rintro e w10 ⟨rfl, hb10⟩
            have hb10w := hb8w.trans (hb10.mono hb8w.size)
            clear hb10 hb8w
            go_wp2_with fail
            refine (HC2.out _).mono ?_
            rintro e w11 ⟨rfl, hb11⟩
            have hb11w := hb10w.trans (hb11.mono hb10w.size)
            clear hb11 hb10w
            go_wp2_with fail
            go_ret3
            refine ⟨?_, hb11w⟩
            rw [Hf4.out]
            show _ = Ending.returned (.tuple #[.string (mkB c4), .int .i64 ((y1 + y2 : Nat) : Int), .bool true])
            rw [Hm4.out, Int.natCast_add]
            rfl
          | false =>
            have Hf4 := Lib.hid (Hf3.out.trans (if_pos (.inr (.inr hro))))
            rw [hro] at HRt
            clear hro
            go_wp2_with fail
            refine (HRt.out _).mono ?_
            rintro e w9 ⟨rfl, hw9⟩
            subst hw9
            go_wp2_with fail
            go_ret3
            exact ⟨by rw [Hf4.out]; rfl, hb8w⟩
        · have e2 := neq_int hk
          have Hf4 := Lib.hid (Hf3.out.trans (if_pos (.inr (.inl hk))))
          clear hk
          go_wp2_with fail
          go_ret3
          exact ⟨by rw [Hf4.out]; rfl, hb8w⟩
      · have e2 := neq_int hfin
        have Hf4 := Lib.hid (Hf3.out.trans (if_pos (.inl hfin)))
        clear hfin
        go_wp2_with fail
        go_ret3
        exact ⟨by rw [Hf4.out]; rfl, hb8w⟩
    · have e1 := neq_int hs
      have Hf3 := Lib.hid (Hf.out.symm.trans (if_pos (.inr hs)))
      clear hs
      go_wp2_with fail
      go_ret3
      exact ⟨by rw [Hf3.out]; rfl, hb4w⟩
  · have e1 := neq_int he
    have Hf3 := Lib.hid (Hf.out.symm.trans (if_pos (.inl he)))
    clear he
    go_wp2_with fail
    go_ret3
    exact ⟨by rw [Hf3.out]; rfl, hb3w⟩
end Go.Proofs.YtgglheelhbfgiaaGreatDoor

namespace Go.Proofs.YtgglheelhbfgiaaGreatDoor
open Go Go.RowKit Go.Lib
theorem zeroIntS (w : World) : (zeroValue 3).run Tryz.prog w = .ok (intV.val 0) w := by kernel_rfl
theorem strInfoS : (Tryz.prog.info? 9).map (fun i => (i.zero, i.size, i.bytes)) = some (some (.string ⟨#[]⟩), 1, 16) := by kernel_rfl
theorem info_three {P : Program} {t : TypeId} {z : Value} {n m : Nat} (h : (P.info? t).map (fun i => (i.zero, i.size, i.bytes)) = some (some z, n, m)) : ∃ i, P.info? t = some i ∧ i.zero = some z ∧ i.size = n ∧ i.bytes = m := by
  cases e : P.info? t with
  | none => rw [e] at h; cases h
  | some i => rw [e] at h; simp only [Option.map_some, Option.some.injEq, Prod.mk.injEq] at h; exact ⟨i, rfl, h.1, h.2.1, h.2.2⟩
def lenV : Value → Nat
  | .slice _ n _ => n
  | _ => 0
/-- Where the files that were scanned end. -/
structure EndsIn (now : Fls) (E : Ends) : Prop where
  nodup : (E.map (·.1)).Nodup
  low : ∀ p, 0 ≤ endOf E p
  high : ∀ p, endOf E p ≤ (hasD now p).size
theorem endsIn_nil (now : Fls) : EndsIn now [] := ⟨List.nodup_nil, fun _ => Int.le_refl _, fun _ => Int.natCast_nonneg _⟩
theorem endOf_put {E : Ends} (hn : (E.map (·.1)).Nodup) (p : ByteArray) (a : Int) (q : ByteArray) : endOf (putK E p a) q = if q = p then a else endOf E q := by
  unfold endOf
  rw [findK_put hn]
  split <;> rfl
theorem endsIn_put {now : Fls} {E : Ends} (h : EndsIn now E) {p : ByteArray} {n : Nat} (hn : endOf E p + n ≤ (hasD now p).size) : EndsIn now (putK E p (endOf E p + n)) := by
  refine ⟨keysK_put E p _ h.nodup, fun q => ?_, fun q => ?_⟩
  · rw [endOf_put h.nodup]
    split
    · have := h.low p
      omega
    · exact h.low q
  · rw [endOf_put h.nodup]
    split
    · rename_i e
      rw [e]
      exact hn
    · exact h.high q
theorem scan_stop {now : Fls} {out : List ByteArray} {E : Ends} (h : out.length < 800) (hf : firstL ((hasD now (nameS (out.length / 8))).data.toList.drop (endOf E (nameS (out.length / 8))).toNat) out.length = none) : scanG now (800 - out.length) out E = (out, E) := by
  obtain ⟨m, hm⟩ : ∃ m, 800 - out.length = m + 1 := ⟨799 - out.length, by omega⟩
  rw [hm, scanG, hf]
theorem scan_go {now : Fls} {out : List ByteArray} {E : Ends} {s : List UInt8} {n : Nat} (h : out.length < 800) (hf : firstL ((hasD now (nameS (out.length / 8))).data.toList.drop (endOf E (nameS (out.length / 8))).toNat) out.length = some (s, n)) :
    scanG now (800 - out.length) out E = scanG now (800 - (out ++ [mkB s]).length) (out ++ [mkB s]) (putK E (nameS (out.length / 8)) (endOf E (nameS (out.length / 8)) + n)) := by
  obtain ⟨m, hm⟩ : ∃ m, 800 - out.length = m + 1 := ⟨799 - out.length, by omega⟩
  rw [hm, scanG, hf, List.length_append, List.length_singleton, show 800 - (out.length + 1) = m by omega]
theorem scan_end {now : Fls} {out : List ByteArray} {E : Ends} (h : out.length = 800) : scanG now (800 - out.length) out E = (out, E) := by
  rw [h]
  rfl
theorem read_has {d : Dk} {k : Nat} (hd : d.dead = false) (hk : k < 100) : (readD d (nameS k)).1 = hasD d.now (nameS k) := by
  have hw : wrongD d (nameS k) 0 = 0 := wrong_none hd (by omega) (Int.le_refl _) (Int.natCast_nonneg _)
  unfold readD
  rw [if_neg (by rw [hw]; simp)]
  unfold hasD
  cases findK d.now (nameS k) <;> rfl
theorem first_len {l : List UInt8} {i : Nat} {s : List UInt8} {n : Nat} (h : firstL l i = some (s, n)) : n ≤ l.length := by
  obtain ⟨h1, _, h3⟩ := first_inv h
  have := congrArg List.length h3
  rw [List.length_append] at this
  omega
set_option maxRecDepth 100000 in
set_option maxHeartbeats 3200000 in
theorem sscan_any {w : World} {db : Nat} {S : Nat → Prop} {d : Dk} (h : DOk w db S d) (hd : d.dead = false) :
    Calls Tryz.prog 50 #[.pointer (some ⟨db, 0, none⟩)] w fun e w' => ∃ v mb, e = .returned (.tuple #[v, .map (some mb)]) ∧ OwnRows strLay w' (w.heap.size + 1) 9 v (scanG d.now 800 [] []).1 ∧ w.heap.size = mb ∧ MapK intV Tryz.prog 9 w' mb (scanG d.now 800 [] []).2 ∧ EndsIn d.now (scanG d.now 800 [] []).2 ∧ (scanG d.now 800 [] []).2.length ≤ (scanG d.now 800 [] []).1.length ∧ (scanG d.now 800 [] []).1.length ≤ 800 ∧ Below w.heap.size w w' := by
  obtain ⟨i0, hi, hz0, hz1, hz2⟩ := info_three strInfoS
  have Hi := Lib.hid hi
  have Hz0 := Lib.hid hz0
  have Hz1 := Lib.hid hz1
  have Hz2 := Lib.hid hz2
  clear hi hz0 hz1 hz2
  have hmm := @run_makeMap Tryz.prog
  have hM0 : MapK intV Tryz.prog 9 (w.alloc (.map #[] 0)) w.heap.size [] := MapK.made w
  have hb0 : Below w.heap.size w (w.alloc (.map #[] 0)) := (Below.refl _ _).alloc (Nat.le_refl _) _
  have HD := Lib.hid h
  have Hd := Lib.hid hd
  have HF := Lib.hid h.ok.now
  obtain ⟨R, hR⟩ : ∃ R, scanG d.now 800 [] [] = R := ⟨_, rfl⟩
  rw [hR]
  have HR0 := Lib.hid (show scanG d.now (800 - ([] : List ByteArray).length) [] [] = R from hR)
  clear h hd hR
  go_enter Tryz.func50, Tryz.ntmps50
  go_wp2_with fail
  go_loopw [4, 6, 7, 8, 9, 10, 11] (fun v _ _ _ _ _ _ wr => ∃ (out : List ByteArray) (E : Ends), out.length ≤ 800 ∧ OwnRows strLay wr (w.heap.size + 1) 9 v out ∧ MapK intV Tryz.prog 9 wr w.heap.size E ∧ Hid (EndsIn d.now E) ∧ E.length ≤ out.length ∧ Hid (scanG d.now (800 - out.length) out E = R) ∧ w.heap.size + 1 ≤ wr.heap.size ∧ Below w.heap.size w wr) (fun v _ _ _ _ _ _ _ => 800 - lenV v)
  case atStart => exact ⟨[], [], Nat.zero_le _, OwnRows.nil _ _ _ _, hM0, Lib.hid (endsIn_nil _), Nat.le_refl _, HR0, by simp, hb0⟩
  case round =>
    obtain ⟨out, E, hout, ho, hM, HE, hEl, HR, hsz, hb⟩ := hrel
    obtain ⟨oa, oc, rfl, _, _⟩ := ho.read
    by_cases hlt : out.length < 800
    · have hlti : (out.length : Int) < 800 := by omega
      have hq8 : ((out.length / 8 : Nat) : Int) = (out.length : Int) / 8 := by omega
      have hk8 : out.length / 8 < 100 := by omega
      have Hnm := Lib.hid fun W => sname_any (out.length / 8) hk8 W
      have hnz := (name_size (k := out.length / 8) (by omega)).2
      have HRd := Lib.hid (dread_any (HD.out.below hb) (nameS (out.length / 8)))
      have HX := Lib.hid (read_has (d := d) Hd.out hk8)
      rw [HX.out] at HRd
      have hstop := scan_stop (now := d.now) (out := out) (E := E) hlt
      have hgo := fun s n => scan_go (now := d.now) (out := out) (E := E) (s := s) (n := n) hlt
      have hlow := HE.out.low (nameS (out.length / 8))
      have hhigh := HE.out.high (nameS (out.length / 8))
      have hput := fun n => endsIn_put (n := n) HE.out (p := nameS (out.length / 8))
      have hhas := HF.out.has (nameS (out.length / 8))
      have hlk := MapK.look1 (t := 83) hM dkeyL Tryz.underlying9 Tryz.underlying83 (zeroIntS wr) (p := nameS (out.length / 8)) (by unfold maxLen; omega)
      have hlk2 : (Instr.lookup 83 (.map (some w.heap.size)) (.string (nameS (out.length / 8))) false).run Tryz.prog wr = .ok (.int .i64 (endOf E (nameS (out.length / 8)))) wr := hlk
      have Hlk := Lib.hid fun W (hW : MapK intV Tryz.prog 9 W w.heap.size E) => (show (Instr.lookup 83 (.map (some w.heap.size)) (.string (nameS (out.length / 8))) false).run Tryz.prog W = .ok (.int .i64 (endOf E (nameS (out.length / 8)))) W from MapK.look1 (t := 83) hW dkeyL Tryz.underlying9 Tryz.underlying83 (zeroIntS W) (p := nameS (out.length / 8)) (by unfold maxLen; omega))
      have Hup := Lib.hid fun W (hW : MapK intV Tryz.prog 9 W w.heap.size E) x => MapK.put (t := 83) hW dkeyL Tryz.underlying9 Tryz.underlying83 (nameS (out.length / 8)) x (by unfold maxLen; omega) (by unfold maxLen; omega)
      have hpl := fun x => lenK_put E (nameS (out.length / 8)) x
      clear hlk
      generalize hasD d.now (nameS (out.length / 8)) = s at *
      generalize nameS (out.length / 8) = nm at *
      obtain ⟨m, hm⟩ : ∃ m : Nat, endOf E nm = (m : Int) := ⟨(endOf E nm).toNat, by omega⟩
      rw [hm] at hlk2 hhigh hstop hgo hput Hlk
      rw [Int.toNat_natCast] at hstop hgo
      have hms : m ≤ s.size := by omega
      have hmi : min (m : Int) (s.size : Int) = (m : Int) := by omega
      have hxd : (s.extract m s.size).data.toList = s.data.toList.drop m := drop_extract s m
      have hxz := drop_size s m
      have HFs := Lib.hid fun W => sfirst_any (s.extract m s.size) out.length W (by omega)
      rw [hxd] at HFs
      have Hxz := Lib.hid hxz
      have hdl : (s.data.toList.drop m).length ≤ s.size - m := by
        rw [List.length_drop]
        exact Nat.le_refl _
      have Ho := Lib.hid ho
      have HM := Lib.hid hM
      clear hxd hxz ho hM hm hlow hhigh
      cases hf : firstL (s.data.toList.drop m) out.length with
      | none =>
        rw [hf] at HFs
        have Hst := Lib.hid (HR.out.symm.trans (hstop hf))
        clear hf hstop hgo hput hpl
        go_wp2_with fail
        refine (Hnm.out _).mono ?_
        rintro e w1 ⟨rfl, rfl⟩
        go_wp2_with fail
        refine HRd.out.mono ?_
        rintro e w2 ⟨rfl, rfl⟩
        go_wp2_with fail
        refine (HFs.out _).mono ?_
        rintro e w3 ⟨rfl, hb3⟩
        have hbw3 := hb.trans (hb3.mono hb.size)
        go_wp2_with fail
        refine bodyPost_ret (v := .tuple #[.slice oa out.length oc, .map (some w.heap.size)]) (by simp [results, Tryz.results50, go_sem]) rfl ?_
        rw [Hst.out]
        exact ⟨_, _, rfl, Ho.out.below hb3, rfl, HM.out.keeps hb3 (by omega), HE.out, hEl, hout, hbw3⟩
      | some x =>
        obtain ⟨rs, n⟩ := x
        rw [hf] at HFs
        have Hst := Lib.hid ((hgo rs n hf).symm.trans HR.out)
        have hnl := first_len hf
        have HE2 := Lib.hid (hput n (by omega))
        clear hf hstop hgo hput
        have hmn : m + n ≤ 4202304 := by omega
        go_wp2_with fail
        refine (Hnm.out _).mono ?_
        rintro e w1 ⟨rfl, rfl⟩
        go_wp2_with fail
        refine HRd.out.mono ?_
        rintro e w2 ⟨rfl, rfl⟩
        go_wp2_with fail
        refine (HFs.out _).mono ?_
        rintro e w3 ⟨rfl, hb3⟩
        have hbw3 := hb.trans (hb3.mono hb.size)
        have ho3 := Ho.out.below hb3
        have hM3 := HM.out.keeps hb3 (by omega)
        have hsz3 := hb3.size
        have Ho3 := Lib.hid ho3
        have HM3 := Lib.hid hM3
        clear ho3 hM3
        simp only [firB, firN, Option.isSome_some]
        obtain ⟨q, hq⟩ : ∃ q, mkB rs = q := ⟨_, rfl⟩
        rw [hq] at Hst
        rw [hq]
        clear hq
        have hmn2 : ((m + n : Nat) : Int) = (m : Int) + (n : Int) := Int.natCast_add m n
        go_wp2_with (at_builtin; refine wpList_append_rows _ rfl _ _ 23 rfl strLay (w.heap.size + 1) 9 i0 (.string ⟨#[]⟩) 16 Tryz.underlying23 Hi.out Hz0.out Hz1.out Hz2.out rfl (by decide) _ out rfl (Ho3.out.alloc _) ⟨w3.heap.size, 0, none⟩ 1 q rfl (cells_new_at w3 w3.heap.size #[.string q] 9 rfl) (by unfold maxLen; omega) (by omega) (by simp; omega) ?_; intro va w4 hrow4 hg4 hv4; have hM4 := (HM3.out.keeps ((Below.refl w3.heap.size w3).alloc (Nat.le_refl _) (.cells #[.string q] 9)) HM3.out.lt).grown hg4 (fun e => by have := (Ho3.out.lt e.symm).1; omega); have hlk4 := Hlk.out w4 hM4; obtain ⟨w5, hu5, hM5, hg5⟩ := Hup.out w4 hM4 ((m : Int) + (n : Int)); simp only [intV] at hu5; clear hM4 hv4; go_frame)
        have hb4 := (hbw3.alloc hbw3.size (.cells #[.string q] 9)).grown hg4 (by simp; omega) (fun j ej => by have := (Ho3.out.lt ej).1; omega)
        have hb5 := hb4.grown hg5 hb4.size (fun j ej => by cases ej; exact Nat.le_refl _)
        have ho5 := hrow4.kept hg5 (.inr fun e => by have := (hrow4.lt e).1; omega)
        have hsz4 := hg4.size
        have hsz5 := hg5.size
        simp only [World.size_alloc] at hsz4
        have hpl2 := hpl ((m : Int) + (n : Int))
        obtain ⟨va2, vc2, rfl, _, _⟩ := hrow4.read
        go_roundw
        case rel => exact ⟨out ++ [q], _, by rw [List.length_append, List.length_singleton]; omega, ho5, hM5, HE2, by rw [List.length_append, List.length_singleton]; omega, Hst, by omega, hb5⟩
        case measure => simp only [lenV, List.length_append, List.length_singleton]; omega
    · have h8 : out.length = 800 := by omega
      have hlti : ¬ ((out.length : Int) < 800) := by omega
      have Hst := Lib.hid (HR.out.symm.trans (scan_end h8))
      clear h8
      go_wp2_with fail
      refine bodyPost_ret (v := .tuple #[.slice oa out.length oc, .map (some w.heap.size)]) (by simp [results, Tryz.results50, go_sem]) rfl ?_
      rw [Hst.out]
      exact ⟨_, _, rfl, ho, rfl, hM, HE.out, hEl, hout, hb⟩
end Go.Proofs.YtgglheelhbfgiaaGreatDoor

