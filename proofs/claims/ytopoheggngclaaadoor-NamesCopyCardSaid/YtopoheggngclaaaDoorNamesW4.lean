import Derived.Test.YtopoheggngclaaaDoorNamesW3
import Derived.Deep.RegionWith
import Derived.Laws.BytesArg
import Derived.IntWalk
namespace Go.Proofs.YtopoheggngclaaaDoor
open Go.RowKit Go.Lib

theorem conv_at (z : Int) (b : Nat) (W : World) (hc : W.cell? ⟨b, 0, none⟩ = some (.int .u8 z)) :
    Sem.run Tryd.prog (convert 77 9 (.slice (some ⟨b, 0, none⟩) 1 1)) W = .ok (.string ⟨#[UInt8.ofNat z.toNat]⟩) W := by
  have h := run_convert_bytes_arg (P := Tryd.prog) W 77 5 Tryd.underlying77 Tryd.underlying5 b 0 1 1 [z] rfl
    (fun i hi => by
      obtain rfl : i = 0 := by omega
      simpa using hc) 9 Tryd.underlying9
  rw [h]
  simp [strOfNums]
theorem bcell {W w1 : World} (hb : Below W.heap.size W w1) : (∀ b o, b < W.heap.size → w1.cell? ⟨b, o, none⟩ = W.cell? ⟨b, o, none⟩) ∧ (∀ b o, b < W.heap.size → w1.frozen? ⟨b, o, none⟩ = W.frozen? ⟨b, o, none⟩) :=
  ⟨fun b o h => hb.cell (p := ⟨b, o, none⟩) h, fun b o h => hb.frozen (p := ⟨b, o, none⟩) h⟩
theorem conv_one (z : Int) (W : World) :
    Sem.run Tryd.prog (convert 77 9 (.slice (some ⟨W.heap.size, 0, none⟩) 1 1)) (W.alloc (.cells #[.int .u8 z] 5)) = .ok (.string ⟨#[UInt8.ofNat z.toNat]⟩) (W.alloc (.cells #[.int .u8 z] 5)) := by
  have h := run_convert_bytes_arg (P := Tryd.prog) (W.alloc (.cells #[.int .u8 z] 5)) 77 5 Tryd.underlying77 Tryd.underlying5 W.heap.size 0 1 1 [z] rfl
    (fun i hi => by
      obtain rfl : i = 0 := by omega
      simp) 9 Tryd.underlying9
  rw [h]
  simp [strOfNums]

theorem decDigits_len {u : Nat} (h : u < 10000) : (decDigits u).length ≤ 4 := by
  rw [decDigits]
  split
  · simp
  rw [decDigits]
  split
  · simp
  rw [decDigits]
  split
  · simp
  rw [decDigits]
  split
  · simp
  omega

set_option maxRecDepth 100000 in
set_option maxHeartbeats 800000 in
theorem digits_any (m : Nat) : ∀ (n : Int) (w : World), n ≤ m → 0 ≤ n → n ≤ 9999 →
    Calls Tryd.prog 33 #[.int .i64 n] w fun e w' => ∃ t : ByteArray, e = .returned (.string t) ∧ t.size ≤ 4 ∧ Hid (t = ⟨(decDigits n.toNat).toArray⟩) ∧ Below w.heap.size w w' := by
  have hconv := conv_one
  induction m with
  | zero =>
    intro n w hm h0 hn
    obtain rfl : n = 0 := by omega
    go_enter Tryd.func33, Tryd.ntmps33
    go_wp2_with fail
    go_ret
    exact ⟨_, rfl, by decide, (by decide +kernel : _ = _), (Below.refl _ _).alloc (Nat.le_refl _) _⟩
  | succ m ih =>
    intro n w hm h0 hn
    by_cases h : n < 10
    · have Hd : Hid (decDigits n.toNat = [UInt8.ofNat (48 + n).toNat]) := by
        show decDigits n.toNat = _
        rw [decDigits_one (by omega), Int.toNat_add (by omega) (by omega)]
        rfl
      go_enter Tryd.func33, Tryd.ntmps33
      go_wp2_with fail
      go_ret
      exact ⟨_, rfl, by rw [size_eq]; simp, (by rw [Hd.out] : _ = _), (Below.refl _ _).alloc (Nat.le_refl _) _⟩
    · have Hfin : Hid (∀ t : ByteArray, t = ⟨(decDigits (n / 10).toNat).toArray⟩ → t ++ ⟨#[UInt8.ofNat (48 + n % 10).toNat]⟩ = ⟨(decDigits n.toNat).toArray⟩) := by
        intro t ht
        rw [ht]
        conv => rhs; rw [decDigits, dif_neg (by omega)]
        rw [show (n / 10).toNat = n.toNat / 10 from by omega, show (48 + n % 10).toNat = 48 + n.toNat % 10 from by omega]
        apply ByteArray.ext
        simp
      have Hlen := Lib.hid (decDigits_len (u := n.toNat) (by omega))
      go_enter Tryd.func33, Tryd.ntmps33
      have Hih := Lib.hid ih
      clear ih
      go_wp2_with fail
      have e1 : n.tdiv 10 = n / 10 := Int.tdiv_eq_ediv_of_nonneg h0
      have e2 : n.tmod 10 = n % 10 := Int.tmod_eq_emod_of_nonneg h0
      have e3 : IntKind.i64.wrap (n / 10) = n / 10 := IntWalk.i64_in _ (by omega)
      have e4 : IntKind.i64.wrap (48 + n % 10) = 48 + n % 10 := IntWalk.i64_in _ (by omega)
      have e5 : IntKind.u8.wrap (48 + n % 10) = 48 + n % 10 := by rw [IntKind.wrap_u8]; omega
      have hc2 := conv_at (48 + n % 10)
      go_region_with (go_at_call 33; refine (Hih.out (n / 10) _ (by omega) (by omega) (by omega)).mono ?_; rintro e w' ⟨t, rfl, hts, Ht, hb⟩; obtain ⟨hcl, hfz⟩ := bcell hb; (try simp only [World.size_alloc, World.size_drew] at hcl hfz))
      all_goals
        go_wp2
        go_ret
        have hfin := Hfin.out _ Ht.out
        refine ⟨_, rfl, by rw [hfin, size_mk]; exact Hlen.out, hfin, ?_⟩
        first
          | exact (((Below.refl _ _).drew).alloc (Nat.le_refl _) _).trans (hb.mono (by simp))
          | exact ((Below.refl _ _).drew.trans (hb.mono (by simp))).alloc (by have := hb.size; simpa using this) _
          | skip
end Go.Proofs.YtopoheggngclaaaDoor
