import Derived.Test.YtopoheggngclaaaDoorNamesW10
namespace Go.Proofs.YtopoheggngclaaaDoor
open Go.RowKit Go.Lib

/-- One list of three texts, freshly made. -/
theorem strsAt_three (w : World) (x y z : ByteArray) (t : TypeId) : StrsAt (w.alloc (.cells #[.string x, .string y, .string z] t)) (some ⟨w.heap.size, 0, none⟩) [x, y, z] := by
  intro j hj
  refine ⟨w.heap.size, 0, rfl, by simp, ?_⟩
  match j, hj with
  | 0, _ => simp
  | 1, _ => simp
  | 2, _ => simp
  | j + 3, hj => simp at hj; omega

def exA : ByteArray := ⟨#[97]⟩
def exA1 : ByteArray := ⟨#[97, 126, 49]⟩
def exA2 : ByteArray := ⟨#[97, 126, 50]⟩
theorem ex_unique : uniqueL [⟨#[97]⟩, ⟨#[97]⟩, ⟨#[97, 126, 49]⟩] = [⟨#[97]⟩, ⟨#[97, 126, 50]⟩, ⟨#[97, 126, 49]⟩] ∧ uniqueN [⟨#[97]⟩, ⟨#[97]⟩, ⟨#[97, 126, 49]⟩] = 0 := by decide +kernel
theorem ex_copy : copyL (⟨#[97, 46, 116, 120, 116]⟩ : ByteArray).data.toList 2 = [97, 126, 50, 46, 116, 120, 116] ∧ copyN (⟨#[97, 46, 116, 120, 116]⟩ : ByteArray).data.toList 2 = 0 := by decide +kernel
theorem ex_right : rightN (⟨#[97, 47, 98]⟩ : ByteArray).data.toList = 23 := by decide +kernel
theorem ex_same : sameB [⟨#[97]⟩, ⟨#[97, 126, 50]⟩, ⟨#[97, 126, 49]⟩] [⟨#[97]⟩, ⟨#[97, 126, 50]⟩, ⟨#[97, 126, 49]⟩] = true := by decide +kernel

set_option maxRecDepth 100000 in
set_option maxHeartbeats 800000 in
theorem awake_any (w : World) (hT : Tab w) : Calls Tryd.prog 12 #[] w fun e w' => e = .returned (.bool true) ∧ Below w.heap.size w w' := by
  have HC := Lib.hid fun W hW => copy_any ⟨#[97, 46, 116, 120, 116]⟩ 2 W (by decide) hW
  have HU := Lib.hid fun W hW => unique_any (some ⟨W.heap.size, 0, none⟩) 3 [⟨#[97]⟩, ⟨#[97]⟩, ⟨#[97, 126, 49]⟩] (W.alloc (.cells #[.string ⟨#[97]⟩, .string ⟨#[97]⟩, .string ⟨#[97, 126, 49]⟩] 9)) (by decide) (strsAt_three W _ _ _ _) (by decide) hW
  have HR := Lib.hid fun W => right_any ⟨#[97, 47, 98]⟩ W (by decide)
  have HT := Lib.hid hT
  go_enter Tryd.func12, Tryd.ntmps12
  go_wp2_with fail
  refine (HC.out _ HT.out).mono ?_
  rw [ex_copy.1, ex_copy.2]
  rintro e w1 ⟨rfl, hb1⟩
  go_wp2_with fail
  have hT1 := HT.out.keeps hb1
  refine (HU.out _ (hT1.keeps ((Below.refl _ _).alloc (Nat.le_refl _) _))).mono ?_
  rw [ex_unique.1, ex_unique.2]
  rintro e w2 ⟨v, c, rfl, hv, hb2⟩
  have hb2' := hb1.trans ((((Below.refl _ _).alloc (Nat.le_refl _) _).trans (hb2.mono (by simp))).mono hb1.size)
  go_wp2_with fail
  refine (texts_any _ _ _ _ [⟨#[97]⟩, ⟨#[97, 126, 50]⟩, ⟨#[97, 126, 49]⟩] [⟨#[97]⟩, ⟨#[97, 126, 50]⟩, ⟨#[97, 126, 49]⟩] _ (by decide) (hv.keeps ((Below.refl _ _).alloc (Nat.le_refl _) _)) (strsAt_three _ _ _ _ _)).mono ?_
  rw [ex_same]
  rintro e w' ⟨rfl, n, rfl⟩
  go_wp2_with fail
  refine (HR.out _).mono ?_
  rw [ex_right]
  rintro e w' ⟨rfl, n', rfl⟩
  go_wp2_with fail
  go_ret
  refine ⟨rfl, ?_⟩
  exact hb2'.trans ((below_drewN ((Below.refl _ _).alloc (Nat.le_refl _) _) _).mono hb2'.size)

set_option maxHeartbeats 800000 in
theorem law_right (s : ByteArray) (w : World) (hs : s.size ≤ 140737488351232) (hT : Tab w) :
    Calls Tryd.prog 3 #[.string s] w fun e w' => e = .returned (.bool true) ∧ Below w.heap.size w w' := by
  have HR := Lib.hid fun W => right_any s W hs
  have HR' := Lib.hid fun W => rright_any s W hs
  have HT := Lib.hid hT
  generalize rightN s.data.toList = r at *
  go_enter Tryd.func3, Tryd.ntmps3
  go_wp2_with fail
  refine (HR.out _).mono ?_
  rintro e w1 ⟨rfl, n, rfl⟩
  go_wp2_with fail
  refine (HR'.out _).mono ?_
  rintro e w1 ⟨rfl, rfl⟩
  have hb := below_drewN (Below.refl w.heap.size w) n
  go_wp2_with fail
  refine (awake_any _ (HT.out.keeps hb)).mono ?_
  rintro e w2 ⟨rfl, hb2⟩
  go_wp2_with fail
  go_ret
  exact ⟨rfl, hb.trans (hb2.mono hb.size)⟩

set_option maxHeartbeats 800000 in
theorem law_ext (s : ByteArray) (w : World) (hs : s.size ≤ 140737488351232) (hT : Tab w) :
    Calls Tryd.prog 4 #[.string s] w fun e w' => e = .returned (.bool true) ∧ Below w.heap.size w w' := by
  have HR := Lib.hid fun W => ext_any s W hs
  have HR' := Lib.hid fun W => rext_any s W hs
  generalize (⟨(extL s.data.toList).toArray⟩ : ByteArray) = r at *
  have HA := Lib.hid (awake_any w hT)
  clear hT
  go_enter Tryd.func4, Tryd.ntmps4
  go_wp2_with fail
  refine (HR.out _).mono ?_
  rintro e w1 ⟨rfl, rfl⟩
  go_wp2_with fail
  refine (HR'.out _).mono ?_
  rintro e w1 ⟨rfl, rfl⟩
  go_wp2_with fail
  refine HA.out.mono ?_
  rintro e w2 ⟨rfl, hb2⟩
  go_wp2_with fail
  go_ret
  exact ⟨rfl, hb2⟩

set_option maxHeartbeats 800000 in
theorem law_copy (s : ByteArray) (n : Int) (w : World) (hs : s.size ≤ 140737488351232) (_ : -9223372036854775808 ≤ n) (_ : n ≤ 9223372036854775807) (hT : Tab w) :
    Calls Tryd.prog 5 #[.string s, .int .i64 n] w fun e w' => e = .returned (.bool true) ∧ Below w.heap.size w w' := by
  have HR := Lib.hid fun W hW => copy_any s n W hs hW
  have HR' := Lib.hid fun W => rcopy_any s n W hs
  generalize (⟨(copyL s.data.toList n).toArray⟩ : ByteArray) = r at *
  generalize copyN s.data.toList n = q at *
  have HT := Lib.hid hT
  clear hT
  go_enter Tryd.func5, Tryd.ntmps5
  go_wp2_with fail
  refine (HR.out _ HT.out).mono ?_
  rintro e w1 ⟨rfl, hb1⟩
  go_wp2_with fail
  refine (HR'.out _).mono ?_
  rintro e w2 ⟨rfl, hb2⟩
  have hb := hb1.trans (hb2.mono hb1.size)
  go_wp2_with fail
  refine (awake_any _ (HT.out.keeps hb)).mono ?_
  rintro e w3 ⟨rfl, hb3⟩
  go_wp2_with fail
  go_ret
  exact ⟨rfl, hb.trans (hb3.mono hb.size)⟩
end Go.Proofs.YtopoheggngclaaaDoor
