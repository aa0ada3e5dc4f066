import Derived.Test.YtifpdejgkofnaaaDoorOpsW21
namespace Go.Proofs.YtifpdejgkofnaaaDoor
open Go Go.RowKit Go.Lib

theorem few_len {l : List Opr} (h : fewO l = true) : l.length ≤ 450 := by
  simp [fewO] at h
  omega
set_option maxRecDepth 100000 in
set_option maxHeartbeats 3200000 in
theorem law_opsVector (a : Option Addr) (cap : Nat) (l : List Opr) (w : World) (ha : RowsAt oprLay w a l) (_ : l.length ≤ cap) (hl : l.length ≤ 140737488351232) (_ : a = none → cap = 0) (hlo : ∀ x ∈ l, -9223372036854775808 ≤ x.who) :
    Calls Tryd.prog 7 #[.slice a l.length cap] w fun e w' => e = .returned (.bool true) ∧ Below w.heap.size w w' := by
  have HA := Lib.hid awake06_any
  have HF := Lib.hid (few06_any a cap l w (by omega) ha)
  cases hf : fewO l with
  | true =>
    have hfl := few_len hf
    have HV := Lib.hid fun W (h : RowsAt oprLay W a l) => vector_any a cap l W (by omega) h
    have HR := Lib.hid fun W (h : RowsAt oprLay W a l) => rvector_any a cap l W (by omega) hlo h
    have hvl : (vecO l).length ≤ 15 := by unfold vecO; rw [padO_len]; exact lenO_le l
    rw [hf] at HF
    clear hf hlo
    generalize vecO l = vl at *
    go_enter Tryd.func7, Tryd.ntmps7
    go_wp2_with fail
    refine HF.out.mono ?_
    rintro e w1 ⟨rfl, rfl⟩
    go_wp2_with fail
    refine (HV.out _ ha).mono ?_
    rintro e w2 ⟨v2, rfl, ho2, hb2⟩
    go_wp2_with fail
    refine (HR.out _ (ha.keeps hb2)).mono ?_
    rintro e w3 ⟨v3, rfl, ho3, hb3⟩
    obtain ⟨a3, c3, rfl, hr3, _⟩ := ho3.read
    obtain ⟨a2, c2, rfl, hr2, _⟩ := (ho2.below hb3).read
    have hB := hb2.trans (hb3.mono hb2.size)
    have HS := Lib.hid (nums_any a2 a3 c2 c3 vl vl w3 (by omega) hr2 hr3)
    rw [decide_eq_true rfl] at HS
    clear ho2 ho3
    go_wp2_with fail
    refine HS.out.mono ?_
    rintro e w4 ⟨rfl, n4, rfl⟩
    go_wp2_with fail
    refine (HA.out _).mono ?_
    rintro e w5 ⟨rfl, hb5⟩
    have hB4 := belowDrew hB n4
    go_wp2_with fail
    go_ret
    exact ⟨rfl, hB4.trans (hb5.mono hB4.size)⟩
  | false =>
    rw [hf] at HF
    clear hf hlo
    go_enter Tryd.func7, Tryd.ntmps7
    go_wp2_with fail
    refine HF.out.mono ?_
    rintro e w1 ⟨rfl, rfl⟩
    go_wp2_with fail
    refine (HA.out _).mono ?_
    rintro e w5 ⟨rfl, hb5⟩
    go_wp2_with fail
    go_ret
    exact ⟨rfl, hb5⟩
end Go.Proofs.YtifpdejgkofnaaaDoor
