/-
  arbourref15: does. arbourref15: whose parts are hidden; what is read, written, cut.
-/
import Derived.Test.YtgglheelhbfgiaaGreatDoorMg13
import Derived.Deep.RegionHeld3
import Derived.BigQuiet
import Derived.Test.YtgglheelhbfgiaaGreatDoorMg5
namespace Go.Proofs.YtgglheelhbfgiaaGreatDoor
open Go Go.RowKit Go.Lib
theorem act15Info : (Tryz.prog.info? 117).map (fun i => (i.zero, i.size, i.bytes)) = some (some (.agg #[.string ⟨#[]⟩, .int .i64 0, .string ⟨#[]⟩, .int .i64 0]), 4, 48) := by kernel_rfl
def rdoesD (d : Dk) (x : ActD) : Dk × Int := if x.cut = false ∧ d.limit < sizeF (doD d.now x false) then (d, 41) else doesD d x
theorem r15done_any (a : Option Addr) (cap : Nat) (l : Fls) (x : ActD) (w : World) (hr : RisK l) (hl : l.length ≤ 1000000) (hs : ∀ y ∈ l, y.2.size ≤ 4202304) (ha : FlAt w a cap l) (hn : x.n ≤ 4194304) (hd : x.data.size ≤ 8000) :
    Calls Tryz.prog 72 #[.slice a l.length cap, .agg #[.string x.name, .int .i64 x.at_, .string x.data, .int .i64 x.size_]] w (FlIs w a (doD l x false)) := by
  cases hc : x.cut with
  | true => exact r15cut_any a cap l x w hc hr hl hs ha hn
  | false => exact r15write_any a cap l x w hc hr hl hs ha hn hd
/-- The list of acts is grown. -/
theorem RD.grownActs {w w1 w2 : World} {rb : Nat} {Q : Nat → Prop} {v v' : Value} {d : Dk} {x : ActD} (h : RD w rb Q v d) (hb : Below w.heap.size w w1) (hQ : ∀ k, w.heap.size ≤ k → Q k) (h1 : OwnRows act15Lay w2 0 117 v' (d.acts ++ [x])) (hg : w1.grownBy w2 v.ownBlock) (hv : v'.ownBlock = v.ownBlock ∨ v'.ownBlock = some w1.heap.size) :
    RD (w2.setCell ⟨rb, 2, none⟩ v') rb Q v' { d with acts := d.acts ++ [x] } ∧ Turned (RSD rb v) w.heap.size w (w2.setCell ⟨rb, 2, none⟩ v') := by
  obtain ⟨na, nc, fa, fc, h2, h3, h4, h5, h6, h7, h8, h9, h10⟩ := h
  have hT2 : Turned (fun k => v.ownBlock = some k) w.heap.size w w2 := (Turned.of_below hb (Nat.le_refl _)).trans (Turned.of_grown hg hb.size fun k e _ => e)
  have hT := (hT2.mono (S' := RSD rb v) (Nat.le_refl _) fun _ _ h => .inr h).set (b := rb) 2 v' fun _ => .inl rfl
  have hV2 := h2.same (hT2.block rb h2.1 h8) hT2.size
  have hV := hV2.set 2 v' (by simp)
  have hrb : rb < w.heap.size := h2.1
  have hnb : v'.ownBlock ≠ some rb := by
    rcases hv with e | e
    · rw [e]; exact h8
    · rw [e]
      intro e2
      cases e2
      have := hb.size
      omega
  have hfar : ∀ {a : Option Addr}, FarB w rb Q v a → FarB (w2.setCell ⟨rb, 2, none⟩ v') rb Q v' a := fun {a} hf ad e => by
    obtain ⟨f1, f2, f3, f4⟩ := hf ad e
    refine ⟨f1, ?_, f3, Nat.lt_of_lt_of_le f4 hT.size⟩
    rcases hv with e2 | e2
    · rw [e2]; exact f2
    · rw [e2]
      intro e3
      have := hb.size
      simp only [Option.some.injEq] at e3
      omega
  refine ⟨⟨na, nc, fa, fc, by simpa using hV, h3.turned hT fun ad e hh => ?_, h4.turned hT fun ad e hh => ?_, ?_, hfar h6, hfar h7, hnb, h9, fun k hk => ?_⟩, hT⟩
  · rcases hh with hh | hh
    · exact (h6 ad e).1 hh
    · exact (h6 ad e).2.1 hh
  · rcases hh with hh | hh
    · exact (h7 ad e).1 hh
    · exact (h7 ad e).2.1 hh
  · exact h1.turnedOther ((Turned.refl (fun k => k = rb) w2.heap.size w2).set 2 v' fun _ => rfl) fun k hk e => hnb (by rw [hk, e])
  · rcases hv with e2 | e2
    · exact h10 k (e2 ▸ hk)
    · rw [e2] at hk
      cases hk
      exact hQ _ hb.size
theorem RD.setNow {w : World} {rb : Nat} {Q : Nat → Prop} {v : Value} {d : Dk} {a : Option Addr} {cap : Nat} {R : Fls} (h : RD w rb Q v d) (h1 : FlAt w a cap R) (h2 : FarB w rb Q v a) : RD (w.setCell ⟨rb, 0, none⟩ (.slice a R.length cap)) rb Q v { d with now := R } ∧ Turned (fun k => k = rb) w.heap.size w (w.setCell ⟨rb, 0, none⟩ (.slice a R.length cap)) := by
  obtain ⟨na, nc, fa, fc, k1, k2, k3, k4, k5, k6, k7, k8, k9⟩ := h
  have hT := (Turned.refl (fun j => j = rb) w.heap.size w).set (b := rb) 0 (.slice a R.length cap) (fun _ => rfl)
  have hV := k1.set 0 (.slice a R.length cap) (by simp)
  exact ⟨⟨a, cap, fa, fc, by simpa using hV, h1.turned hT fun ad e => (h2 ad e).1, k3.turned hT fun ad e => (k6 ad e).1, k4.turnedOther hT fun k hk hh => k7 (by rw [hk, hh]), h2.later hT.size, k6.later hT.size, k7, k8, k9⟩, hT⟩
set_option maxRecDepth 100000 in
set_option maxHeartbeats 6400000 in
theorem r15does_any (w : World) (rb : Nat) (Q : Nat → Prop) (v : Value) (d : Dk) (x : ActD) (h : RD w rb Q v d) (hQ : ∀ k, w.heap.size ≤ k → Q k) (hN : FilesOK d.now) (hl : d.now.length ≤ 900000) (hal : d.acts.length ≤ 100000000) (hok : ActOK x) :
    Calls Tryz.prog 70 #[.pointer (some ⟨rb, 0, none⟩), .agg #[.string x.name, .int .i64 x.at_, .string x.data, .int .i64 x.size_]] w fun e w' => e = .returned (.int .i64 (rdoesD d x).2) ∧ ∃ v', RD w' rb Q v' (rdoesD d x).1 ∧ (v'.ownBlock = v.ownBlock ∨ ∀ k, v'.ownBlock = some k → w.heap.size ≤ k) ∧ Turned (RSD rb v) w.heap.size w w' := by
  have HQ := Lib.hid hQ
  clear hQ
  obtain ⟨i0, hi, hz0, hz1, hz2⟩ := info_three act15Info
  have Hi := Lib.hid hi
  have Hz0 := Lib.hid hz0
  have Hz1 := Lib.hid hz1
  have Hz2 := Lib.hid hz2
  clear hi hz0 hz1 hz2
  have hal0 := (Below.refl w.heap.size w).alloc (Nat.le_refl _) (.cells #[.string x.name, .int .i64 x.at_, .string x.data, .int .i64 x.size_] 117)
  have hV0 := VarAt.new w #[.string x.name, .int .i64 x.at_, .string x.data, .int .i64 x.size_] 117
  have HD0 := Lib.hid (h.below hal0)
  have Hal0 := Lib.hid hal0
  obtain ⟨W0, hW0⟩ : ∃ W0, w.alloc (.cells #[.string x.name, .int .i64 x.at_, .string x.data, .int .i64 x.size_] 117) = W0 := ⟨_, rfl⟩
  have HW0 := Lib.hid hW0
  rw [hW0] at HD0 Hal0 hV0
  clear h hal0 hW0
  obtain ⟨na, nc, fa, fc, k1, k2, k3, k4, k5, k6, k7, k8, _⟩ := HD0.out
  have c0 := k1.2.2 0 _ rfl
  have HK := Lib.hid fun W (hW : Below W0.heap.size W0 W) => (⟨hW, (k1.keeps hW k1.1).2.2 0 _ rfl, (hV0.keeps hW hV0.1).2.2 0 _ rfl, (hV0.keeps hW hV0.1).2.2 1 _ rfl, (hV0.keeps hW hV0.1).2.2 2 _ rfl, (hV0.keeps hW hV0.1).2.2 3 _ rfl⟩ : Below W0.heap.size W0 W ∧ W.cell? ⟨rb, 0, none⟩ = some (.slice na d.now.length nc) ∧ W.cell? ⟨w.heap.size, 0, none⟩ = some (.string x.name) ∧ W.cell? ⟨w.heap.size, 1, none⟩ = some (.int .i64 x.at_) ∧ W.cell? ⟨w.heap.size, 2, none⟩ = some (.string x.data) ∧ W.cell? ⟨w.heap.size, 3, none⟩ = some (.int .i64 x.size_))
  have HDo := Lib.hid fun W (hW : Below W0.heap.size W0 W) => r15done_any na nc d.now x W hN.rise (by omega) hN.sizes (k2.keeps hW) hok.1 hok.2.1
  have hRok := doD_ok false hN hok
  have hRl := doD_len d.now x false
  have HRok := Lib.hid hRok
  have HV0 := Lib.hid hV0
  have HR := Lib.hid (show rdoesD d x = if x.cut = false ∧ d.limit < sizeF (doD d.now x false) then (d, 41) else doesD d x from rfl)
  have HNa := Lib.hid k5
  have Hrb0 := Lib.hid k1.1
  have HVo := Lib.hid (fun k e => (k4.lt (k := k) e).2)
  clear k1 k2 k3 k4 k5 k6 k7 k8 hV0 c0 hRok
  generalize hR : doD d.now x false = R at *
  have HRd := Lib.hid hR
  clear hR
  go_enter Tryz.func70, Tryz.ntmps70
  go_wp2_with fail
  rw [HW0.out]
  go_upto_region 1 with fail
  go_region_held3 (fun w' => Below W0.heap.size W0 w' ∧ w'.cell? ⟨rb, 0, none⟩ = some (.slice na d.now.length nc) ∧ w'.cell? ⟨w.heap.size, 0, none⟩ = some (.string x.name) ∧ w'.cell? ⟨w.heap.size, 1, none⟩ = some (.int .i64 x.at_) ∧ w'.cell? ⟨w.heap.size, 2, none⟩ = some (.string x.data) ∧ w'.cell? ⟨w.heap.size, 3, none⟩ = some (.int .i64 x.size_))
    (first | exact HK.out _ (Below.refl _ _).drew | (go_split_ands; exact HK.out _ (Below.trans (by assumption) (hbl.mono (Below.size (by assumption))))))
    (first | (go_at_call 72; go_split_ands; refine (HDo.out _ (by assumption)).mono ?_; rintro e w1 ⟨a', cap', rfl, hfl, hbl, hor⟩))
  rename_i hH
  obtain ⟨hb01, -⟩ := hH
  have hsz1 : R.length ≤ 1000000 := by omega
  have HSz := Lib.hid fun n => r15size_any a' cap' R (w1.drewN n) hsz1 HRok.out.sizes (hfl.rows.keeps (belowDrew (Below.refl _ _) n))
  have HFl := Lib.hid hfl
  have HD1 := Lib.hid (HD0.out.below hb01)
  have HV1 := Lib.hid (HV0.out.keeps hb01 HV0.out.1)
  have HB01 := Lib.hid hb01
  have HB01s := Lib.hid hb01.size
  have Hor := Lib.hid hor
  obtain ⟨na, nc, fa, fc, k1, _⟩ := HD1.out
  have c3 := k1.2.2 3 _ rfl
  have g3 := HV1.out.2.2 3 _ rfl
  clear hfl hb01 hbl hor HK HDo k1 HW0
  have hsd : (x.cut = true ∧ x.size_ = (x.n : Int)) ∨ (x.cut = false ∧ x.size_ = -1) := by
    unfold ActD.size_
    cases x.cut with
    | true => exact .inl ⟨rfl, rfl⟩
    | false => exact .inr ⟨rfl, rfl⟩
  obtain ⟨full, hfull⟩ : ∃ full, decide (x.cut = false ∧ d.limit < sizeF R) = full := ⟨_, rfl⟩
  have Hfull := Lib.hid hfull
  clear hfull
  go_upto_region 2 with fail
  go_cut [23] from 23 to 23 (fun c wx => c = .bool full ∧ ∃ n, wx = w1.drewN n)
  case first =>
    rcases hsd with ⟨hc, hz⟩ | ⟨hc, hz⟩
    · rw [hz] at g3
      have Hff := Lib.hid (show full = false by rw [← Hfull.out, decide_eq_false]; rw [hc]; exact fun h => Bool.noConfusion h.1)
      have hni : ¬ ((x.n : Int) < 0) := by omega
      have hnd : decide ((x.n : Int) < 0) = false := decide_eq_false hni
      clear hc hz
      go_wp2_with fail
      go_quiet (fail)
      go_wp2_with fail
      go_meet
      case rel => exact ⟨by rw [Hff.out], nq, rfl⟩
    · rw [hz] at g3
      have Hff := Lib.hid (show full = decide ((d.limit : Int) < (sizeF R : Int)) by
        rw [← Hfull.out, Bool.eq_iff_iff, decide_eq_true_iff, decide_eq_true_iff]
        exact ⟨fun h => (by have := h.2; omega), fun h => ⟨hc, by omega⟩⟩)
      clear hc hz
      generalize sizeF R = sz at *
      go_wp2_with fail
      go_quiet ((go_at_call 73; exact Calls.quiet_of_same (HSz.out _)))
      go_wp2_with fail
      go_meet
      case rel => exact ⟨by rw [Hff.out]; exact congrArg Value.bool (by rw [Bool.eq_iff_iff, decide_eq_true_iff, decide_eq_true_iff]; omega), nq, rfl⟩
  case rest =>
    obtain ⟨hcc, n2, hwc⟩ := hcut
    subst hcc
    have hb12 : Below w1.heap.size w1 wc := by rw [hwc]; exact belowDrew (Below.refl _ _) n2
    have HD2 := Lib.hid (HD1.out.below hb12)
    have HV2 := Lib.hid (HV1.out.keeps hb12 HV1.out.1)
    have HFl2 := Lib.hid (HFl.out.keeps hb12)
    have HB02 := Lib.hid (HB01.out.trans (hb12.mono HB01.out.size))
    have hw1s := hb12.size
    obtain ⟨w2, hw2⟩ : ∃ w2 : World, w2 = wc := ⟨_, rfl⟩
    rw [← hw2] at HD2 HV2 HFl2 HB02 hw1s ⊢
    clear hwc hw2 hb12 HSz HD1 HV1 HFl HB01 c3 g3
    cases full with
    | true =>
      have Hc := Lib.hid (of_decide_eq_true Hfull.out)
      go_wp2_with fail
      go_ret
      rw [HR.out, if_pos Hc.out]
      exact ⟨rfl, v, HD2.out, .inl rfl, Turned.of_below (Hal0.out.trans (HB02.out.mono Hal0.out.size)) (Nat.le_refl _)⟩
    | false =>
      have Hc := Lib.hid (HR.out.trans (if_neg (of_decide_eq_false Hfull.out)))
      obtain ⟨na, nc, fa, fc, k1, k2, k3, k4, k5, k6, k7, k8, _⟩ := HD2.out
      obtain ⟨va, vc, rfl, k9, k10⟩ := k4.read
      have e2 := k1.2.2 2 _ rfl
      have z2 := k1.2.1 2
      have g0 := HV2.out.2.2 0 _ rfl
      have g1 := HV2.out.2.2 1 _ rfl
      have g2 := HV2.out.2.2 2 _ rfl
      have g3 := HV2.out.2.2 3 _ rfl
      have hal3 := (Below.refl w2.heap.size w2).alloc (Nat.le_refl _) (.cells #[.string x.name, .int .i64 x.at_, .string x.data, .int .i64 x.size_] 117)
      have HO3 := Lib.hid ((k4.alloc (.cells #[.string x.name, .int .i64 x.at_, .string x.data, .int .i64 x.size_] 117)).drewN 1)
      have HX3 := Lib.hid ((rows_new act15Lay w2 w2.heap.size #[.string x.name, .int .i64 x.at_, .string x.data, .int .i64 x.size_] 117 [x] rfl rfl).keeps ((Below.refl _ _).drew))
      have Hz := Lib.hid (show ∀ w4, ((w2.alloc (.cells #[.string x.name, .int .i64 x.at_, .string x.data, .int .i64 x.size_] 117)).drewN 1).grownBy w4 (Value.slice va d.acts.length vc).ownBlock → w4.frozen? ⟨rb, 2, none⟩ = false ∧ w4.cell? ⟨rb, 2, none⟩ = some (.slice va d.acts.length vc) from fun w4 hg => (fun h : VarAt w4 rb _ => ⟨h.2.1 2, h.2.2 2 _ rfl⟩) <| ((k1.keeps hal3 k1.1).keeps (belowDrew (Below.refl _ _) 1) (by have := k1.1; simp; omega)).grown hg (fun e => k7 e.symm))
      have HQ2 := Lib.hid fun k (hk : w2.heap.size ≤ k) => HQ.out k (by have := Hal0.out.size; have := HB02.out.size; omega)
      have hrb : rb < w2.heap.size := k1.1
      have hbx : w.heap.size < w2.heap.size := HV2.out.1
      have e2b : (w2.alloc (.cells #[.string x.name, .int .i64 x.at_, .string x.data, .int .i64 x.size_] 117)).drew.cell? ⟨rb, 2, none⟩ = some (.slice va d.acts.length vc) := (k1.keeps hal3 k1.1).2.2 2 _ rfl
      have e2c : (w2.drew.alloc (.cells #[.string x.name, .int .i64 x.at_, .string x.data, .int .i64 x.size_] 117)).cell? ⟨rb, 2, none⟩ = some (.slice va d.acts.length vc) := (k1.keeps ((Below.refl _ _).drew.alloc (Nat.le_refl _) _) k1.1).2.2 2 _ rfl
      clear k1 k2 k3 k4 k5 k6 k7 k8 k9 k10 hal3
      go_upto_region 4 with fail
      go_cut [] from 24 to 24 (fun wx => ∃ v', RD wx rb Q v' { d with acts := d.acts ++ [x] } ∧ (v'.ownBlock = (Value.slice va d.acts.length vc).ownBlock ∨ ∀ k, v'.ownBlock = some k → w2.heap.size ≤ k) ∧ Turned (RSD rb (.slice va d.acts.length vc)) w2.heap.size w2 wx)
      case first =>
        have HD3 := Lib.hid HD2.out
        have Hal4 := Lib.hid ((Below.refl w2.heap.size w2).alloc (Nat.le_refl _) (.cells #[.string x.name, .int .i64 x.at_, .string x.data, .int .i64 x.size_] 117)).drew
        go_region_law (refine step_append_list _ (by rfl) _ _ 103 (by rfl) act15Lay 0 117 i0 (.agg #[.string ⟨#[]⟩, .int .i64 0, .string ⟨#[]⟩, .int .i64 0]) 48 Tryz.underlying103 Hi.out Hz0.out Hz1.out Hz2.out rfl (by decide) _ d.acts (by rfl) HO3.out (some ⟨w2.heap.size, 0, none⟩) 1 1 [x] (by rfl) rfl HX3.out (fun e => by cases e) (by unfold maxLen; simp; omega) (by simp; omega) (Nat.zero_le _) ?_; intro v4 w4 hrow4 hg4 hv4; obtain ⟨hz4, hc4⟩ := Hz.out w4 hg4; obtain ⟨av4, cv4, rfl, hx4, hx5⟩ := hrow4.read)
        all_goals
          have hG := RD.grownActs HD3.out Hal4.out HQ2.out hrow4 hg4 (by first | exact hv4 | simpa using hv4)
          rw [show (d.acts ++ [x]).length = d.acts.length + 1 by simp] at hG hv4
          go_wp2_with fail
          go_meet
          case rel => exact ⟨_, hG.1, hv4.imp id (fun h k e => by rw [h] at e; cases e; simp), hG.2⟩
      case rest =>
        obtain ⟨v3, hD3, hv3, hT3⟩ := hcut
        have HAc := Lib.hid (r15act_any wc rb Q v3 _ hD3)
        have Hdo := Lib.hid (show doesD d x = if (diesD { d with acts := d.acts ++ [x] }).dead = true then (diesD { d with acts := d.acts ++ [x] }, 42) else ({ diesD { d with acts := d.acts ++ [x] } with now := R }, 0) by rw [← HRd.out]; rfl)
        have Hv3 := Lib.hid hv3
        have hwT : Turned (RSD rb (.slice va d.acts.length vc)) w.heap.size w wc := (Turned.of_below (Hal0.out.trans (HB02.out.mono Hal0.out.size)) (Nat.le_refl _)).trans (hT3.mono (by have := Hal0.out.size; have := HB02.out.size; omega) fun _ _ h => h)
        have HwT := Lib.hid hwT
        have hs01 := HB01s.out
        have hs12 := hw1s
        have hfar0 : ∀ ad, a' = some ad → ad.block ≠ rb ∧ (Value.slice va d.acts.length vc).ownBlock ≠ some ad.block ∧ Q ad.block ∧ ad.block < w1.heap.size := fun ad e => by
          rcases Hor.out with h | h
          · obtain ⟨q1, q2, q3, q4⟩ := HNa.out ad (h.symm.trans e)
            exact ⟨q1, q2, q3, by omega⟩
          · obtain ⟨q1', q2⟩ := h ad e
            have q1 : W0.heap.size ≤ ad.block := q1'
            have q3 := Hrb0.out
            have q4 := Hal0.out.size
            exact ⟨by omega, fun e2 => (by have := HVo.out _ e2; omega), HQ.out _ (by omega), q2⟩
        have hflc : FlAt wc a' cap' R := HFl2.out.turned hT3 fun ad e hh => by
          obtain ⟨q1, q2, _⟩ := hfar0 ad e
          rcases hh with hh | hh
          · exact q1 hh
          · exact q2 hh
        have hfar : FarB wc rb Q v3 a' := fun ad e => by
          obtain ⟨q1, q2, q3, q4⟩ := hfar0 ad e
          have q5 := hT3.size
          refine ⟨q1, fun e2 => ?_, q3, by omega⟩
          rcases hv3 with h | h
          · exact q2 (h.symm.trans e2)
          · have := h _ e2
            omega
        have HFlc := Lib.hid hflc
        have HFar := Lib.hid hfar
        clear hD3 hv3 hT3 hwT hflc hfar e2 z2 g0 g1 g2 g3 e2b e2c
        generalize diesD { d with acts := d.acts ++ [x] } = D at *
        go_wp2_with fail
        refine HAc.out.mono ?_
        rintro e w5 ⟨rfl, hD5, hT5⟩
        have HD5 := Lib.hid hD5
        have hwT5 := HwT.out.trans (hT5.mono (by have := HwT.out.size; omega) fun _ _ h => .inl h)
        have HwT5 := Lib.hid hwT5
        have HF5 := Lib.hid (HFlc.out.turned hT5 fun ad e => (HFar.out ad e).1)
        have HG5 := Lib.hid (HFar.out.later hT5.size)
        have Hw2s := Lib.hid (show w.heap.size ≤ w2.heap.size by have := Hal0.out.size; have := HB02.out.size; omega)
        obtain ⟨na5, nc5, fa5, fc5, k51, _⟩ := hD5
        have f50 := k51.2.1 0
        have c50 := k51.2.2 0 _ rfl
        clear k51 hT5 hwT5 HAc HwT HFlc HFar hfar0
        cases hdd : D.dead with
        | true =>
          rw [if_pos hdd] at Hdo
          go_wp2_with fail
          go_ret
          rw [Hc.out, Hdo.out]
          exact ⟨rfl, v3, HD5.out, Hv3.out.imp id (fun h k e => Nat.le_trans Hw2s.out (h k e)), HwT5.out⟩
        | false =>
          rw [if_neg (by rw [hdd]; exact Bool.noConfusion)] at Hdo
          go_wp2_with fail
          go_ret
          rw [Hc.out, Hdo.out]
          have hS := HD5.out.setNow HF5.out HG5.out
          exact ⟨rfl, v3, hS.1, Hv3.out.imp id (fun h k e => Nat.le_trans Hw2s.out (h k e)), HwT5.out.trans (hS.2.mono HwT5.out.size fun _ _ h => .inl h)⟩
end Go.Proofs.YtgglheelhbfgiaaGreatDoor

namespace Go.Proofs.YtgglheelhbfgiaaGreatDoor
open Go Go.RowKit Go.Lib
def ROk (w : World) (rb : Nat) (R : Nat → Prop) (d : Dk) : Prop := (∃ v, RD w rb R v d) ∧ ∀ k, R k → k < w.heap.size
def RGo (w : World) (rb : Nat) (R : Nat → Prop) (d : Dk) (w' : World) : Prop := ROk w' rb (GrowS R w w') d ∧ Turned R w.heap.size w w'
theorem ROk.foreign {w w' : World} {rb : Nat} {R S : Nat → Prop} {d : Dk} (h : ROk w rb R d) (ht : Turned S w.heap.size w w') (hS : ∀ k, S k → ¬ R k) : ROk w' rb R d := by
  obtain ⟨⟨v, h⟩, hR⟩ := h
  exact ⟨⟨v, h.foreign ht hS⟩, fun k hk => Nat.lt_of_lt_of_le (hR k hk) ht.size⟩
theorem ROk.below {w w' : World} {rb : Nat} {R : Nat → Prop} {d : Dk} (h : ROk w rb R d) (hb : Below w.heap.size w w') : ROk w' rb R d := h.foreign (S := fun _ => False) (Turned.of_below hb (Nat.le_refl _)) (fun _ h => h.elim)
theorem ROk.mono {w : World} {rb : Nat} {R S : Nat → Prop} {d : Dk} (h : ROk w rb R d) (hS : ∀ k, R k → S k) (hl : ∀ k, S k → k < w.heap.size) : ROk w rb S d := by
  obtain ⟨⟨v, h⟩, hR⟩ := h
  exact ⟨⟨v, h.mono fun k _ hk => hS k hk⟩, hl⟩
theorem ROk.lt {w : World} {rb : Nat} {R : Nat → Prop} {d : Dk} (h : ROk w rb R d) : rb < w.heap.size := by
  obtain ⟨⟨v, h⟩, hR⟩ := h
  exact h.lt.1
theorem grow_lt {R : Nat → Prop} {w w' : World} (hR : ∀ k, R k → k < w.heap.size) (hs : w.heap.size ≤ w'.heap.size) : ∀ k, GrowS R w w' k → k < w'.heap.size := fun k hk => hk.elim (fun h => Nat.lt_of_lt_of_le (hR k h) hs) And.right
theorem ROk.go_below {w w' : World} {rb : Nat} {R : Nat → Prop} {d : Dk} (h : ROk w rb R d) (hb : Below w.heap.size w w') : RGo w rb R d w' :=
  ⟨(h.below hb).mono (fun _ hk => .inl hk) (grow_lt h.2 hb.size), Turned.of_below hb (Nat.le_refl _)⟩
theorem RD.rsd {w : World} {rb : Nat} {R : Nat → Prop} {v : Value} {d : Dk} (h : RD w rb R v d) : ∀ k, RSD rb v k → R k := by
  obtain ⟨na, nc, fa, fc, h1, h2, h3, h4, h5, h6, h7, h8, h9⟩ := h
  exact fun k hk => hk.elim (fun e => e ▸ h8) (h9 k)
theorem RGo.made {w w' : World} {rb : Nat} {R : Nat → Prop} {v v' : Value} {d d' : Dk} (hR : ∀ k, R k → k < w.heap.size) (h : RD w rb R v d) (h1 : RD w' rb (fun k => R k ∨ w.heap.size ≤ k) v' d') (h2 : Turned (RSD rb v) w.heap.size w w') : RGo w rb R d' w' :=
  ⟨⟨⟨v', h1.mono fun _ hk hq => hq.imp id fun h => ⟨h, hk⟩⟩, grow_lt hR h2.size⟩, h2.mono (Nat.le_refl _) fun _ _ hk => h.rsd _ hk⟩
theorem del_none {es : Fls} {p : ByteArray} (h : ∀ y ∈ es, y.1 ≠ p) : delK es p = es := by
  unfold delK
  rw [List.filter_eq_self]
  intro y hy
  rw [Bool.not_eq_true', decide_eq_false_iff_not]
  exact h y hy
theorem sizeF_del : ∀ {es : Fls} {p : ByteArray}, (es.map (·.1)).Nodup → sizeF (delK es p) + (hasD es p).size = sizeF es
  | [], p, _ => rfl
  | x :: r, p, h => by
    obtain ⟨h1, h2⟩ := List.nodup_cons.1 h
    have hs : sizeF (x :: r) = x.2.size + sizeF r := rfl
    by_cases he : x.1 = p
    · have e1 : delK (x :: r) p = r := by
        have e2 : delK (x :: r) p = delK r p := by
          unfold delK
          rw [List.filter_cons, if_neg (by rw [decide_eq_true he]; exact Bool.noConfusion)]
        rw [e2]
        exact del_none fun y hy hyp => h1 (List.mem_map.2 ⟨y, hy, hyp.trans he.symm⟩)
      have e3 : hasD (x :: r) p = x.2 := by
        unfold hasD findK
        rw [List.find?_cons, decide_eq_true he]
        rfl
      rw [e1, e3, hs]
      omega
    · have ih := sizeF_del (p := p) h2
      have e1 : delK (x :: r) p = x :: delK r p := by
        unfold delK
        rw [List.filter_cons, if_pos (by rw [decide_eq_false he]; rfl)]
      have e3 : hasD (x :: r) p = hasD r p := by
        unfold hasD findK
        rw [List.find?_cons, decide_eq_false he]
      have hs2 : sizeF (x :: delK r p) = x.2.size + sizeF (delK r p) := rfl
      rw [e1, e3, hs, hs2]
      omega
theorem sizeF_put {es : Fls} {p s : ByteArray} (h : (es.map (·.1)).Nodup) : sizeF (putK es p s) + (hasD es p).size = sizeF es + s.size := by
  have h1 := sizeF_del (p := p) h
  have h2 : sizeF (putK es p s) = s.size + sizeF (delK es p) := by
    unfold putK sizeF
    rw [((insK_perm (p, s) (delK es p)).map _).sum_nat]
    rfl
  omega
theorem wrong_not {d : Dk} {name : ByteArray} {n : Int} (h : wrongD d name n = 0) : d.dead = false ∧ name.size ≠ 0 ∧ name.size ≤ 24 ∧ 0 ≤ n ∧ n ≤ (d.limit : Int) := by
  unfold wrongD at h
  split at h
  · cases h
  · rename_i h1
    split at h
    · cases h
    · rename_i h2
      refine ⟨by simpa using h1, fun e => h2 (.inl e), Nat.le_of_not_lt fun e => h2 (.inr (.inl e)), Int.not_lt.1 fun e => h2 (.inr (.inr (.inl e))), Int.not_lt.1 fun e => h2 (.inr (.inr (.inr e)))⟩
theorem write_ref {d : Dk} {name : ByteArray} {n : Int} (hok : DkOK d) (h : wrongD d name n = 0) (data : ByteArray) : writeD d name n data = rdoesD d ⟨false, name, n.toNat, data⟩ := by
  obtain ⟨_, _, _, h4, _⟩ := wrong_not h
  have e0 : doD d.now ⟨false, name, n.toNat, data⟩ false = putK d.now name (laidB (hasD d.now name) n.toNat data) := doD_write rfl
  have e1 := sizeF_put (p := name) (s := laidB (hasD d.now name) n.toNat data) hok.now.nodup
  have e2 := laid_size (hasD d.now name) n.toNat data
  unfold writeD rdoesD
  rw [if_neg (by rw [h]; exact fun e => e rfl), e0]
  by_cases hc : (d.limit : Int) - max ((hasD d.now name).size : Int) (n + data.size) < (sizeF d.now : Int) - (hasD d.now name).size
  · rw [if_pos hc, if_pos ⟨rfl, by omega⟩]
  · rw [if_neg hc, if_neg fun e => hc (by have := e.2; omega)]
theorem wrong_act {d : Dk} {name : ByteArray} {n : Int} (hok : DkOK d) (h : wrongD d name n = 0) (cut : Bool) (data : ByteArray) (hd : data.size ≤ 8000) : ActOK ⟨cut, name, n.toNat, data⟩ := by
  obtain ⟨_, h2, h3, h4, h5⟩ := wrong_not h
  have := hok.limit
  refine ⟨?_, hd, h3, h2⟩
  show n.toNat ≤ 4194304
  omega
set_option maxRecDepth 100000 in
theorem rwrite_any {w : World} {rb : Nat} {R : Nat → Prop} {d : Dk} (h : ROk w rb R d) (hok : DkOK d) (name : ByteArray) (n : Int) (data : ByteArray) (hl : d.now.length ≤ 100000) (hal : d.acts.length ≤ 100000000) (hdz : data.size ≤ 8000) :
    Calls Tryz.prog 22 #[.pointer (some ⟨rb, 0, none⟩), .string name, .int .i64 n, .string data] w fun e w' => e = .returned (.int .i64 (writeD d name n data).2) ∧ RGo w rb R (writeD d name n data).1 w' := by
  obtain ⟨⟨v, hv⟩, hR⟩ := h
  have HW := Lib.hid (r15wrong_any w rb R v d name n hv)
  by_cases hw0 : wrongD d name n = 0
  · have h4 := (wrong_not hw0).2.2.2.1
    have hx := wrong_act hok hw0 false data hdz
    have hdo := r15does_any w rb (fun k => R k ∨ w.heap.size ≤ k) v d ⟨false, name, n.toNat, data⟩ (hv.mono fun k _ h => .inl h) (fun k h => .inr h) hok.now (by omega) hal hx
    have e1 : (ActD.mk false name n.toNat data).at_ = n := by
      show ((n.toNat : Nat) : Int) = n
      omega
    have e2 : (ActD.mk false name n.toNat data).size_ = -1 := rfl
    rw [e1, e2, ← write_ref hok hw0 data] at hdo
    have HDo := Lib.hid hdo
    have HV := Lib.hid hv
    have HR := Lib.hid hR
    rw [hw0] at HW
    clear hdo hx h4 e1 e2 hw0 hok hv hR
    generalize writeD d name n data = r at *
    go_enter Tryz.func22, Tryz.ntmps22
    go_wp2_with fail
    refine HW.out.mono ?_
    rintro e w1 ⟨rfl, hw1⟩
    rw [hw1]
    clear hw1
    go_wp2_with fail
    refine HDo.out.mono ?_
    rintro e w2 ⟨rfl, v', h1, -, h3⟩
    go_wp2_with fail
    go_ret
    exact ⟨rfl, RGo.made HR.out HV.out h1 h3⟩
  · have hP : writeD d name n data = (d, wrongD d name n) := if_pos hw0
    have HG := Lib.hid (ROk.go_below (w' := w) ⟨⟨v, hv⟩, hR⟩ (Below.refl _ w))
    rw [hP]
    clear hP hv hR
    generalize wrongD d name n = q at *
    go_enter Tryz.func22, Tryz.ntmps22
    go_wp2_with fail
    refine HW.out.mono ?_
    rintro e w1 ⟨rfl, hw1⟩
    rw [hw1]
    clear hw1
    go_wp2_with fail
    go_ret
    exact ⟨rfl, HG.out⟩
set_option maxRecDepth 100000 in
theorem rcut_any {w : World} {rb : Nat} {R : Nat → Prop} {d : Dk} (h : ROk w rb R d) (hok : DkOK d) (name : ByteArray) (n : Int) (hl : d.now.length ≤ 100000) (hal : d.acts.length ≤ 100000000) :
    Calls Tryz.prog 62 #[.pointer (some ⟨rb, 0, none⟩), .string name, .int .i64 n] w fun e w' => e = .returned (.int .i64 (cutD d name n).2) ∧ RGo w rb R (cutD d name n).1 w' := by
  obtain ⟨⟨v, hv⟩, hR⟩ := h
  have HW := Lib.hid (r15wrong_any w rb R v d name n hv)
  by_cases hw0 : wrongD d name n = 0
  · have h4 := (wrong_not hw0).2.2.2.1
    have hx := wrong_act hok hw0 true noB (by decide)
    have hcd : cutD d name n = if (findK d.now name).isNone then (d, 25) else doesD d ⟨true, name, n.toNat, noB⟩ := if_neg (by rw [hw0]; exact fun e => e rfl)
    have e1 : (ActD.mk true name n.toNat noB).at_ = 0 := rfl
    have e2 : (ActD.mk true name n.toNat noB).size_ = n := by
      show ((n.toNat : Nat) : Int) = n
      omega
    have e3 : rdoesD d ⟨true, name, n.toNat, noB⟩ = doesD d ⟨true, name, n.toNat, noB⟩ := if_neg fun e => Bool.noConfusion e.1
    have HDo := Lib.hid fun k => r15does_any (w.drewN k) rb (fun k => R k ∨ w.heap.size ≤ k) v d ⟨true, name, n.toNat, noB⟩ ((hv.mono fun k _ h => .inl h).below (belowDrew (Below.refl _ _) k)) (fun j h => .inr h) hok.now (by omega) hal hx
    simp only [e1, e2, e3] at HDo
    have HDr := Lib.hid fun k => ROk.go_below (rb := rb) (R := R) (d := d) ⟨⟨v, hv⟩, hR⟩ (belowDrew (Below.refl _ w) k)
    have HV := Lib.hid hv
    have HR := Lib.hid hR
    obtain ⟨na, nc, fa, fc, k1, k2, _⟩ := hv
    have HAt := Lib.hid (r15at_any na nc d.now name w (by omega) k2.rows)
    have c0 := k1.2.2 0 _ rfl
    rw [hw0] at HW
    have hfind := is15 (p := name) hok.now.rise
    rw [hcd]
    clear hx h4 e1 e2 e3 hw0 hok hR k1 k2 hcd
    generalize doesD d ⟨true, name, n.toNat, noB⟩ = r at *
    generalize atN d.now name = k at *
    rcases hfind with ⟨i1, i2⟩ | ⟨s, i1, i2, _⟩
    · rw [i1] at HAt
      rw [i2]
      clear i1 i2
      go_enter Tryz.func62, Tryz.ntmps62
      go_wp2_with fail
      refine HW.out.mono ?_
      rintro e w1 ⟨rfl, hw1⟩
      rw [hw1]
      clear hw1
      go_wp2_with fail
      refine HAt.out.mono ?_
      rintro e w2 ⟨rfl, m, hw2⟩
      rw [hw2]
      clear hw2
      go_wp2_with fail
      go_ret
      exact ⟨rfl, HDr.out m⟩
    · rw [i1] at HAt
      rw [i2]
      clear i1 i2
      go_enter Tryz.func62, Tryz.ntmps62
      go_wp2_with fail
      refine HW.out.mono ?_
      rintro e w1 ⟨rfl, hw1⟩
      rw [hw1]
      clear hw1
      go_wp2_with fail
      refine HAt.out.mono ?_
      rintro e w2 ⟨rfl, m, hw2⟩
      rw [hw2]
      clear hw2
      go_wp2_with fail
      refine (HDo.out m).mono ?_
      rintro e w3 ⟨rfl, v', h1, -, h3⟩
      go_wp2_with fail
      go_ret
      exact ⟨rfl, RGo.made HR.out HV.out h1 ((Turned.of_below (belowDrew (Below.refl _ w) m) (Nat.le_refl _)).trans h3)⟩
  · have hP : cutD d name n = (d, wrongD d name n) := if_pos hw0
    have HG := Lib.hid (ROk.go_below (w' := w) ⟨⟨v, hv⟩, hR⟩ (Below.refl _ w))
    rw [hP]
    clear hP hv hR
    generalize wrongD d name n = q at *
    go_enter Tryz.func62, Tryz.ntmps62
    go_wp2_with fail
    refine HW.out.mono ?_
    rintro e w1 ⟨rfl, hw1⟩
    rw [hw1]
    clear hw1
    go_wp2_with fail
    go_ret
    exact ⟨rfl, HG.out⟩
theorem RD.synced {w : World} {rb : Nat} {Q : Nat → Prop} {v : Value} {d : Dk} {a : Option Addr} {cap : Nat} (h : RD w rb Q v d) (h1 : FlAt w a cap d.now) (h2 : FarB w rb Q v a) :
    RD ((w.setCell ⟨rb, 1, none⟩ (.slice a d.now.length cap)).setCell ⟨rb, 2, none⟩ (.slice none 0 0)) rb Q (.slice none 0 0) { d with firm := d.now, acts := [] } ∧ Turned (fun k => k = rb) w.heap.size w ((w.setCell ⟨rb, 1, none⟩ (.slice a d.now.length cap)).setCell ⟨rb, 2, none⟩ (.slice none 0 0)) := by
  obtain ⟨na, nc, fa, fc, k1, k2, k3, k4, k5, k6, k7, k8, k9⟩ := h
  have hT := ((Turned.refl (fun j => j = rb) w.heap.size w).set (b := rb) 1 (.slice a d.now.length cap) (fun _ => rfl)).set (b := rb) 2 (.slice none 0 0) (fun _ => rfl)
  have hV := (k1.set 1 (.slice a d.now.length cap) (by simp)).set 2 (.slice none 0 0) (by simp)
  have hno : ∀ {b : Option Addr}, FarB w rb Q v b → FarB ((w.setCell ⟨rb, 1, none⟩ (.slice a d.now.length cap)).setCell ⟨rb, 2, none⟩ (.slice none 0 0)) rb Q (.slice none 0 0) b := fun {b} hf ad e =>
    ⟨(hf ad e).1, fun e2 => (by cases e2), (hf ad e).2.2.1, Nat.lt_of_lt_of_le (hf ad e).2.2.2 hT.size⟩
  exact ⟨⟨na, nc, a, cap, by simpa using hV, k2.turned hT fun ad e => (k5 ad e).1, h1.turned hT fun ad e => (h2 ad e).1, OwnRows.nil _ _ _ _, hno k5, hno h2, fun e => (by cases e), k8, fun k e => (by cases e)⟩, hT⟩
set_option maxRecDepth 100000 in
theorem rsync_any {w : World} {rb : Nat} {R : Nat → Prop} {d : Dk} (h : ROk w rb R d) :
    Calls Tryz.prog 63 #[.pointer (some ⟨rb, 0, none⟩)] w fun e w' => e = .returned (.int .i64 (syncD d).2) ∧ RGo w rb R (syncD d).1 w' := by
  obtain ⟨⟨v, hv⟩, hR⟩ := h
  have HG := Lib.hid (ROk.go_below (w' := w) ⟨⟨v, hv⟩, hR⟩ (Below.refl _ w))
  have HA := Lib.hid (r15act_any w rb R v d hv)
  have HV := Lib.hid hv
  have HR := Lib.hid hR
  obtain ⟨na, nc, fa, fc, k1, k2, k3, k4, k5, _⟩ := hv
  have c5 := k1.2.2 5 _ rfl
  clear hR k1 k2 k3 k4 k5
  have hS : syncD d = if d.dead = true then (d, 42) else if (diesD d).dead = true then (diesD d, 42) else ({ diesD d with firm := d.now, acts := [] }, 0) := rfl
  cases hd : d.dead with
  | true =>
    rw [hd] at c5
    rw [hS, if_pos hd]
    clear hS hd
    go_enter Tryz.func63, Tryz.ntmps63
    go_wp2_with fail
    go_ret
    exact ⟨rfl, HG.out⟩
  | false =>
    rw [hd] at c5
    have Hs := Lib.hid (hS.trans (if_neg (by rw [hd]; exact Bool.noConfusion)))
    have hnow : (diesD d).now = d.now := by unfold diesD; split <;> rfl
    have Hnow := Lib.hid hnow
    clear hS hd hnow
    generalize syncD d = r at *
    go_enter Tryz.func63, Tryz.ntmps63
    go_wp2_with fail
    refine HA.out.mono ?_
    rintro e w1 ⟨rfl, hD1, hT1⟩
    have HD1 := Lib.hid hD1
    have HT1 := Lib.hid hT1
    generalize hD : diesD d = D at *
    clear HA HG hT1 hD
    cases hdd : D.dead with
    | true =>
      go_wp2_with fail
      go_ret
      rw [Hs.out, if_pos hdd]
      exact ⟨rfl, RGo.made HR.out HV.out (HD1.out.mono fun k _ h => .inl h) (HT1.out.mono (Nat.le_refl _) fun _ _ h => .inl h)⟩
    | false =>
      obtain ⟨na, nc, fa, fc, k1, k2, k3, k4, k5, _⟩ := hD1
      have c0 := k1.2.2 0 _ rfl
      have f1 := k1.2.1 1
      have f2 := k1.2.1 2
      have c1 := k1.2.2 1 _ rfl
      have c2 := k1.2.2 2 _ rfl
      have HS := Lib.hid (HD1.out.synced k2 k5)
      clear k1 k2 k3 k4 k5
      go_wp2_with fail
      go_ret
      rw [Hs.out, if_neg (by rw [hdd]; exact Bool.noConfusion), ← Hnow.out]
      exact ⟨rfl, RGo.made HR.out HV.out (HS.out.1.mono fun k _ h => .inl h) ((HT1.out.mono (S' := RSD rb v) (Nat.le_refl _) fun _ _ h => .inl h).trans (HS.out.2.mono HT1.out.size fun _ _ h => .inl h))⟩
set_option maxRecDepth 100000 in
theorem rread_any {w : World} {rb : Nat} {R : Nat → Prop} {d : Dk} (h : ROk w rb R d) (hok : DkOK d) (name : ByteArray) (hl : d.now.length ≤ 100000) :
    Calls Tryz.prog 33 #[.pointer (some ⟨rb, 0, none⟩), .string name] w fun e w' => e = .returned (.tuple #[.string (readD d name).1, .int .i64 (readD d name).2]) ∧ Below w.heap.size w w' := by
  obtain ⟨⟨v, hv⟩, hR⟩ := h
  have HW := Lib.hid (r15wrong_any w rb R v d name 0 hv)
  by_cases hw0 : wrongD d name 0 = 0
  · have hcd : readD d name = match findK d.now name with | none => (noB, 25) | some s => (s, 0) := if_neg (by rw [hw0]; exact fun e => e rfl)
    have HV := Lib.hid hv
    obtain ⟨na, nc, fa, fc, k1, k2, _⟩ := hv
    have HAt := Lib.hid (r15at_any na nc d.now name w (by omega) k2.rows)
    have c0 := k1.2.2 0 _ rfl
    rw [hw0] at HW
    have hfind := is15 (p := name) hok.now.rise
    have hb0 := fun m => belowDrew (Below.refl w.heap.size w) m
    have Hb0 := Lib.hid hb0
    clear hw0 hok hR hb0
    rcases hfind with ⟨i1, i2⟩ | ⟨s, i1, i2, i3⟩
    · rw [i2] at hcd
      have hcd2 : readD d name = (noB, 25) := hcd
      rw [i1] at HAt
      rw [hcd2]
      clear i1 i2 hcd hcd2 k1 k2
      generalize atN d.now name = k at *
      go_enter Tryz.func33, Tryz.ntmps33
      go_wp2_with fail
      refine HW.out.mono ?_
      rintro e w1 ⟨rfl, hw1⟩
      rw [hw1]
      clear hw1
      go_wp2_with fail
      refine HAt.out.mono ?_
      rintro e w2 ⟨rfl, m, hw2⟩
      rw [hw2]
      clear hw2
      go_wp2_with fail
      go_ret2
      exact ⟨rfl, Hb0.out m⟩
    · rw [i2] at hcd
      have hcd2 : readD d name = (s, 0) := hcd
      rw [i1] at HAt
      rw [hcd2]
      obtain ⟨b, off, hae, hbl, _, c1⟩ := fl_at k2.rows i3
      have hkl := (List.getElem?_eq_some_iff.1 i3).1
      subst hae
      clear i1 i2 i3 hcd hcd2 k1 k2
      generalize atN d.now name = k at *
      have hki : (k : Int) < (d.now.length : Int) := by omega
      go_enter Tryz.func33, Tryz.ntmps33
      go_wp2_with fail
      refine HW.out.mono ?_
      rintro e w1 ⟨rfl, hw1⟩
      rw [hw1]
      clear hw1
      go_wp2_with fail
      refine HAt.out.mono ?_
      rintro e w2 ⟨rfl, m, hw2⟩
      rw [hw2]
      clear hw2
      go_wp2_with fail
      go_ret2
      exact ⟨rfl, Hb0.out m⟩
  · have hP : readD d name = (noB, wrongD d name 0) := if_pos hw0
    rw [hP]
    clear hP hv hR
    generalize wrongD d name 0 = q at *
    go_enter Tryz.func33, Tryz.ntmps33
    go_wp2_with fail
    refine HW.out.mono ?_
    rintro e w1 ⟨rfl, hw1⟩
    rw [hw1]
    clear hw1
    go_wp2_with fail
    go_ret2
    exact ⟨rfl, Below.refl _ _⟩
set_option maxRecDepth 100000 in
theorem rsize_any {w : World} {rb : Nat} {R : Nat → Prop} {d : Dk} (h : ROk w rb R d) (hok : DkOK d) (hl : d.now.length ≤ 100000) :
    Calls Tryz.prog 30 #[.pointer (some ⟨rb, 0, none⟩)] w fun e w' => e = .returned (.int .i64 (sizeF d.now)) ∧ w' = w := by
  obtain ⟨⟨v, na, nc, fa, fc, k1, k2, _⟩, hR⟩ := h
  have HS := Lib.hid (r15size_any na nc d.now w (by omega) hok.now.sizes k2.rows)
  have c0 := k1.2.2 0 _ rfl
  clear k1 k2
  generalize sizeF d.now = z at *
  go_enter Tryz.func30, Tryz.ntmps30
  go_wp2_with fail
  refine HS.out.mono ?_
  rintro e w1 ⟨rfl, hw1⟩
  rw [hw1]
  clear hw1
  go_wp2_with fail
  go_ret
  exact ⟨rfl, rfl⟩
theorem RD.armed {w : World} {rb : Nat} {Q : Nat → Prop} {v : Value} {d : Dk} (h : RD w rb Q v d) (m : Int) : RD (w.setCell ⟨rb, 4, none⟩ (.int .i64 m)) rb Q v { d with armed := m } ∧ Turned (fun k => k = rb) w.heap.size w (w.setCell ⟨rb, 4, none⟩ (.int .i64 m)) := by
  obtain ⟨na, nc, fa, fc, h1, h2, h3, h4, h5, h6, h7, h8, h9⟩ := h
  have hT := (Turned.refl (fun j => j = rb) w.heap.size w).set (b := rb) 4 (.int .i64 m) (fun _ => rfl)
  have hV := h1.set 4 (.int .i64 m) (by simp)
  exact ⟨⟨na, nc, fa, fc, by simpa using hV, h2.turned hT fun ad e => (h5 ad e).1, h3.turned hT fun ad e => (h6 ad e).1, h4.turnedOther hT fun k hk hh => h7 (by rw [hk, hh]), h5.later hT.size, h6.later hT.size, h7, h8, h9⟩, hT⟩
set_option maxRecDepth 100000 in
theorem rarm_any {w : World} {rb : Nat} {R : Nat → Prop} {d : Dk} (h : ROk w rb R d) (n : Int) :
    Calls Tryz.prog 20 #[.pointer (some ⟨rb, 0, none⟩), .int .i64 n] w fun e w' => e = .returned (.tuple #[]) ∧ RGo w rb R (armD d n) w' := by
  obtain ⟨⟨v, hv⟩, hR⟩ := h
  have HV := Lib.hid hv
  have HR := Lib.hid hR
  have HS := Lib.hid (hv.armed (max n 0))
  obtain ⟨na, nc, fa, fc, k1, _⟩ := hv
  have f4 := k1.2.1 4
  have c4 := k1.2.2 4 _ rfl
  clear hR k1
  go_enter Tryz.func20, Tryz.ntmps20
  go_wp2_with fail
  go_end0
  exact ⟨rfl, RGo.made HR.out HV.out (HS.out.1.mono fun k _ h => .inl h) (HS.out.2.mono (Nat.le_refl _) fun _ _ h => .inl h)⟩
set_option maxRecDepth 100000 in
theorem rdead_any {w : World} {rb : Nat} {R : Nat → Prop} {d : Dk} (h : ROk w rb R d) :
    Calls Tryz.prog 27 #[.pointer (some ⟨rb, 0, none⟩)] w fun e w' => e = .returned (.bool d.dead) ∧ w' = w := by
  obtain ⟨⟨v, na, nc, fa, fc, k1, _⟩, hR⟩ := h
  have c5 := k1.2.2 5 _ rfl
  clear k1
  go_enter Tryz.func27, Tryz.ntmps27
  go_wp2_with fail
  go_ret
  exact ⟨rfl, rfl⟩
end Go.Proofs.YtgglheelhbfgiaaGreatDoor

