/-
  The reference's Remove.
-/
import Derived.Test.YtgjgeojhhglidaaDoorFsR4
namespace Go.Proofs.YtgjgeojhhglidaaDoor
open Go Go.RowKit Go.Lib

set_option maxRecDepth 100000 in
set_option maxHeartbeats 1600000 in
/-- **Remove.** -/
theorem rremove_any (rb base : Nat) (v : Value) (f : Fs) (p : ByteArray) (w : World) (h : RAt w rb base v f) (hok : FsOK f) (hp : p.size ≤ 100000) (hbase : base ≤ w.heap.size) :
    Calls Tryd.prog 20 #[.pointer (some ⟨rb, 0, none⟩), .string p] w fun e w' => e = .returned (.int .i64 (removeF f p).2) ∧ ∃ v', RAt w' rb base v' (removeF f p).1 ∧ (v' = v ∨ ∀ k, v'.ownBlock = some k → w.heap.size ≤ k) ∧ Turned (RS rb v) w.heap.size w w' := by
  obtain ⟨av, cv, hve, hrow, hcv, hlow, hown⟩ := own_lowR h.rows
  have hfew := hok.few
  have Hok := Lib.hid hok
  have HA := Lib.hid fun W (hb : Below w.heap.size w W) => rat_any rb av cv f.n f.es p W (by have := (h.below hb).var; rw [hve] at this; exact this) (hrow.keeps hb) Hok.out.rise (by omega)
  obtain ⟨i0, hi, hz0, hz1, hz2⟩ := info_parts fentInfo
  have Hi := Lib.hid hi
  have Hz0 := Lib.hid hz0
  have Hz1 := Lib.hid hz1
  have Hz2 := Lib.hid hz2
  clear hi hz0 hz1 hz2
  cases hf : findE f.es p with
  | none =>
    have hM := remove_no hf
    rw [hf] at HA
    clear hf
    go_enter Tryd.func20, Tryd.ntmps20
    go_wp2_with fail
    refine (HA.out _ (Below.refl _ _)).mono ?_
    rintro e w2 ⟨k, rfl, hkf, n2, rfl⟩
    have hb2 := belowDrew (Below.refl w.heap.size w) n2
    generalize w.drewN n2 = w3 at *
    go_wp2_with fail
    go_ret
    rw [hM]
    exact ⟨rfl, _, h.below hb2, .inl rfl, Turned.of_below hb2 (Nat.le_refl _)⟩
  | some x0 =>
    have hM := remove_yes hf
    rw [hf] at HA
    clear hf
    go_enter Tryd.func20, Tryd.ntmps20
    go_wp2_with fail
    refine (HA.out _ (Below.refl _ _)).mono ?_
    rintro e w2 ⟨k, rfl, hkf, n2, rfl⟩
    have hb2 := belowDrew (Below.refl w.heap.size w) n2
    generalize w.drewN n2 = w3 at *
    clear hkf
    have HR := Lib.hid (hrow.keeps hb2)
    have hvar3 := (h.below hb2).var
    have hrbw : rb < w3.heap.size := hvar3.1
    have hrb0 := h.var.1
    rw [hve] at hvar3
    have HIn := Lib.hid fun q W => rin_any q p W hp
    have HV := Lib.hid hvar3
    clear hvar3
    go_wp2_with fail
    go_loopw [7, 8] (fun v i wr => ∃ k : Nat, k ≤ f.es.length ∧ i = .int .i64 k ∧ OwnRows entLay wr w3.heap.size 38 v ((f.es.take k).filter fun y => !inE p y.path) ∧ Below w3.heap.size w3 wr) (fun _ i _ => f.es.length - (RowKit.intOf i).toNat)
    case atStart => exact ⟨0, Nat.zero_le _, rfl, OwnRows.nil _ _ _ _, Below.refl _ _⟩
    case round =>
      obtain ⟨k, hk, rfl, ho, hb⟩ := hrel
      have q0 := (HV.out.keeps hb hrbw).2.2 0 _ rfl
      by_cases hlt : k < f.es.length
      · obtain ⟨x, hx⟩ := at_some hlt
        obtain ⟨b, off, hae, hbl, d0, d1, d2, d3⟩ := ent_at (HR.out.keeps hb) hx
        rw [hae] at q0
        have hlti : (k : Int) < (f.es.length : Int) := by omega
        have Hx := Lib.hid hx
        have Hae := Lib.hid hae
        obtain ⟨xp, xi, xd, xs⟩ := x
        dsimp only at d0 d1 d2 d3
        clear hx hae
        go_upto_region 8 with fail
        go_cut [48] from 17 to 58 (fun c wx => c = .bool (!inE p xp) ∧ wx = wr)
        case first =>
          by_cases h0 : xp = p
          · have e1 := str_eq h0
            have hin : inE p xp = true := inE_iff.2 (.inl h0)
            clear h0
            go_wp2_with fail
            go_meet
            exact ⟨by rw [hin]; rfl, rfl⟩
          · have e1 := str_ne h0
            have hin : inE p xp = underB xp p := by
              unfold inE
              rw [decide_eq_false h0, Bool.false_or]
            clear h0
            go_wp2_with fail
            refine (HIn.out _ _).mono ?_
            rintro e w5 ⟨rfl, rfl⟩
            go_wp2_with fail
            go_meet
            exact ⟨by rw [hin], rfl⟩
        case rest =>
          obtain ⟨hc, hwc⟩ := hcut
          rw [← hwc] at d0 d1 d2 d3 ho hb q0 hbl
          clear hwc wr
          cases hin : inE p xp with
          | true =>
            have Hst := Lib.hid (show (f.es.take (k + 1)).filter (fun y => !inE p y.path) = (f.es.take k).filter (fun y => !inE p y.path) by
              rw [take_snoc Hx.out, List.filter_append, List.filter_cons_of_neg (by rw [hin]; exact Bool.noConfusion), List.filter_nil, List.append_nil])
            replace hc := hc.trans (show _ = Value.bool false by rw [hin]; rfl)
            subst hc
            clear hin
            go_wp2_with fail
            go_roundw
            case rel => exact ⟨k + 1, by omega, by go_num, by rw [Hst.out]; exact ho, hb⟩
            case measure => simp [RowKit.intOf]; omega
          | false =>
            have Hst := Lib.hid (show (f.es.take (k + 1)).filter (fun y => !inE p y.path) = (f.es.take k).filter (fun y => !inE p y.path) ++ [⟨xp, xi, xd, xs⟩] by
              rw [take_snoc Hx.out, List.filter_append, List.filter_cons_of_pos (by rw [hin]; rfl), List.filter_nil])
            have hlen : ((f.es.take k).filter (fun y => !inE p y.path)).length ≤ 300 := Nat.le_trans (List.length_filter_le _ _) (by rw [List.length_take]; omega)
            replace hc := hc.trans (show _ = Value.bool true by rw [hin]; rfl)
            subst hc
            clear hin
            generalize (f.es.take k).filter (fun y => !inE p y.path) = acc at *
            go_wp2_with (at_builtin; refine wpList_append_rows _ rfl _ _ 26 rfl entLay w3.heap.size 38 i0 (.agg #[.string ⟨#[]⟩, .int .i64 0, .bool false, .string ⟨#[]⟩]) 48 Tryd.underlying26 Hi.out Hz0.out Hz1.out Hz2.out rfl (by decide) _ acc rfl (ho.alloc _) ⟨wc.heap.size, 0, none⟩ 1 ⟨xp, xi, xd, xs⟩ rfl (cells_new_at wc wc.heap.size #[.string xp, .int .i64 xi, .bool xd, .string xs] 38 rfl) (by unfold maxLen; omega) (by omega) (by have := hb.size; simp; omega) ?_)
            intro va1 w5 ho5 hg1 _
            have hb5 := (hb.alloc hb.size (.cells #[.string xp, .int .i64 xi, .bool xd, .string xs] 38)).grown hg1 (by have := hb.size; simp; omega) (fun j ej => (ho.lt ej).1)
            clear hg1 ho
            go_wp2_with fail
            go_roundw
            case rel => exact ⟨k + 1, by omega, by go_num, by rw [Hst.out]; exact ho5, hb5⟩
            case measure => simp [RowKit.intOf]; omega
      · obtain rfl : k = f.es.length := by omega
        rw [List.take_length] at ho
        obtain ⟨av2, cv2, rfl, hrow2, hcv2⟩ := ho.read
        have hVr := HV.out.keeps hb hrbw
        have qf := hVr.2.1 0
        have hz3 := hb2.size
        have hbz := hb2.trans (hb.mono hb2.size)
        have hzr := hb.size
        go_wp2_with fail
        go_ret
        rw [hM]
        refine ⟨rfl, _, ⟨hVr.set 0 _ (by simp), (ho.turned (S := fun k => k = rb) ((Turned.refl _ _ _).set 0 _ (fun _ => rfl)) (fun k hk => by rw [hk]; omega)).lower (by omega), fun e => ?_⟩, .inr fun k hk => ?_, (Turned.of_below hbz (Nat.le_refl _)).set 0 _ (fun _ => .inl rfl)⟩
        · have := (ho.lt e).1
          omega
        · have := (ho.lt hk).1
          omega
end Go.Proofs.YtgjgeojhhglidaaDoor
