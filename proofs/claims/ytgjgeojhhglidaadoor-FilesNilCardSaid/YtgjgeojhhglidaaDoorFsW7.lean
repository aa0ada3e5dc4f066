/-
  List, walked.
-/
import Derived.Test.YtgjgeojhhglidaaDoorFsW6
namespace Go.Proofs.YtgjgeojhhglidaaDoor
open Go Go.RowKit Go.Lib

theorem fentInfo : (Tryd.prog.info? 38).map (fun i => (i.zero, i.size, i.bytes)) = some (some (.agg #[.string ⟨#[]⟩, .int .i64 0, .bool false, .string ⟨#[]⟩]), 4, 48) := by kernel_rfl
set_option maxRecDepth 100000 in
set_option maxHeartbeats 3200000 in
/-- **List.** -/
theorem flist_any (fb mb : Nat) (f : Fs) (w : World) (h : FAt w fb mb f) (hr : Rising f.es) (hl : f.es.length ≤ 300) (hpz : ∀ x ∈ f.es, x.path.size ≤ 400) :
    Calls Tryd.prog 24 #[.pointer (some ⟨fb, 0, none⟩)] w fun e w' => ∃ v, e = .returned v ∧ OwnRows entLay w' w.heap.size 38 v f.es ∧ Below w.heap.size w w' := by
  obtain ⟨i0, hi, hz0, hz1, hz2⟩ := info_parts fentInfo
  have Hi := Lib.hid hi
  have Hz0 := Lib.hid hz0
  have Hz1 := Lib.hid hz1
  have Hz2 := Lib.hid hz2
  clear hi hz0 hz1 hz2
  have HK := Lib.hid (keys_any mb w)
  have HS := Lib.hid (sorted_any mb f.es w h.2 hr hl)
  have Hr := Lib.hid hr
  have Hpz := Lib.hid hpz
  have k1 := h.1.2.2 1 _ rfl
  go_enter Tryd.func24, Tryd.ntmps24
  go_wp2_with fail
  refine HK.out.mono ?_
  rintro e w1 ⟨rfl, rfl⟩
  go_wp2_with fail
  refine HS.out.mono ?_
  rintro e w2 ⟨v, rfl, hov, hb2⟩
  obtain ⟨av, cv, rfl, hrow, hcv⟩ := hov.read
  have HR := Lib.hid hrow
  have hF2 := h.below hb2
  clear hov hrow HK HS k1
  have hml : (f.es.map (·.path)).length = f.es.length := List.length_map _
  rw [hml]
  clear hml
  go_wp2_with fail
  go_loopw [3, 5, 15] (fun o _ i wr => ∃ k : Nat, k ≤ f.es.length ∧ i = .int .i64 k ∧ OwnRows entLay wr w2.heap.size 38 o (f.es.take k) ∧ Below w2.heap.size w2 wr) (fun _ _ i _ => f.es.length - (RowKit.intOf i).toNat)
  case atStart => exact ⟨0, Nat.zero_le _, rfl, OwnRows.nil _ _ _ _, Below.refl _ _⟩
  case round =>
    obtain ⟨k, hk, rfl, ho, hb⟩ := hrel
    by_cases hlt : k < f.es.length
    · obtain ⟨x, hx⟩ := at_some hlt
      have hxm := List.mem_of_getElem? hx
      have hxp : (f.es.map (·.path))[k]? = some x.path := by rw [List.getElem?_map, hx]; rfl
      obtain ⟨b, off, rfl, hbl, c0⟩ := str_at (HR.out.keeps hb) hxp
      have hF3 := hF2.below hb
      have k1 := hF3.1.2.2 1 _ rfl
      have hps := Hpz.out x hxm
      have hlk := hF3.2.look1 (p := x.path) (by unfold maxLen; omega)
      rw [find_of Hr.out hxm] at hlk
      have Hst := Lib.hid (show f.es.take (k + 1) = f.es.take k ++ [x] by rw [List.take_add_one, hx]; rfl)
      have hlen : (f.es.take k).length ≤ 300 := by rw [List.length_take]; omega
      obtain ⟨xp, xi, xd, xs⟩ := x
      rw [show ((some (⟨xp, xi, xd, xs⟩ : Ent)).getD noEnt).val = .agg #[.string xp, .int .i64 xi, .bool xd, .string xs] from rfl] at hlk
      dsimp only at c0 hlk
      clear hx hxm hxp
      generalize f.es.take k = acc at *
      go_wp2_with (at_builtin; refine wpList_append_rows _ rfl _ _ 26 rfl entLay w2.heap.size 38 i0 (.agg #[.string ⟨#[]⟩, .int .i64 0, .bool false, .string ⟨#[]⟩]) 48 Tryd.underlying26 Hi.out Hz0.out Hz1.out Hz2.out rfl (by decide) _ acc rfl (ho.alloc _) ⟨wr.heap.size, 0, none⟩ 1 ⟨xp, xi, xd, xs⟩ rfl (cells_new_at wr wr.heap.size #[.string xp, .int .i64 xi, .bool xd, .string xs] 38 rfl) (by unfold maxLen; omega) (by omega) (by have := hb.size; simp; omega) ?_)
      intro va w5 ho5 hg5 _
      have hb5 := (hb.alloc hb.size (.cells #[.string xp, .int .i64 xi, .bool xd, .string xs] 38)).grown hg5 (by have := hb.size; simp; omega) (fun j ej => (ho.lt ej).1)
      clear hg5 ho hF3
      go_wp2_with fail
      go_roundw
      case rel => exact ⟨k + 1, by omega, by go_num, by rw [Hst.out]; exact ho5, hb5⟩
      case measure => simp [RowKit.intOf]; omega
    · obtain rfl : k = f.es.length := by omega
      rw [List.take_length] at ho
      have hbz := hb2.trans (hb.mono hb2.size)
      go_wp2_with fail
      go_ret
      exact ⟨_, rfl, ho.lower hb2.size, hbz⟩
set_option maxRecDepth 100000 in
theorem flist_nil (w : World) : Calls Tryd.prog 24 #[.pointer none] w fun e w' => e = .returned (.slice none 0 0) ∧ w = w' := by
  go_enter Tryd.func24, Tryd.ntmps24
  go_wp2_with fail
  go_ret
  exact ⟨rfl, rfl⟩
end Go.Proofs.YtgjgeojhhglidaaDoor
