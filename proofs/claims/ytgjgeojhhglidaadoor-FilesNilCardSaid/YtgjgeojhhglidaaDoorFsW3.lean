/-
  Mkdir, Write.
-/
import Derived.Test.YtgjgeojhhglidaaDoorFsW2
namespace Go.Proofs.YtgjgeojhhglidaaDoor
open Go Go.RowKit Go.Lib

theorem FAt.below {w w' : World} {fb mb : Nat} {f : Fs} (h : FAt w fb mb f) (hb : Below w.heap.size w w') : FAt w' fb mb f := h.keeps hb h.1.1 h.2.lt
theorem mkdir_bad {f : Fs} {p : ByteArray} (h : pathG p.data.toList = false) : mkdirF f p = (f, 23) := if_pos h
theorem mkdir_there {f : Fs} {p : ByteArray} {x : Ent} (h : pathG p.data.toList = true) (h2 : findE f.es p = some x) : mkdirF f p = (f, 24) := by
  unfold mkdirF
  rw [if_neg (by rw [h]; exact Bool.noConfusion), h2]
  rfl
theorem mkdir_new {f : Fs} {p : ByteArray} (h : pathG p.data.toList = true) (h2 : findE f.es p = none) : mkdirF f p = madeF f ⟨p, 0, true, noBa⟩ := by
  unfold mkdirF
  rw [if_neg (by rw [h]; exact Bool.noConfusion), h2]
  rfl
theorem write_bad {f : Fs} {p d : ByteArray} (h : pathG p.data.toList = false) : writeF f p d = (f, 23) := if_pos h
theorem write_big {f : Fs} {p d : ByteArray} (h : pathG p.data.toList = true) (h1 : 4096 < d.size) : writeF f p d = (f, 40) := by
  unfold writeF
  rw [if_neg (by rw [h]; exact Bool.noConfusion), if_pos h1]
theorem write_new {f : Fs} {p d : ByteArray} (h : pathG p.data.toList = true) (h1 : ¬ 4096 < d.size) (h2 : findE f.es p = none) : writeF f p d = madeF f ⟨p, 0, false, d⟩ := by
  unfold writeF
  rw [if_neg (by rw [h]; exact Bool.noConfusion), if_neg h1, h2]
theorem write_dir {f : Fs} {p d : ByteArray} {x : Ent} (h : pathG p.data.toList = true) (h1 : ¬ 4096 < d.size) (h2 : findE f.es p = some x) (h3 : x.dir = true) : writeF f p d = (f, 44) := by
  unfold writeF
  rw [if_neg (by rw [h]; exact Bool.noConfusion), if_neg h1, h2]
  dsimp only
  rw [if_pos h3]
theorem write_file {f : Fs} {p d : ByteArray} {x : Ent} (h : pathG p.data.toList = true) (h1 : ¬ 4096 < d.size) (h2 : findE f.es p = some x) (h3 : x.dir = false) : writeF f p d = (⟨f.n, putE f.es ⟨x.path, x.id, x.dir, d⟩⟩, 0) := by
  unfold writeF
  rw [if_neg (by rw [h]; exact Bool.noConfusion), if_neg h1, h2]
  dsimp only
  rw [if_neg (by rw [h3]; exact Bool.noConfusion)]
set_option maxRecDepth 100000 in
set_option maxHeartbeats 1600000 in
/-- **Mkdir.** -/
theorem fmkdir_any (fb mb : Nat) (f : Fs) (p : ByteArray) (w : World) (h : FAt w fb mb f) (hp : p.size ≤ 100000) (hlen : f.es.length ≤ 300) (hn : f.n ≤ 1000000) (hm : MaxAt w) :
    Calls Tryd.prog 27 #[.pointer (some ⟨fb, 0, none⟩), .string p] w fun e w' => e = .returned (.int .i64 (mkdirF f p).2) ∧ FAt w' fb mb (mkdirF f p).1 ∧ Turned (FsS fb mb) w.heap.size w w' := by
  have HP := Lib.hid (path_any p w hp hm)
  cases hpg : pathG p.data.toList with
  | false =>
    have hM := mkdir_bad (f := f) hpg
    rw [hpg] at HP
    clear hpg
    go_enter Tryd.func27, Tryd.ntmps27
    go_wp2_with fail
    refine HP.out.mono ?_
    rintro e w1 ⟨rfl, hb1⟩
    go_wp2_with fail
    go_ret
    rw [hM]
    exact ⟨rfl, h.below hb1, Turned.of_below hb1 (Nat.le_refl _)⟩
  | true =>
    rw [hpg] at HP
    cases hf : findE f.es p with
    | some x =>
      have hM := mkdir_there hpg hf
      obtain ⟨xp, xi, xd, xs⟩ := x
      clear hpg
      go_enter Tryd.func27, Tryd.ntmps27
      go_wp2_with fail
      refine HP.out.mono ?_
      rintro e w1 ⟨rfl, hb1⟩
      have hF1 := h.below hb1
      have hm1 := hb1.size
      have k1 := hF1.1.2.2 1 _ rfl
      have hl := hF1.2.look (p := p) (by unfold maxLen; omega)
      rw [hf] at hl
      rw [show ((some (⟨xp, xi, xd, xs⟩ : Ent)).getD noEnt).val = .agg #[.string xp, .int .i64 xi, .bool xd, .string xs] from rfl, show (some (⟨xp, xi, xd, xs⟩ : Ent)).isSome = true from rfl] at hl
      clear hf
      go_wp2_with fail
      go_ret
      rw [hM]
      have hbz := hb1.alloc hb1.size (.cells #[.string xp, .int .i64 xi, .bool xd, .string xs] 38)
      exact ⟨rfl, h.below hbz, Turned.of_below hbz (Nat.le_refl _)⟩
    | none =>
      have hM := mkdir_new hpg hf
      clear hpg
      go_enter Tryd.func27, Tryd.ntmps27
      go_wp2_with fail
      refine HP.out.mono ?_
      rintro e w1 ⟨rfl, hb1⟩
      have hF1 := h.below hb1
      have hm1 := hb1.size
      have k1 := hF1.1.2.2 1 _ rfl
      have hl := hF1.2.look (p := p) (by unfold maxLen; omega)
      rw [hf] at hl
      rw [show ((none : Option Ent).getD noEnt).val = .agg #[.string ⟨#[]⟩, .int .i64 0, .bool false, .string ⟨#[]⟩] from rfl, show (none : Option Ent).isSome = false from rfl] at hl
      clear hf
      have hal := (Below.refl w1.heap.size w1).alloc (Nat.le_refl _) (.cells #[.string ⟨#[]⟩, .int .i64 0, .bool false, .string ⟨#[]⟩] 38)
      have hF2 := hF1.below hal
      have HU := Lib.hid (fput_any fb mb f ⟨p, 0, true, noBa⟩ _ hF2 hp hlen hn)
      have hs2 : (w1.alloc (.cells #[.string ⟨#[]⟩, .int .i64 0, .bool false, .string ⟨#[]⟩] 38)).heap.size = w1.heap.size + 1 := by simp
      have hb2 := hb1.trans (hal.mono hb1.size)
      rw [show Ent.val ⟨p, 0, true, noBa⟩ = .agg #[.string p, .int .i64 0, .bool true, .string ⟨#[]⟩] from rfl] at HU
      go_wp2_with fail
      refine HU.out.mono ?_
      rintro e w3 ⟨rfl, hF3, ht3⟩
      go_wp2_with fail
      go_ret
      rw [hM]
      exact ⟨rfl, hF3, (Turned.of_below hb2 (Nat.le_refl _)).trans (ht3.mono hb2.size (fun _ _ h => h))⟩
set_option maxRecDepth 100000 in
set_option maxHeartbeats 1600000 in
/-- **Write.** -/
theorem fwrite_any (fb mb : Nat) (f : Fs) (p d : ByteArray) (w : World) (h : FAt w fb mb f) (hp : p.size ≤ 100000) (hlen : f.es.length ≤ 300) (hn : f.n ≤ 1000000) (hm : MaxAt w) :
    Calls Tryd.prog 28 #[.pointer (some ⟨fb, 0, none⟩), .string p, .string d] w fun e w' => e = .returned (.int .i64 (writeF f p d).2) ∧ FAt w' fb mb (writeF f p d).1 ∧ Turned (FsS fb mb) w.heap.size w w' := by
  have HP := Lib.hid (path_any p w hp hm)
  cases hpg : pathG p.data.toList with
  | false =>
    have hM := write_bad (f := f) (d := d) hpg
    rw [hpg] at HP
    clear hpg
    go_enter Tryd.func28, Tryd.ntmps28
    go_wp2_with fail
    refine HP.out.mono ?_
    rintro e w1 ⟨rfl, hb1⟩
    go_wp2_with fail
    go_ret
    rw [hM]
    exact ⟨rfl, h.below hb1, Turned.of_below hb1 (Nat.le_refl _)⟩
  | true =>
    rw [hpg] at HP
    by_cases hd : 4096 < d.size
    · have hM := write_big (f := f) hpg hd
      clear hpg
      go_enter Tryd.func28, Tryd.ntmps28
      go_wp2_with fail
      refine HP.out.mono ?_
      rintro e w1 ⟨rfl, hb1⟩
      go_wp2_with fail
      go_ret
      rw [hM]
      exact ⟨rfl, h.below hb1, Turned.of_below hb1 (Nat.le_refl _)⟩
    cases hf : findE f.es p with
    | none =>
      have hM := write_new hpg hd hf
      clear hpg
      go_enter Tryd.func28, Tryd.ntmps28
      go_wp2_with fail
      refine HP.out.mono ?_
      rintro e w1 ⟨rfl, hb1⟩
      have hF1 := h.below hb1
      have hm1 := hb1.size
      have k1 := hF1.1.2.2 1 _ rfl
      have hl := hF1.2.look (p := p) (by unfold maxLen; omega)
      rw [hf] at hl
      rw [show ((none : Option Ent).getD noEnt).val = .agg #[.string ⟨#[]⟩, .int .i64 0, .bool false, .string ⟨#[]⟩] from rfl, show (none : Option Ent).isSome = false from rfl] at hl
      clear hf
      have hal := (Below.refl w1.heap.size w1).alloc (Nat.le_refl _) (.cells #[.string ⟨#[]⟩, .int .i64 0, .bool false, .string ⟨#[]⟩] 38)
      have hF2 := hF1.below hal
      have HU := Lib.hid (fput_any fb mb f ⟨p, 0, false, d⟩ _ hF2 hp hlen hn)
      have hs2 : (w1.alloc (.cells #[.string ⟨#[]⟩, .int .i64 0, .bool false, .string ⟨#[]⟩] 38)).heap.size = w1.heap.size + 1 := by simp
      have hb2 := hb1.trans (hal.mono hb1.size)
      rw [show Ent.val ⟨p, 0, false, d⟩ = .agg #[.string p, .int .i64 0, .bool false, .string d] from rfl] at HU
      go_wp2_with fail
      refine HU.out.mono ?_
      rintro e w3 ⟨rfl, hF3, ht3⟩
      go_wp2_with fail
      go_ret
      rw [hM]
      exact ⟨rfl, hF3, (Turned.of_below hb2 (Nat.le_refl _)).trans (ht3.mono hb2.size (fun _ _ h => h))⟩
    | some x =>
      obtain ⟨xp, xi, xd, xs⟩ := x
      cases xd with
      | true =>
        have hM := write_dir hpg hd hf rfl
        clear hpg
        go_enter Tryd.func28, Tryd.ntmps28
        go_wp2_with fail
        refine HP.out.mono ?_
        rintro e w1 ⟨rfl, hb1⟩
        have hF1 := h.below hb1
        have hm1 := hb1.size
        have k1 := hF1.1.2.2 1 _ rfl
        have hl := hF1.2.look (p := p) (by unfold maxLen; omega)
        rw [hf] at hl
        rw [show ((some (⟨xp, xi, true, xs⟩ : Ent)).getD noEnt).val = .agg #[.string xp, .int .i64 xi, .bool true, .string xs] from rfl, show (some (⟨xp, xi, true, xs⟩ : Ent)).isSome = true from rfl] at hl
        clear hf
        go_wp2_with fail
        go_ret
        rw [hM]
        have hbz := hb1.alloc hb1.size (.cells #[.string xp, .int .i64 xi, .bool true, .string xs] 38)
        exact ⟨rfl, h.below hbz, Turned.of_below hbz (Nat.le_refl _)⟩
      | false =>
        have hM := write_file hpg hd hf rfl
        obtain rfl : xp = p := (find_some hf).2
        clear hpg
        go_enter Tryd.func28, Tryd.ntmps28
        go_wp2_with fail
        refine HP.out.mono ?_
        rintro e w1 ⟨rfl, hb1⟩
        have hF1 := h.below hb1
        have hm1 := hb1.size
        have k1 := hF1.1.2.2 1 _ rfl
        have hl := hF1.2.look (p := xp) (by unfold maxLen; omega)
        rw [hf] at hl
        rw [show ((some (⟨xp, xi, false, xs⟩ : Ent)).getD noEnt).val = .agg #[.string xp, .int .i64 xi, .bool false, .string xs] from rfl, show (some (⟨xp, xi, false, xs⟩ : Ent)).isSome = true from rfl] at hl
        clear hf
        have hal := (Below.refl w1.heap.size w1).alloc (Nat.le_refl _) (.cells #[.string xp, .int .i64 xi, .bool false, .string d] 38)
        have hF2 := hF1.below hal
        have hV2 := VarAt.new w1 #[.string xp, .int .i64 xi, .bool false, .string d] 38
        have hb2 := hb1.trans (hal.mono hb1.size)
        obtain ⟨bs, hbs⟩ : ∃ bs, bs = w1.heap.size := ⟨_, rfl⟩
        rw [← hbs] at hV2
        have Hbs := Lib.hid hbs
        clear hbs
        go_wp2_with fail
        rw [← Hbs.out]
        clear k1 hl
        generalize w1.alloc (.cells #[.string xp, .int .i64 xi, .bool false, .string d] 38) = W2 at *
        have k1 : W2.drew.cell? ⟨fb, 1, none⟩ = some (.map (some mb)) := hF2.1.2.2 1 _ rfl
        have y0 : W2.drew.cell? ⟨bs, 0, none⟩ = some (.string xp) := hV2.2.2 0 _ rfl
        have y1 : W2.drew.cell? ⟨bs, 1, none⟩ = some (.int .i64 xi) := hV2.2.2 1 _ rfl
        have y2 : W2.drew.cell? ⟨bs, 2, none⟩ = some (.bool false) := hV2.2.2 2 _ rfl
        have y3 : W2.drew.cell? ⟨bs, 3, none⟩ = some (.string d) := hV2.2.2 3 _ rfl
        obtain ⟨w3, hrun, hM3, hg3⟩ := MapE.put (MapE.same hF2.2 (w' := W2.drew) rfl) ⟨xp, xi, false, d⟩ (by show xp.size ≤ maxLen; unfold maxLen; omega) (by unfold maxLen; omega)
        replace hrun : (Instr.mapUpdate 68 (.map (some mb)) (.string xp) (.agg #[.string xp, .int .i64 xi, .bool false, .string d])).run Tryd.prog W2.drew = .ok () w3 := hrun
        have hX3 : VarAt w3 fb _ := VarAt.grown (W := W2.drew) hF2.1 hg3 (by simpa using hF2.ne)
        have hT3 := (Turned.of_below (S := FsS fb mb) (belowDrew hb2 1) (Nat.le_refl _)).trans (Turned.of_grown (W := W2.drewN 1) (S := FsS fb mb) (B := w.heap.size) hg3 hb2.size (fun k e _ => by cases e; exact .inr rfl))
        have HR := Lib.hid (show FAt w3 fb mb ⟨f.n, putE f.es ⟨xp, xi, false, d⟩⟩ from ⟨hX3, hM3⟩)
        clear hX3 hM3 hg3 hF2 hV2 hF1
        go_region_law (refine step_update_run rfl _ _ _ 68 rfl _ _ _ rfl rfl rfl hrun ?_)
        all_goals
          go_wp2_with fail
          go_ret
          rw [hM]
          exact ⟨rfl, HR.out, hT3⟩
end Go.Proofs.YtgjgeojhhglidaaDoor
