/-
  The reference's Mkdir, Write, Get.
-/
import Derived.Test.YtgjgeojhhglidaaDoorFsR3
namespace Go.Proofs.YtgjgeojhhglidaaDoor
open Go Go.RowKit Go.Lib

set_option maxRecDepth 100000 in
set_option maxHeartbeats 1600000 in
/-- **Mkdir.** -/
theorem rmkdir_any (rb base : Nat) (v : Value) (f : Fs) (p : ByteArray) (w : World) (h : RAt w rb base v f) (hok : FsOK f) (hn : f.n ≤ 1000000) (hp : p.size ≤ 100000) (hbase : base ≤ w.heap.size) :
    Calls Tryd.prog 17 #[.pointer (some ⟨rb, 0, none⟩), .string p] w fun e w' => e = .returned (.int .i64 (mkdirF f p).2) ∧ ∃ v', RAt w' rb base v' (mkdirF f p).1 ∧ (v' = v ∨ ∀ k, v'.ownBlock = some k → w.heap.size ≤ k) ∧ Turned (RS rb v) w.heap.size w w' := by
  obtain ⟨av, cv, hve, hrow, hcv, hlow, hown⟩ := own_lowR h.rows
  have hfew := hok.few
  have Hok := Lib.hid hok
  have HA := Lib.hid fun W (hb : Below w.heap.size w W) => rat_any rb av cv f.n f.es p W (by have := (h.below hb).var; rw [hve] at this; exact this) (hrow.keeps hb) Hok.out.rise (by omega)
  have HP := Lib.hid (rpath_any p w hp)
  cases hpg : pathG p.data.toList with
  | false =>
    have hM := mkdir_bad (f := f) hpg
    rw [hpg] at HP
    clear HA
    go_enter Tryd.func17, Tryd.ntmps17
    go_wp2_with fail
    refine HP.out.mono ?_
    rintro e w1 ⟨rfl, hb1⟩
    go_wp2_with fail
    go_ret
    rw [hM]
    exact ⟨rfl, _, h.below hb1, .inl rfl, Turned.of_below hb1 (Nat.le_refl _)⟩
  | true =>
    rw [hpg] at HP
    cases hf : findE f.es p with
    | some x =>
      have hM := mkdir_there hpg hf
      rw [hf] at HA
      clear hf
      go_enter Tryd.func17, Tryd.ntmps17
      go_wp2_with fail
      refine HP.out.mono ?_
      rintro e w1 ⟨rfl, hb1⟩
      go_wp2_with fail
      refine (HA.out _ hb1).mono ?_
      rintro e w2 ⟨k, rfl, hkf, n2, rfl⟩
      have hb2 := belowDrew hb1 n2
      generalize w1.drewN n2 = w3 at *
      go_wp2_with fail
      go_ret
      rw [hM]
      exact ⟨rfl, _, h.below hb2, .inl rfl, Turned.of_below hb2 (Nat.le_refl _)⟩
    | none =>
      have hM := mkdir_new hpg hf
      rw [hf] at HA
      have HU := Lib.hid fun W hR hb => rmade_any rb base v f ⟨p, 0, true, noBa⟩ W hR Hok.out.rise hfew hn hp (path_rights hpg) hf hb
      rw [show Ent.val ⟨p, 0, true, noBa⟩ = .agg #[.string p, .int .i64 0, .bool true, .string ⟨#[]⟩] from rfl] at HU
      clear hf
      go_enter Tryd.func17, Tryd.ntmps17
      go_wp2_with fail
      refine HP.out.mono ?_
      rintro e w1 ⟨rfl, hb1⟩
      go_wp2_with fail
      refine (HA.out _ hb1).mono ?_
      rintro e w2 ⟨k, rfl, hkf, n2, rfl⟩
      have hb2 := belowDrew hb1 n2
      generalize w1.drewN n2 = w3 at *
      go_wp2_with fail
      refine (HU.out _ (h.below hb2) (Nat.le_trans hbase hb2.size)).mono ?_
      rintro e w4 ⟨rfl, v', hR4, hv4, ht4⟩
      have hz2 := hb2.size
      go_wp2_with fail
      go_ret
      rw [hM]
      exact ⟨rfl, v', hR4, hv4.imp id (fun h k hk => Nat.le_trans hz2 (h k hk)), (Turned.of_below hb2 (Nat.le_refl _)).trans (ht4.mono hz2 (fun _ _ h => h))⟩
set_option maxRecDepth 100000 in
set_option maxHeartbeats 1600000 in
/-- **Write.** -/
theorem rwrite_any (rb base : Nat) (v : Value) (f : Fs) (p d : ByteArray) (w : World) (h : RAt w rb base v f) (hok : FsOK f) (hn : f.n ≤ 1000000) (hp : p.size ≤ 100000) (hbase : base ≤ w.heap.size) :
    Calls Tryd.prog 18 #[.pointer (some ⟨rb, 0, none⟩), .string p, .string d] w fun e w' => e = .returned (.int .i64 (writeF f p d).2) ∧ ∃ v', RAt w' rb base v' (writeF f p d).1 ∧ (v' = v ∨ ∀ k, v'.ownBlock = some k → w.heap.size ≤ k) ∧ Turned (RS rb v) w.heap.size w w' := by
  obtain ⟨av, cv, hve, hrow, hcv, hlow, hown⟩ := own_lowR h.rows
  have hfew := hok.few
  have Hok := Lib.hid hok
  have HA := Lib.hid fun W (hb : Below w.heap.size w W) => rat_any rb av cv f.n f.es p W (by have := (h.below hb).var; rw [hve] at this; exact this) (hrow.keeps hb) Hok.out.rise (by omega)
  have HP := Lib.hid (rpath_any p w hp)
  cases hpg : pathG p.data.toList with
  | false =>
    have hM := write_bad (f := f) (d := d) hpg
    rw [hpg] at HP
    clear HA
    go_enter Tryd.func18, Tryd.ntmps18
    go_wp2_with fail
    refine HP.out.mono ?_
    rintro e w1 ⟨rfl, hb1⟩
    go_wp2_with fail
    go_ret
    rw [hM]
    exact ⟨rfl, _, h.below hb1, .inl rfl, Turned.of_below hb1 (Nat.le_refl _)⟩
  | true =>
    rw [hpg] at HP
    by_cases hd : 4096 < d.size
    · have hM := write_big (f := f) hpg hd
      have g1 : (d.size : Int) > 4096 := by omega
      clear HA
      go_enter Tryd.func18, Tryd.ntmps18
      go_wp2_with fail
      refine HP.out.mono ?_
      rintro e w1 ⟨rfl, hb1⟩
      go_wp2_with fail
      go_ret
      rw [hM]
      exact ⟨rfl, _, h.below hb1, .inl rfl, Turned.of_below hb1 (Nat.le_refl _)⟩
    · have g1 : ¬ ((d.size : Int) > 4096) := by omega
      cases hf : findE f.es p with
      | none =>
        have hM := write_new hpg hd hf
        rw [hf] at HA
        have HU := Lib.hid fun W hR hb => rmade_any rb base v f ⟨p, 0, false, d⟩ W hR Hok.out.rise hfew hn hp (path_rights hpg) hf hb
        rw [show Ent.val ⟨p, 0, false, d⟩ = .agg #[.string p, .int .i64 0, .bool false, .string d] from rfl] at HU
        clear hf
        go_enter Tryd.func18, Tryd.ntmps18
        go_wp2_with fail
        refine HP.out.mono ?_
        rintro e w1 ⟨rfl, hb1⟩
        go_wp2_with fail
        refine (HA.out _ hb1).mono ?_
        rintro e w2 ⟨k, rfl, hkf, n2, rfl⟩
        have hb2 := belowDrew hb1 n2
        generalize w1.drewN n2 = w3 at *
        go_wp2_with fail
        refine (HU.out _ (h.below hb2) (Nat.le_trans hbase hb2.size)).mono ?_
        rintro e w4 ⟨rfl, v', hR4, hv4, ht4⟩
        have hz2 := hb2.size
        go_wp2_with fail
        go_ret
        rw [hM]
        exact ⟨rfl, v', hR4, hv4.imp id (fun h k hk => Nat.le_trans hz2 (h k hk)), (Turned.of_below hb2 (Nat.le_refl _)).trans (ht4.mono hz2 (fun _ _ h => h))⟩
      | some x =>
        cases hxd : x.dir with
        | true =>
          have hM := write_dir hpg hd hf hxd
          rw [hf] at HA
          have hfx := hf
          clear hf
          go_enter Tryd.func18, Tryd.ntmps18
          go_wp2_with fail
          refine HP.out.mono ?_
          rintro e w1 ⟨rfl, hb1⟩
          go_wp2_with fail
          refine (HA.out _ hb1).mono ?_
          rintro e w2 ⟨k, rfl, hkf, n2, rfl⟩
          have hb2 := belowDrew hb1 n2
          generalize w1.drewN n2 = w3 at *
          have hkx := hkf x rfl
          have hlt := (List.getElem?_eq_some_iff.1 hkx).1
          obtain ⟨b, off, hae, hbl, d0, d1, d2, d3⟩ := ent_at (hrow.keeps hb2) hkx
          have hR3 := h.below hb2
          have q0 := hR3.var.2.2 0 _ rfl
          subst hae
          rw [hve] at q0
          rw [hxd] at d2
          have hlti : (k : Int) < (f.es.length : Int) := by omega
          clear hkf hkx hR3 hfx
          go_wp2_with fail
          go_ret
          rw [hM]
          exact ⟨rfl, _, h.below hb2, .inl rfl, Turned.of_below hb2 (Nat.le_refl _)⟩
        | false =>
          have hM := write_file hpg hd hf hxd
          rw [hf] at HA
          have hfx := hf
          clear hf
          go_enter Tryd.func18, Tryd.ntmps18
          go_wp2_with fail
          refine HP.out.mono ?_
          rintro e w1 ⟨rfl, hb1⟩
          go_wp2_with fail
          refine (HA.out _ hb1).mono ?_
          rintro e w2 ⟨k, rfl, hkf, n2, rfl⟩
          have hb2 := belowDrew hb1 n2
          generalize w1.drewN n2 = w3 at *
          have hkx := hkf x rfl
          have hlt := (List.getElem?_eq_some_iff.1 hkx).1
          have hR3 := h.below hb2
          obtain ⟨g, cap, hvg, hbg, hfz, hset⟩ := hR3.rows.at_field (y := ⟨x.path, x.id, x.dir, d⟩) (f := 3) (u := .string d) hkx (by decide) rfl
          rw [← put_set k x ⟨x.path, x.id, x.dir, d⟩ Hok.out.rise hkx rfl] at hset
          obtain ⟨b, off, hae, hbl, d0, d1, d2, d3⟩ := ent_at (hrow.keeps hb2) hkx
          have q0 := hR3.var.2.2 0 _ rfl
          rw [hve] at hvg
          have hgb : b = g ∧ off = 0 := by
            rw [hae] at hvg
            injection hvg with h1 _ _
            injection h1 with h2
            injection h2 with h3 h4 _
            exact ⟨h3, h4⟩
          obtain ⟨rfl, rfl⟩ := hgb
          subst hae
          rw [hve] at q0
          rw [hxd] at d2
          have hlti : (k : Int) < (f.es.length : Int) := by omega
          have hbrb : b ≠ rb := fun e => h.ne (by rw [hown, e]; rfl)
          have hfz3 := hfz (0 + k * 4 + 3)
          have hvb : v.ownBlock = some b := by rw [hown]; rfl
          have hvar := hR3.var
          have Hset := Lib.hid hset
          clear hkf hkx hR3 hfx hset hfz hvg
          simp only [Nat.zero_add] at d0 d1 d2 d3 hfz3
          go_wp2_with fail
          go_ret
          rw [hM]
          exact ⟨rfl, v, ⟨hvar.other _ (fun e => hbrb e.symm), Hset.out, h.ne⟩, .inl rfl, (Turned.of_below hb2 (Nat.le_refl _)).set _ _ (fun _ => .inr hvb)⟩
set_option maxRecDepth 100000 in
set_option maxHeartbeats 1600000 in
/-- **Get.** -/
theorem rget_any (rb base : Nat) (v : Value) (f : Fs) (p : ByteArray) (w : World) (h : RAt w rb base v f) (hok : FsOK f) :
    Calls Tryd.prog 22 #[.pointer (some ⟨rb, 0, none⟩), .string p] w fun e w' => e = .returned (.tuple #[(getF f p).1.val, .int .i64 (getF f p).2]) ∧ Below w.heap.size w w' := by
  obtain ⟨av, cv, hve, hrow, hcv, hlow, hown⟩ := own_lowR h.rows
  have hfew := hok.few
  have Hok := Lib.hid hok
  have HA := Lib.hid fun W (hb : Below w.heap.size w W) => rat_any rb av cv f.n f.es p W (by have := (h.below hb).var; rw [hve] at this; exact this) (hrow.keeps hb) Hok.out.rise (by omega)
  have hal := (Below.refl w.heap.size w).alloc (Nat.le_refl _) (.cells #[.string ⟨#[]⟩, .int .i64 0, .bool false, .string ⟨#[]⟩] 38)
  have hV := VarAt.new w #[.string ⟨#[]⟩, .int .i64 0, .bool false, .string ⟨#[]⟩] 38
  cases hf : findE f.es p with
  | none =>
    rw [hf] at HA
    rw [getF_none hf]
    show Calls _ _ _ _ fun e w' => e = .returned (.tuple #[.agg #[.string ⟨#[]⟩, .int .i64 0, .bool false, .string ⟨#[]⟩], .int .i64 25]) ∧ _
    clear hf
    go_enter Tryd.func22, Tryd.ntmps22
    go_wp2_with fail
    refine (HA.out _ hal).mono ?_
    rintro e w2 ⟨k, rfl, hkf, n2, rfl⟩
    have hb2 := belowDrew hal n2
    have hV2 := hV.drew n2
    generalize (w.alloc (.cells #[.string ⟨#[]⟩, .int .i64 0, .bool false, .string ⟨#[]⟩] 38)).drewN n2 = w3 at *
    have c0 : (w3).cell? ⟨w.heap.size, 0, none⟩ = some (.string ⟨#[]⟩) := hV2.2.2 0 _ rfl
    have z0 : (w3).frozen? ⟨w.heap.size, 0, none⟩ = false := hV2.2.1 0
    have s0 := hV2.set 0 (.string ⟨#[]⟩) (by simp)
    have c1 : ((w3).setCell ⟨w.heap.size, 0, none⟩ (.string ⟨#[]⟩)).cell? ⟨w.heap.size, 1, none⟩ = some (.int .i64 0) := s0.2.2 1 _ rfl
    have z1 : ((w3).setCell ⟨w.heap.size, 0, none⟩ (.string ⟨#[]⟩)).frozen? ⟨w.heap.size, 1, none⟩ = false := s0.2.1 1
    have s1 := s0.set 1 (.int .i64 0) (by simp)
    have c2 : (((w3).setCell ⟨w.heap.size, 0, none⟩ (.string ⟨#[]⟩)).setCell ⟨w.heap.size, 1, none⟩ (.int .i64 0)).cell? ⟨w.heap.size, 2, none⟩ = some (.bool false) := s1.2.2 2 _ rfl
    have z2 : (((w3).setCell ⟨w.heap.size, 0, none⟩ (.string ⟨#[]⟩)).setCell ⟨w.heap.size, 1, none⟩ (.int .i64 0)).frozen? ⟨w.heap.size, 2, none⟩ = false := s1.2.1 2
    have s2 := s1.set 2 (.bool false) (by simp)
    have c3 : ((((w3).setCell ⟨w.heap.size, 0, none⟩ (.string ⟨#[]⟩)).setCell ⟨w.heap.size, 1, none⟩ (.int .i64 0)).setCell ⟨w.heap.size, 2, none⟩ (.bool false)).cell? ⟨w.heap.size, 3, none⟩ = some (.string ⟨#[]⟩) := s2.2.2 3 _ rfl
    have z3 : ((((w3).setCell ⟨w.heap.size, 0, none⟩ (.string ⟨#[]⟩)).setCell ⟨w.heap.size, 1, none⟩ (.int .i64 0)).setCell ⟨w.heap.size, 2, none⟩ (.bool false)).frozen? ⟨w.heap.size, 3, none⟩ = false := s2.2.1 3
    have s3 := s2.set 3 (.string ⟨#[]⟩) (by simp)
    dsimp only [List.set] at s3
    have r0 : (((((w3).setCell ⟨w.heap.size, 0, none⟩ (.string ⟨#[]⟩)).setCell ⟨w.heap.size, 1, none⟩ (.int .i64 0)).setCell ⟨w.heap.size, 2, none⟩ (.bool false)).setCell ⟨w.heap.size, 3, none⟩ (.string ⟨#[]⟩)).cell? ⟨w.heap.size, 0, none⟩ = some (.string ⟨#[]⟩) := s3.2.2 0 _ rfl
    have r1 : (((((w3).setCell ⟨w.heap.size, 0, none⟩ (.string ⟨#[]⟩)).setCell ⟨w.heap.size, 1, none⟩ (.int .i64 0)).setCell ⟨w.heap.size, 2, none⟩ (.bool false)).setCell ⟨w.heap.size, 3, none⟩ (.string ⟨#[]⟩)).cell? ⟨w.heap.size, 1, none⟩ = some (.int .i64 0) := s3.2.2 1 _ rfl
    have r2 : (((((w3).setCell ⟨w.heap.size, 0, none⟩ (.string ⟨#[]⟩)).setCell ⟨w.heap.size, 1, none⟩ (.int .i64 0)).setCell ⟨w.heap.size, 2, none⟩ (.bool false)).setCell ⟨w.heap.size, 3, none⟩ (.string ⟨#[]⟩)).cell? ⟨w.heap.size, 2, none⟩ = some (.bool false) := s3.2.2 2 _ rfl
    have r3 : (((((w3).setCell ⟨w.heap.size, 0, none⟩ (.string ⟨#[]⟩)).setCell ⟨w.heap.size, 1, none⟩ (.int .i64 0)).setCell ⟨w.heap.size, 2, none⟩ (.bool false)).setCell ⟨w.heap.size, 3, none⟩ (.string ⟨#[]⟩)).cell? ⟨w.heap.size, 3, none⟩ = some (.string ⟨#[]⟩) := s3.2.2 3 _ rfl
    clear s0 s1 s2 s3
    have hbz := ((((hb2.setCell (p := ⟨w.heap.size, 0, none⟩) (Nat.le_refl _) (.string ⟨#[]⟩)).setCell (p := ⟨w.heap.size, 1, none⟩) (Nat.le_refl _) (.int .i64 0)).setCell (p := ⟨w.heap.size, 2, none⟩) (Nat.le_refl _) (.bool false)).setCell (p := ⟨w.heap.size, 3, none⟩) (Nat.le_refl _) (.string ⟨#[]⟩))
    go_wp2_with fail
    refine bodyPost_ret (v := .tuple #[.agg #[.string ⟨#[]⟩, .int .i64 0, .bool false, .string ⟨#[]⟩], .int .i64 25]) (by simp [results, Tryd.results22, go_sem, *]) rfl ⟨rfl, hbz⟩
  | some x =>
    rw [hf] at HA
    rw [getF_some hf]
    show Calls _ _ _ _ fun e w' => e = .returned (.tuple #[.agg #[.string x.path, .int .i64 x.id, .bool x.dir, .string x.data], .int .i64 0]) ∧ _
    clear hf
    go_enter Tryd.func22, Tryd.ntmps22
    go_wp2_with fail
    refine (HA.out _ hal).mono ?_
    rintro e w2 ⟨k, rfl, hkf, n2, rfl⟩
    have hb2 := belowDrew hal n2
    have hV2 := hV.drew n2
    generalize (w.alloc (.cells #[.string ⟨#[]⟩, .int .i64 0, .bool false, .string ⟨#[]⟩] 38)).drewN n2 = w3 at *
    have hkx := hkf x rfl
    have hlt := (List.getElem?_eq_some_iff.1 hkx).1
    obtain ⟨b, off, hae, hbl, d0, d1, d2, d3⟩ := ent_at (hrow.keeps hb2) hkx
    have q0 := (h.below hb2).var.2.2 0 _ rfl
    subst hae
    rw [hve] at q0
    have hlti : (k : Int) < (f.es.length : Int) := by omega
    clear hkf hkx
    have c0 : (w3).cell? ⟨w.heap.size, 0, none⟩ = some (.string ⟨#[]⟩) := hV2.2.2 0 _ rfl
    have z0 : (w3).frozen? ⟨w.heap.size, 0, none⟩ = false := hV2.2.1 0
    have s0 := hV2.set 0 (.string x.path) (by simp)
    have c1 : ((w3).setCell ⟨w.heap.size, 0, none⟩ (.string x.path)).cell? ⟨w.heap.size, 1, none⟩ = some (.int .i64 0) := s0.2.2 1 _ rfl
    have z1 : ((w3).setCell ⟨w.heap.size, 0, none⟩ (.string x.path)).frozen? ⟨w.heap.size, 1, none⟩ = false := s0.2.1 1
    have s1 := s0.set 1 (.int .i64 x.id) (by simp)
    have c2 : (((w3).setCell ⟨w.heap.size, 0, none⟩ (.string x.path)).setCell ⟨w.heap.size, 1, none⟩ (.int .i64 x.id)).cell? ⟨w.heap.size, 2, none⟩ = some (.bool false) := s1.2.2 2 _ rfl
    have z2 : (((w3).setCell ⟨w.heap.size, 0, none⟩ (.string x.path)).setCell ⟨w.heap.size, 1, none⟩ (.int .i64 x.id)).frozen? ⟨w.heap.size, 2, none⟩ = false := s1.2.1 2
    have s2 := s1.set 2 (.bool x.dir) (by simp)
    have c3 : ((((w3).setCell ⟨w.heap.size, 0, none⟩ (.string x.path)).setCell ⟨w.heap.size, 1, none⟩ (.int .i64 x.id)).setCell ⟨w.heap.size, 2, none⟩ (.bool x.dir)).cell? ⟨w.heap.size, 3, none⟩ = some (.string ⟨#[]⟩) := s2.2.2 3 _ rfl
    have z3 : ((((w3).setCell ⟨w.heap.size, 0, none⟩ (.string x.path)).setCell ⟨w.heap.size, 1, none⟩ (.int .i64 x.id)).setCell ⟨w.heap.size, 2, none⟩ (.bool x.dir)).frozen? ⟨w.heap.size, 3, none⟩ = false := s2.2.1 3
    have s3 := s2.set 3 (.string x.data) (by simp)
    dsimp only [List.set] at s3
    have r0 : (((((w3).setCell ⟨w.heap.size, 0, none⟩ (.string x.path)).setCell ⟨w.heap.size, 1, none⟩ (.int .i64 x.id)).setCell ⟨w.heap.size, 2, none⟩ (.bool x.dir)).setCell ⟨w.heap.size, 3, none⟩ (.string x.data)).cell? ⟨w.heap.size, 0, none⟩ = some (.string x.path) := s3.2.2 0 _ rfl
    have r1 : (((((w3).setCell ⟨w.heap.size, 0, none⟩ (.string x.path)).setCell ⟨w.heap.size, 1, none⟩ (.int .i64 x.id)).setCell ⟨w.heap.size, 2, none⟩ (.bool x.dir)).setCell ⟨w.heap.size, 3, none⟩ (.string x.data)).cell? ⟨w.heap.size, 1, none⟩ = some (.int .i64 x.id) := s3.2.2 1 _ rfl
    have r2 : (((((w3).setCell ⟨w.heap.size, 0, none⟩ (.string x.path)).setCell ⟨w.heap.size, 1, none⟩ (.int .i64 x.id)).setCell ⟨w.heap.size, 2, none⟩ (.bool x.dir)).setCell ⟨w.heap.size, 3, none⟩ (.string x.data)).cell? ⟨w.heap.size, 2, none⟩ = some (.bool x.dir) := s3.2.2 2 _ rfl
    have r3 : (((((w3).setCell ⟨w.heap.size, 0, none⟩ (.string x.path)).setCell ⟨w.heap.size, 1, none⟩ (.int .i64 x.id)).setCell ⟨w.heap.size, 2, none⟩ (.bool x.dir)).setCell ⟨w.heap.size, 3, none⟩ (.string x.data)).cell? ⟨w.heap.size, 3, none⟩ = some (.string x.data) := s3.2.2 3 _ rfl
    clear s0 s1 s2 s3
    have hbz := ((((hb2.setCell (p := ⟨w.heap.size, 0, none⟩) (Nat.le_refl _) (.string x.path)).setCell (p := ⟨w.heap.size, 1, none⟩) (Nat.le_refl _) (.int .i64 x.id)).setCell (p := ⟨w.heap.size, 2, none⟩) (Nat.le_refl _) (.bool x.dir)).setCell (p := ⟨w.heap.size, 3, none⟩) (Nat.le_refl _) (.string x.data))
    go_wp2_with fail
    refine bodyPost_ret (v := .tuple #[.agg #[.string x.path, .int .i64 x.id, .bool x.dir, .string x.data], .int .i64 0]) (by simp [results, Tryd.results22, go_sem, *]) rfl ⟨rfl, hbz⟩
end Go.Proofs.YtgjgeojhhglidaaDoor
