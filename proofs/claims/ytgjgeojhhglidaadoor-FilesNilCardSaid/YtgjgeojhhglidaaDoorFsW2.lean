/-
  put, Mkdir, Write.
-/
import Derived.Test.YtgjgeojhhglidaaDoorFsW1
import Derived.Test.YtgjgeojhhglidaaDoorGlp1
import Derived.Deep.RegionHeld3
namespace Go.Proofs.YtgjgeojhhglidaaDoor
open Go Go.RowKit Go.Lib

section
variable {P : Program}
theorem step_update_run {ops : Array Oper} {o : Oper} {a : Act} {w : World} {K : Act → World → Prop} {Q : Exit → Act → World → Prop} {E : Prop}
    (hg : o.guard = none) (m x v : Operand) (t : TypeId) (hop : o.op = Op.mapUpdate t m x v) (mv kv vv : Value) (hm : a.eval m = mv) (hx : a.eval x = kv) (hv : a.eval v = vv)
    {w' : World} (hr : (Instr.mapUpdate t mv kv vv).run P w = .ok () w') (hK : K (a.put o.dst undef) w') :
    if Region.wanted o (yielded ops a.tmps) = true then Oper.wp P o a w K Q else E := by
  have hw : Region.wanted o (yielded ops a.tmps) = true := by simp [Region.wanted, hg]
  rw [if_pos hw]
  unfold Oper.wp
  simp [execOp, hop, hm, hx, hv, hr, Result.andThen]
  exact hK
end
theorem MapE.put {w : World} {mb : Nat} {es : List Ent} (h : MapE Tryd.prog 9 w mb es) (x : Ent) (hx : x.path.size ≤ maxLen) (hl : es.length < maxLen) :
    ∃ w', (Instr.mapUpdate 68 (.map (some mb)) (.string x.path) x.val).run Tryd.prog w = .ok () w' ∧ MapE Tryd.prog 9 w' mb (putE es x) ∧ w.grownBy w' (some mb) := by
  obtain ⟨w', h1, h2, h3⟩ := World.ownsMap.update h keyL Tryd.underlying68 hl (keyS hx) (rowE_val x)
  have e : (datE es).put (.string x.path.data.toList) (encEnt x) = datE (putE es x) := dat_put es x
  rw [e] at h2
  exact ⟨w', h1, MapE.of h2, h3⟩
theorem MapE.len {w : World} {mb : Nat} {es : List Ent} (h : MapE Tryd.prog 9 w mb es) (ty : TypeId) : (Builtin.len_ #[68] ty #[.map (some mb)]).run Tryd.prog w = .ok (.int .i64 es.length) w := by
  rw [World.ownsMap.len h Tryd.underlying68 ty, dat_size]
theorem made_no {f : Fs} {x : Ent} (h : standsE f.es x.path = false) : madeF f x = (f, 44) := if_pos h
theorem made_full {f : Fs} {x : Ent} (h : standsE f.es x.path = true) (h2 : 300 ≤ f.es.length) : madeF f x = (f, 41) := by
  unfold madeF
  rw [if_neg (by rw [h]; exact Bool.noConfusion), if_pos h2]
theorem made_yes {f : Fs} {x : Ent} (h : standsE f.es x.path = true) (h2 : ¬ 300 ≤ f.es.length) : madeF f x = (⟨f.n + 1, putE f.es ⟨x.path, (f.n : Int) + 1, x.dir, x.data⟩⟩, 0) := by
  unfold madeF
  rw [if_neg (by rw [h]; exact Bool.noConfusion), if_neg h2]
def FsS (fb mb : Nat) : Nat → Prop := fun k => k = fb ∨ k = mb
set_option maxRecDepth 100000 in
set_option maxHeartbeats 1600000 in
/-- **put.** -/
theorem fput_any (fb mb : Nat) (f : Fs) (x : Ent) (w : World) (h : FAt w fb mb f) (hp : x.path.size ≤ 100000) (hl : f.es.length ≤ 300) (hn : f.n ≤ 1000000) :
    Calls Tryd.prog 52 #[.pointer (some ⟨fb, 0, none⟩), x.val] w fun e w' => e = .returned (.int .i64 (madeF f x).2) ∧ FAt w' fb mb (madeF f x).1 ∧ Turned (FsS fb mb) w.heap.size w w' := by
  obtain ⟨xp, xi, xd, xs⟩ := x
  dsimp only at hp
  have hal := (Below.refl w.heap.size w).alloc (Nat.le_refl _) (.cells #[.string xp, .int .i64 xi, .bool xd, .string xs] 38)
  have hF := h.keeps hal h.1.1 h.2.lt
  have hV := VarAt.new w #[.string xp, .int .i64 xi, .bool xd, .string xs] 38
  obtain ⟨bx, hbx⟩ : ∃ bx, bx = w.heap.size := ⟨_, rfl⟩
  rw [← hbx] at hV
  have hfb : fb < bx := by rw [hbx]; exact h.1.1
  have hmb : mb < bx := by rw [hbx]; exact h.2.lt
  have hne := h.ne
  have Hbx := Lib.hid hbx
  clear hbx h
  have c0 := hV.2.2 0 _ rfl
  have HS := Lib.hid (fstands_any fb mb f xp _ hF hp)
  show Calls _ _ #[_, .agg #[.string xp, .int .i64 xi, .bool xd, .string xs]] _ _
  have HM0 := Lib.hid (made_no (f := f) (x := ⟨xp, xi, xd, xs⟩))
  have HM1 := Lib.hid (made_full (f := f) (x := ⟨xp, xi, xd, xs⟩))
  have HM2 := Lib.hid (made_yes (f := f) (x := ⟨xp, xi, xd, xs⟩))
  dsimp only at HM0 HM1 HM2
  obtain ⟨M, hM⟩ : ∃ M, madeF f ⟨xp, xi, xd, xs⟩ = M := ⟨_, rfl⟩
  rw [hM] at HM0 HM1 HM2
  rw [hM]
  clear hM
  generalize standsE f.es xp = st at *
  rw [Hbx.out] at c0
  cases st with
  | false =>
    have hM := Lib.hid (HM0.out rfl)
    go_enter Tryd.func52, Tryd.ntmps52
    go_wp2_with fail
    refine HS.out.mono ?_
    rintro e w1 ⟨rfl, n1, rfl⟩
    go_wp2_with fail
    go_ret
    rw [hM.out]
    exact ⟨rfl, ⟨hF.1, hF.2.same rfl⟩, Turned.of_below (belowDrew hal n1) (Nat.le_refl _)⟩
  | true =>
    by_cases h300 : 300 ≤ f.es.length
    · have hM := Lib.hid (HM1.out rfl h300)
      go_enter Tryd.func52, Tryd.ntmps52
      go_wp2_with fail
      refine HS.out.mono ?_
      rintro e w1 ⟨rfl, n1, rfl⟩
      have hF1 : FAt ((w.alloc (.cells #[.string xp, .int .i64 xi, .bool xd, .string xs] 38)).drewN n1) fb mb f := ⟨hF.1, hF.2.same rfl⟩
      have hb1 := belowDrew hal n1
      generalize (w.alloc (.cells #[.string xp, .int .i64 xi, .bool xd, .string xs] 38)).drewN n1 = W1 at *
      have k1 := hF1.1.2.2 1 _ rfl
      have hlen := fun ty => hF1.2.len ty
      go_wp2_with fail
      go_ret
      rw [hM.out]
      exact ⟨rfl, hF1, Turned.of_below hb1 (Nat.le_refl _)⟩
    · have hM := Lib.hid (HM2.out rfl h300)
      go_enter Tryd.func52, Tryd.ntmps52
      go_wp2_with fail
      refine HS.out.mono ?_
      rintro e w1 ⟨rfl, n1, rfl⟩
      have hF1 : FAt ((w.alloc (.cells #[.string xp, .int .i64 xi, .bool xd, .string xs] 38)).drewN n1) fb mb f := ⟨hF.1, hF.2.same rfl⟩
      have hV1 : VarAt ((w.alloc (.cells #[.string xp, .int .i64 xi, .bool xd, .string xs] 38)).drewN n1) bx [.string xp, .int .i64 xi, .bool xd, .string xs] := hV
      have hb1 := belowDrew hal n1
      generalize (w.alloc (.cells #[.string xp, .int .i64 xi, .bool xd, .string xs] 38)).drewN n1 = W1 at *
      have k0 := hF1.1.2.2 0 _ rfl
      have f0 := hF1.1.2.1 0
      have k1 := hF1.1.2.2 1 _ rfl
      have hlen := fun ty => hF1.2.len ty
      have hV2 := hV1.other (k := fb) (i := 0) (.int .i64 ((f.n : Int) + 1)) (by omega)
      have b1 := hV2.2.2 1 _ rfl
      have g1 := hV2.2.1 1
      rw [← Hbx.out]
      go_wp2_with fail
      have hX := (hF1.1.set 0 (.int .i64 ((f.n : Int) + 1)) (by simp)).other (k := bx) (i := 1) (.int .i64 ((f.n : Int) + 1)) (by omega)
      have hY := hV2.set 1 (.int .i64 ((f.n : Int) + 1)) (by simp)
      have hZ : MapE Tryd.prog 9 ((W1.setCell ⟨fb, 0, none⟩ (.int .i64 ((f.n : Int) + 1))).setCell ⟨bx, 1, none⟩ (.int .i64 ((f.n : Int) + 1))) mb f.es := hF1.2.same ((heap_other _ _ (by omega)).trans (heap_other _ _ (fun e => hne e.symm)))
      have hT := ((Turned.of_below (S := FsS fb mb) hb1 (Nat.le_refl _)).set 0 (.int .i64 ((f.n : Int) + 1)) (b := fb) (fun _ => .inl rfl)).set 1 (.int .i64 ((f.n : Int) + 1)) (b := bx) (fun e => by have := Hbx.out; omega)
      generalize (W1.setCell ⟨fb, 0, none⟩ (.int .i64 ((f.n : Int) + 1))).setCell ⟨bx, 1, none⟩ (.int .i64 ((f.n : Int) + 1)) = W2 at *
      clear hF1 hV1 hV2 k0 f0 k1 hlen b1 g1 hb1
      dsimp only [List.set] at hX hY
      have k1 : W2.drew.cell? ⟨fb, 1, none⟩ = some (.map (some mb)) := hX.2.2 1 _ rfl
      have y0 : W2.drew.cell? ⟨bx, 0, none⟩ = some (.string xp) := hY.2.2 0 _ rfl
      have y1 : W2.drew.cell? ⟨bx, 1, none⟩ = some (.int .i64 ((f.n : Int) + 1)) := hY.2.2 1 _ rfl
      have y2 : W2.drew.cell? ⟨bx, 2, none⟩ = some (.bool xd) := hY.2.2 2 _ rfl
      have y3 : W2.drew.cell? ⟨bx, 3, none⟩ = some (.string xs) := hY.2.2 3 _ rfl
      obtain ⟨w3, hrun, hM3, hg3⟩ := MapE.put (hZ.same (w' := W2.drew) rfl) ⟨xp, (f.n : Int) + 1, xd, xs⟩ (by show xp.size ≤ maxLen; unfold maxLen; omega) (by unfold maxLen; omega)
      replace hrun : (Instr.mapUpdate 68 (.map (some mb)) (.string xp) (.agg #[.string xp, .int .i64 ((f.n : Int) + 1), .bool xd, .string xs])).run Tryd.prog W2.drew = .ok () w3 := hrun
      have hX3 : VarAt w3 fb _ := VarAt.grown (W := W2.drew) hX hg3 (by simpa using hne)
      have hT3 := (hT.drewN 1).trans (Turned.of_grown (W := W2.drewN 1) (S := FsS fb mb) (B := w.heap.size) hg3 hT.size (fun k e _ => by cases e; exact .inr rfl))
      have HR := Lib.hid (show FAt w3 fb mb ⟨f.n + 1, putE f.es ⟨xp, (f.n : Int) + 1, xd, xs⟩⟩ from ⟨hX3, hM3⟩)
      clear hX3 hM3 hg3 hX hY hZ hT
      go_region_law (refine step_update_run rfl _ _ _ 68 rfl _ _ _ rfl rfl rfl hrun ?_)
      all_goals
        go_wp2_with fail
        go_ret
        rw [hM.out]
        exact ⟨rfl, HR.out, hT3⟩
end Go.Proofs.YtgjgeojhhglidaaDoor
