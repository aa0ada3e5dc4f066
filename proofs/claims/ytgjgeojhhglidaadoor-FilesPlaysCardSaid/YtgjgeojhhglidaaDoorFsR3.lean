/-
  The reference's made, Mkdir.
-/
import Derived.Test.YtgjgeojhhglidaaDoorFsR2
import Derived.StillTailTactics
namespace Go.Proofs.YtgjgeojhhglidaaDoor
open Go Go.RowKit Go.Lib

theorem flat_set {α : Type} (L : Lay α) : ∀ (xs : List α) (k : Nat) (x y : α) (f : Nat) (u : Value), xs[k]? = some x → f < L.sz → L.cells y = (L.cells x).set f u → flat L (xs.set k y) = (flat L xs).set (k * L.sz + f) u
  | [], k, x, y, f, u, h, _, _ => by simp at h
  | z :: r, 0, x, y, f, u, h, hf, hy => by
    simp only [List.getElem?_cons_zero, Option.some.injEq] at h
    subst h
    show L.cells y ++ flat L r = (L.cells z ++ flat L r).set (0 * L.sz + f) u
    rw [Nat.zero_mul, Nat.zero_add, List.set_append_left _ _ (by rw [L.len]; exact hf), hy]
  | z :: r, k + 1, x, y, f, u, h, hf, hy => by
    simp only [List.getElem?_cons_succ] at h
    show L.cells z ++ flat L (r.set k y) = (L.cells z ++ flat L r).set ((k + 1) * L.sz + f) u
    rw [List.set_append_right _ _ (by rw [L.len, Nat.succ_mul]; omega), L.len, flat_set L r k x y f u h hf hy]
    congr 2
    rw [Nat.succ_mul]
    omega
theorem OwnRows.at_field {α : Type} {L : Lay α} {w : World} {base : Nat} {e : TypeId} {v : Value} {xs : List α} (h : OwnRows L w base e v xs) {k : Nat} {x y : α} {f : Nat} {u : Value} (hk : xs[k]? = some x) (hf : f < L.sz) (hy : L.cells y = (L.cells x).set f u) :
    ∃ g cap, v = .slice (some ⟨g, 0, none⟩) xs.length cap ∧ base ≤ g ∧ (∀ i, w.frozen? ⟨g, i, none⟩ = false) ∧ OwnRows L (w.setCell ⟨g, k * L.sz + f, none⟩ u) base e v (xs.set k y) := by
  have hkl : k < xs.length := (List.getElem?_eq_some_iff.1 hk).1
  rcases h.2 with ⟨rfl, hx⟩ | ⟨g, cap, cur, rfl, hg, hgg, hcap, hcm, hcs, htk⟩
  · exfalso
    have : xs.length = 0 := by simpa using hx
    omega
  · refine ⟨g, cap, rfl, hg, fun i => by simp [World.frozen?, hgg], ?_, .inr ⟨g, cap, cur.set! (k * L.sz + f) u, ?_, hg, ?_, ?_, hcm, ?_, ?_⟩⟩
    · rw [flat_length]
    · simp
    · simp [World.setCell, Array.getElem?_modify, hgg]
    · simpa using hcap
    · simpa using hcs
    · rw [flat_set L xs k x y f u hk hf hy]
      simp only [Array.set!_eq_setIfInBounds, Array.toList_setIfInBounds, List.length_set] at htk ⊢
      rw [List.take_set, htk]
theorem put_set : ∀ {es : List Ent} (k : Nat) (x y : Ent), Rising es → es[k]? = some x → y.path = x.path → putE es y = es.set k y
  | [], k, x, y, _, h, _ => by simp at h
  | z :: r, 0, x, y, hr, h, e => by
    simp only [List.getElem?_cons_zero, Option.some.injEq] at h
    subst h
    obtain ⟨h1, h2⟩ := List.pairwise_cons.1 hr
    have h3 : delE (z :: r) y.path = r := by
      show List.filter _ (z :: r) = r
      rw [List.filter_cons_of_neg (by simp [e])]
      refine List.filter_eq_self.2 fun v hv => ?_
      have := befE_ne (h1 v hv)
      simp only [Bool.not_eq_true', decide_eq_false_iff_not]
      rw [e]
      exact fun h => this h.symm
    show insE y (delE (z :: r) y.path) = y :: r
    rw [h3]
    cases r with
    | nil => rfl
    | cons v r =>
      have h4 : befE y v = true := by
        have := h1 v List.mem_cons_self
        unfold befE pB at *
        rw [e]
        exact this
      show (if befE y v then _ else _) = _
      rw [if_pos h4]
  | z :: r, k + 1, x, y, hr, h, e => by
    simp only [List.getElem?_cons_succ] at h
    obtain ⟨h1, h2⟩ := List.pairwise_cons.1 hr
    have hzx := h1 x (List.mem_of_getElem? h)
    have h3 : delE (z :: r) y.path = z :: delE r y.path := by
      show List.filter _ (z :: r) = _
      rw [List.filter_cons_of_pos (by simp only [Bool.not_eq_true', decide_eq_false_iff_not]; rw [e]; exact befE_ne hzx)]
      rfl
    have h4 : befE y z = false := by
      have : befE y z = befE x z := by
        unfold befE pB
        rw [e]
      rw [this]
      exact befE_asym hzx
    show insE y (delE (z :: r) y.path) = z :: r.set k y
    rw [h3]
    show (if befE y z then _ else z :: insE y (delE r y.path)) = _
    rw [if_neg (by rw [h4]; exact Bool.noConfusion), ← put_set k x y h2 h e]
    rfl

theorem own_lowR {α : Type} {L : Lay α} {w : World} {base : Nat} {e : TypeId} {v : Value} {xs : List α} (h : OwnRows L w base e v xs) : ∃ a cap, v = .slice a xs.length cap ∧ RowsAt L w a xs ∧ xs.length ≤ cap ∧ (∀ ad, a = some ad → base ≤ ad.block ∧ ad.block < w.heap.size) ∧ v.ownBlock = a.map (·.block) := by
  obtain ⟨a, cap, rfl, h1, h2⟩ := h.read
  refine ⟨a, cap, rfl, h1, h2, fun ad e => ?_, ?_⟩
  · subst e
    rcases h.2 with ⟨h3, _⟩ | ⟨g, cap', cur, h3, hg, hgg, _⟩
    · cases h3
    · cases h3
      exact ⟨hg, (Array.getElem?_eq_some_iff.1 hgg).1⟩
  · cases a <;> rfl
/-- The reference's file system lies in block rb, its entries in the row of v. -/
structure RAt (w : World) (rb base : Nat) (v : Value) (f : Fs) : Prop where
  var : VarAt w rb [v, .int .i64 f.n]
  rows : OwnRows entLay w base 38 v f.es
  ne : v.ownBlock ≠ some rb
/-- What a call of it may change. -/
def RS (rb : Nat) (v : Value) : Nat → Prop := fun k => k = rb ∨ v.ownBlock = some k
theorem RAt.below {w w' : World} {rb base : Nat} {v : Value} {f : Fs} (h : RAt w rb base v f) (hb : Below w.heap.size w w') : RAt w' rb base v f := ⟨h.var.keeps hb h.var.1, h.rows.below hb, h.ne⟩
set_option maxRecDepth 100000 in
set_option maxHeartbeats 1600000 in
/-- **made.** -/
theorem rmade_any (rb base : Nat) (v : Value) (f : Fs) (x : Ent) (w : World) (h : RAt w rb base v f) (hr : Rising f.es) (hl : f.es.length ≤ 300) (hn : f.n ≤ 1000000) (hp : x.path.size ≤ 100000) (hpr : rightsL x.path.data.toList = true) (hno : findE f.es x.path = none) (hbase : base ≤ w.heap.size) :
    Calls Tryd.prog 41 #[.pointer (some ⟨rb, 0, none⟩), x.val] w fun e w' => e = .returned (.int .i64 (madeF f x).2) ∧ ∃ v', RAt w' rb base v' (madeF f x).1 ∧ (v' = v ∨ ∀ k, v'.ownBlock = some k → w.heap.size ≤ k) ∧ Turned (RS rb v) w.heap.size w w' := by
  obtain ⟨xp, xi, xd, xs⟩ := x
  dsimp only at hp hpr hno
  show Calls _ _ #[_, .agg #[.string xp, .int .i64 xi, .bool xd, .string xs]] _ _
  have hal := (Below.refl w.heap.size w).alloc (Nat.le_refl _) (.cells #[.string xp, .int .i64 xi, .bool xd, .string xs] 38)
  have hRA := h.below hal
  have hV := VarAt.new w #[.string xp, .int .i64 xi, .bool xd, .string xs] 38
  obtain ⟨bx, hbx⟩ : ∃ bx, bx = w.heap.size := ⟨_, rfl⟩
  rw [← hbx] at hV
  have hrbx : rb < bx := by rw [hbx]; exact h.var.1
  have HM0 := Lib.hid (made_no (f := f) (x := ⟨xp, xi, xd, xs⟩))
  have HM1 := Lib.hid (made_full (f := f) (x := ⟨xp, xi, xd, xs⟩))
  have hput : putE f.es ⟨xp, (f.n : Int) + 1, xd, xs⟩ = insE ⟨xp, (f.n : Int) + 1, xd, xs⟩ f.es := by
    unfold putE
    rw [delE_none hno]
  have HM2 := made_yes (f := f) (x := ⟨xp, xi, xd, xs⟩)
  dsimp only at HM2
  rw [hput] at HM2
  replace HM2 := Lib.hid HM2
  obtain ⟨av, cv, rfl, hrow0, hcv, hlow, hown⟩ := own_lowR h.rows
  have hrow := hrow0.keeps hal
  have hnrb : ∀ ad, av = some ad → ad.block < w.heap.size ∧ ¬ ad.block = rb := fun ad e => ⟨(hlow ad e).2, fun e2 => h.ne (by rw [hown, e, ← e2]; rfl)⟩
  have hrbw := h.var.1
  have c0 := hRA.var.2.2 0 _ rfl
  have v0 : (w.alloc (.cells #[.string xp, .int .i64 xi, .bool xd, .string xs] 38)).cell? ⟨bx, 0, none⟩ = some (.string xp) := hV.2.2 0 _ rfl
  have HS := Lib.hid (rstands_any rb av cv f.n f.es xp _ hRA.var hrow hr (by omega) hp hpr)
  obtain ⟨M, hM⟩ : ∃ M, madeF f ⟨xp, xi, xd, xs⟩ = M := ⟨_, rfl⟩
  rw [hM] at HM0 HM1 HM2 ⊢
  dsimp only at HM0 HM1
  have Hbx := Lib.hid hbx
  clear hM hput hno h hbx hlow hown
  have hts := Turned.of_below (S := fun k => k = rb) hal (Nat.le_refl _)
  have ht := Turned.of_below (S := RS rb (.slice av f.es.length cv)) hal (Nat.le_refl _)
  rw [Hbx.out] at v0
  generalize standsE f.es xp = st at *
  cases st with
  | false =>
    have hM := Lib.hid (HM0.out rfl)
    go_enter Tryd.func41, Tryd.ntmps41
    go_wp2_with fail
    rw [← Hbx.out]
    clear v0
    generalize w.alloc (.cells #[.string xp, .int .i64 xi, .bool xd, .string xs] 38) = W1 at *
    refine HS.out.mono ?_
    rintro e w2 ⟨rfl, n2, rfl⟩
    go_wp2_with fail
    go_ret
    rw [hM.out]
    exact ⟨rfl, _, hRA.below (belowDrew (Below.refl _ W1) n2), .inl rfl, ht.drewN n2⟩
  | true =>
    by_cases h300 : 300 ≤ f.es.length
    · have hM := Lib.hid (HM1.out rfl h300)
      go_enter Tryd.func41, Tryd.ntmps41
      go_wp2_with fail
      rw [← Hbx.out]
      clear v0
      generalize w.alloc (.cells #[.string xp, .int .i64 xi, .bool xd, .string xs] 38) = W1 at *
      refine HS.out.mono ?_
      rintro e w2 ⟨rfl, n2, rfl⟩
      go_wp2_with fail
      go_ret
      rw [hM.out]
      exact ⟨rfl, _, hRA.below (belowDrew (Below.refl _ W1) n2), .inl rfl, ht.drewN n2⟩
    · have hM := Lib.hid (HM2.out rfl h300)
      go_enter Tryd.func41, Tryd.ntmps41
      go_wp2_with fail
      rw [← Hbx.out]
      clear v0
      generalize w.alloc (.cells #[.string xp, .int .i64 xi, .bool xd, .string xs] 38) = W1 at *
      refine HS.out.mono ?_
      rintro e w2 ⟨rfl, n2, rfl⟩
      have hR2 := hRA.below (belowDrew (Below.refl _ W1) n2)
      have hV2 := hV.drew n2
      have ht2 := ht.drewN n2
      have hts2 := hts.drewN n2
      generalize W1.drewN n2 = W2 at *
      have k1 := hR2.var.2.2 1 _ rfl
      have f1 := hR2.var.2.1 1
      have k0 := hR2.var.2.2 0 _ rfl
      have hV3 := hV2.other (k := rb) (i := 1) (.int .i64 ((f.n : Int) + 1)) (by omega)
      have b1 := hV3.2.2 1 _ rfl
      have g1 := hV3.2.1 1
      go_wp2_with fail
      have hX := (hR2.var.set 1 (.int .i64 ((f.n : Int) + 1)) (by simp)).other (k := bx) (i := 1) (.int .i64 ((f.n : Int) + 1)) (by omega)
      have hY := hV3.set 1 (.int .i64 ((f.n : Int) + 1)) (by simp)
      have hbxw : bx = w.heap.size := Hbx.out
      have ht3 := (ht2.set 1 (.int .i64 ((f.n : Int) + 1)) (b := rb) (fun _ => .inl rfl)).set 1 (.int .i64 ((f.n : Int) + 1)) (b := bx) (fun e => by omega)
      have hts3 := (hts2.set 1 (.int .i64 ((f.n : Int) + 1)) (b := rb) (fun _ => rfl)).set 1 (.int .i64 ((f.n : Int) + 1)) (b := bx) (fun e => by omega)
      have hrow3 := hrow0.turned hts3 hnrb
      have hz3 := hts3.size
      generalize (W2.setCell ⟨rb, 1, none⟩ (.int .i64 ((f.n : Int) + 1))).setCell ⟨bx, 1, none⟩ (.int .i64 ((f.n : Int) + 1)) = W3 at *
      dsimp only [List.set] at hX hY
      clear hbxw hV3 hR2 hV2 ht2 hts2 k1 f1 k0 b1 g1 hts hts3 ht hrow hrow0 hRA hV HS hal c0
      have k0 : W3.drew.cell? ⟨rb, 0, none⟩ = some (.slice av f.es.length cv) := hX.2.2 0 _ rfl
      have y0 : W3.drew.cell? ⟨bx, 0, none⟩ = some (.string xp) := hY.2.2 0 _ rfl
      have y1 : W3.drew.cell? ⟨bx, 1, none⟩ = some (.int .i64 ((f.n : Int) + 1)) := hY.2.2 1 _ rfl
      have y2 : W3.drew.cell? ⟨bx, 2, none⟩ = some (.bool xd) := hY.2.2 2 _ rfl
      have y3 : W3.drew.cell? ⟨bx, 3, none⟩ = some (.string xs) := hY.2.2 3 _ rfl
      have l0 : W3.cell? ⟨rb, 0, none⟩ = some (.slice av f.es.length cv) := hX.2.2 0 _ rfl
      have m0 : W3.cell? ⟨bx, 0, none⟩ = some (.string xp) := hY.2.2 0 _ rfl
      have m1 : W3.cell? ⟨bx, 1, none⟩ = some (.int .i64 ((f.n : Int) + 1)) := hY.2.2 1 _ rfl
      have m2 : W3.cell? ⟨bx, 2, none⟩ = some (.bool xd) := hY.2.2 2 _ rfl
      have m3 : W3.cell? ⟨bx, 3, none⟩ = some (.string xs) := hY.2.2 3 _ rfl
      have HP := Lib.hid fun W h => rput_any av cv f.es ⟨xp, (f.n : Int) + 1, xd, xs⟩ W h (by omega)
      have HX := Lib.hid hX
      have HRW := Lib.hid hrow3
      clear hX hY hrow3
      go_region_law ((go_simp; go_at_call 44; refine (HP.out _ (by exact HRW.out)).mono ?_; rintro e w4 ⟨v', rfl, ho4, hb4⟩; obtain ⟨av2, cv2, rfl, hrow2, hcv2⟩ := ho4.read; have hX4 := VarAt.keeps (W := W3.drew) HX.out hb4 HX.out.1; have q0 := hX4.2.2 0 _ rfl; have qf := hX4.2.1 0))
      all_goals
        go_wp2_with fail
        go_ret
        rw [hM.out]
        have hz4 := hb4.size
        have hzd : W3.drew.heap.size = W3.heap.size := rfl
        refine ⟨rfl, _, ⟨hX4.set 0 _ (by simp), (ho4.turned (S := fun k => k = rb) ((Turned.refl _ _ _).set 0 _ (fun _ => rfl)) (fun k hk => by rw [hk]; omega)).lower (by omega), fun e => ?_⟩, .inr fun k hk => ?_, ((ht3.drewN 1).trans (Turned.of_below (W := W3.drewN 1) hb4 (by omega))).set 0 _ (fun _ => .inl rfl)⟩
        · have := (ho4.lt e).1
          omega
        · have := (ho4.lt hk).1
          omega
end Go.Proofs.YtgjgeojhhglidaaDoor
