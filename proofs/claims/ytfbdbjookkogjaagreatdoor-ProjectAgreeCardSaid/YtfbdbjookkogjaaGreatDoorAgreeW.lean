/-
  Two filters that both have a path show the same there: the plain law. Two filters that both have a path show the same there: the law.
-/
import Derived.Test.YtfbdbjookkogjaaGreatDoorShownG
import Derived.Test.YtfbdbjookkogjaaGreatDoorViewF2
import Derived.Lib.QuietBelow
import Derived.BigQuiet
namespace Go.Proofs.YtfbdbjookkogjaaGreatDoor
open Go Go.RowKit
theorem sortI_perm {l : List Itm} (h : l.Pairwise fun x y => pI x ≠ pI y) : (sortI l).Perm l := by
  have h1 := (sortI_does l [] List.Pairwise.nil (by simpa using h)).2
  rw [List.nil_append] at h1
  exact h1
theorem viewF_unlike (nodes : List Nd) : (viewF nodes).1.Pairwise fun x y => pI x ≠ pI y := by
  unfold viewF
  split
  · rename_i h
    obtain ⟨new, e, _, hp⟩ := down_adds nodes 16 0 0 ⟨#[]⟩ [] h
    rw [List.nil_append] at e
    have hp2 : (downV nodes 16 0 0 ⟨#[]⟩ []).1.Pairwise fun x y => pI x ≠ pI y := by rw [e]; exact hp
    exact ((sortI_perm hp2).symm.pairwise_iff (fun h => Ne.symm h)).1 hp2
  · exact List.Pairwise.nil
theorem show_path {l : List Rul} {xs : List Itm} {x y : Itm} (h : showG l xs x = some y) : y.path = x.path ∧ y.cnt = x.cnt ∧ y.who = x.who ∧ y.dir = x.dir := by
  unfold showG at h
  split at h
  · cases h
    exact ⟨rfl, rfl, rfl, rfl⟩
  · split at h
    · cases h
      exact ⟨rfl, rfl, rfl, rfl⟩
    · cases h
theorem isPath_iff {s : ByteArray} {x : Itm} : isPath s x = true ↔ pI x = s.data.toList := by
  unfold isPath pI
  rw [beq_iff_eq, ByteArray.toList_eq, ByteArray.toList_eq]
theorem find_show {f : Itm → Option Itm} (hf : ∀ x y, f x = some y → y.path = x.path) : ∀ (xs : List Itm), (xs.Pairwise fun x y => pI x ≠ pI y) → ∀ x y, x ∈ xs → f x = some y → findI (isPath x.path) (xs.filterMap f) = (y, true)
  | [], _, x, y, hx, _ => by simp at hx
  | z :: r, hp, x, y, hx, hy => by
    obtain ⟨h1, h2⟩ := List.pairwise_cons.1 hp
    rw [List.filterMap_cons]
    rcases List.mem_cons.1 hx with rfl | hx
    · rw [hy]
      unfold findI
      have : isPath x.path y = true := isPath_iff.2 (by unfold pI; rw [hf x y hy])
      dsimp only
      rw [List.find?_cons_of_pos this]
    · have ih := find_show hf r h2 x y hx hy
      cases hz : f z with
      | none => exact ih
      | some z' =>
        have hne : ¬ isPath x.path z' = true := fun e => by
          have e2 := isPath_iff.1 e
          have e3 : pI z' = pI z := by unfold pI; rw [hf z z' hz]
          exact h1 x hx (e3.symm.trans e2)
        unfold findI at ih ⊢
        dsimp only
        rw [List.find?_cons_of_neg hne]
        exact ih
theorem find_proj {l : List Rul} {xs : List Itm} (hp : xs.Pairwise fun x y => pI x ≠ pI y) {x y : Itm} (hx : x ∈ xs) (hy : showG l xs x = some y) : findI (isPath x.path) (projG l xs xs.length) = (y, true) := by
  unfold projG
  rw [List.take_length]
  exact find_show (fun x y h => (show_path h).1) xs hp x y hx hy
theorem show_has {l : List Rul} {xs : List Itm} {x : Itm} (hg : GoodI x) (h : matchG l x.path x.dir = true) : showG l xs x = some x := by
  unfold showG inG
  rw [if_pos h]
  have := hg.1
  obtain ⟨a, b, c, d, e, f⟩ := x
  dsimp only at this
  subst this
  rfl
end Go.Proofs.YtfbdbjookkogjaaGreatDoor

namespace Go.Proofs.YtfbdbjookkogjaaGreatDoor
open Go Go.RowKit Go.Lib
def OKR (w : World) (b : Option Addr) (r : List Rul) (x : Itm) (m : Bool) : Prop := (∀ W, Below w.heap.size w W → RowsAt rulLay W b r) ∧ r.length ≤ 30 ∧ (∀ y ∈ r, y.text.size ≤ 500) ∧ matchG r x.path x.dir = m
theorem okr_match {w wr : World} {b : Option Addr} {d : Nat} {r : List Rul} {x : Itm} {m : Bool} (h : OKR w b r x m) (hw : Below w.heap.size w wr) (hp : x.path.size ≤ 1000) (dq : Nat) (osq : Array Obj) :
    Calls Tryz.prog 9 #[.slice b r.length d, .string x.path, .bool x.dir] («Sort».grow (redrawn wr dq) osq) fun e w' => e = .returned (.bool m) ∧ Below («Sort».grow (redrawn wr dq) osq).heap.size («Sort».grow (redrawn wr dq) osq) w' := by
  obtain ⟨h1, h2, h3, h4⟩ := h
  rw [← h4]
  exact match_any b d r x.path x.dir _ (fun y hy => by have := h3 y hy; omega) (by omega) (by omega) (h1 _ (hw.trans ((below_regrown wr dq osq).mono hw.size)))
theorem shown_ok {ops : List Opr} {rules : List Rul} {l p : List Itm} (h : shownF ops rules = (l, p, true)) : l = (viewF (foldT ops)).1 ∧ p = projG rules l l.length ∧ ops.length ≤ 60 ∧ rules.length ≤ 30 ∧ ∀ x ∈ rules, x.text.size ≤ 500 := by
  unfold shownF at h
  split at h
  · rename_i h1
    rw [Bool.and_eq_true] at h1
    have h2 := h1.1
    unfold okOps at h2
    rw [Bool.and_eq_true] at h2
    obtain ⟨e1, e2⟩ := Prod.mk.inj h
    obtain ⟨e2, _⟩ := Prod.mk.inj e2
    subst e1
    exact ⟨rfl, e2.symm, of_decide_eq_true h2.1, (fewP_parts h1.2).2.1, (fewP_parts h1.2).2.2.2⟩
  · cases h
set_option maxRecDepth 100000 in
set_option maxHeartbeats 6400000 in
theorem law_projectAgree (a : Option Addr) (cap : Nat) (ops : List Opr) (b1 : Option Addr) (d1 : Nat) (r1 : List Rul) (b2 : Option Addr) (d2 : Nat) (r2 : List Rul) (w : World) (hl : ops.length ≤ 140737488351232) (ha : RowsAt oprLay w a ops) (hx : ∀ x ∈ ops, OpW x)
    (_ : r1.length ≤ 140737488351232) (hr1 : RowsAt rulLay w b1 r1) (_ : r2.length ≤ 140737488351232) (hr2 : RowsAt rulLay w b2 r2) (hT : Tab w) :
    Calls Tryz.prog 4 #[.slice a ops.length cap, .slice b1 r1.length d1, .slice b2 r2.length d2] w fun e w' => e = .returned (.bool true) ∧ Below w.heap.size w w' := by
  have h1 := shown_any a b1 cap d1 ops r1 w hl ha hx hr1 hT
  have h2 := fun W (h : Below w.heap.size w W) => shown_any a b2 cap d2 ops r2 W hl (ha.keeps h) hx (hr2.keeps h) (tab_keeps hT h)
  have HR1 := Lib.hid fun W (h : Below w.heap.size w W) => hr1.keeps h
  have HR2 := Lib.hid fun W (h : Below w.heap.size w W) => hr2.keeps h
  obtain ⟨R1, hR1⟩ : ∃ R, shownF ops r1 = R := ⟨_, rfl⟩
  obtain ⟨R2, hR2⟩ : ∃ R, shownF ops r2 = R := ⟨_, rfl⟩
  rw [hR1] at h1
  rw [hR2] at h2
  obtain ⟨l1, p1, k1⟩ := R1
  obtain ⟨l2, p2, k2⟩ := R2
  dsimp only at h1 h2
  have H1 := Lib.hid h1
  have H2 := Lib.hid h2
  have S1 := Lib.hid hR1
  have S2 := Lib.hid hR2
  have HAW := Lib.hid fun W => awake12_any W
  clear h1 h2 ha hx hr1 hr2 hT hR1 hR2
  go_enter Tryz.func4, Tryz.ntmps4
  go_wp2_with fail
  refine H1.out.mono ?_
  rintro e w2 ⟨a1, c1, a2, c2, rfl, hl1, hp1, hb2⟩
  go_wp2_with fail
  refine (H2.out w2 hb2).mono ?_
  rintro e w3 ⟨a3, c3, a4, c4, rfl, _, hp2, hb3⟩
  have hbw := hb2.trans (hb3.mono hb2.size)
  replace hl1 := hl1.keeps hb3
  replace hp1 := hp1.keeps hb3
  clear hb2 hb3
  cases k1 with
  | false =>
    go_wp2_with fail
    refine (HAW.out _).mono ?_
    rintro e w5 ⟨rfl, hb5⟩
    go_wp2_with fail
    go_ret
    exact ⟨rfl, hbw.trans (hb5.mono hbw.size)⟩
  | true =>
    cases k2 with
    | false =>
      go_wp2_with fail
      refine (HAW.out _).mono ?_
      rintro e w5 ⟨rfl, hb5⟩
      go_wp2_with fail
      go_ret
      exact ⟨rfl, hbw.trans (hb5.mono hbw.size)⟩
    | true =>
      obtain ⟨e1, e2, h60, hq1, hq2⟩ := shown_ok S1.out
      obtain ⟨e3, e4, _, hq3, hq4⟩ := shown_ok S2.out
      have hun := viewF_unlike (foldT ops)
      have hgd := viewF_good (foldT ops)
      have hvl := view_len (foldT ops)
      have hfl := foldT_len ops
      rw [← e1] at hun hgd hvl e3
      obtain ⟨xs, hxs⟩ : ∃ xs, l1 = xs := ⟨_, rfl⟩
      subst hxs
      subst e2
      have e5 : l2 = l1 := e3
      subst e5
      subst e4
      have hpl1 := projG_len r1 l2 l2.length
      have hpl2 := projG_len r2 l2 l2.length
      have Hun := Lib.hid hun
      have Hgd := Lib.hid hgd
      have Hq := Lib.hid (And.intro hq1 (And.intro hq2 (And.intro hq3 hq4)))
      have HL := Lib.hid fun W (h : Below w3.heap.size w3 W) => hl1.keeps h
      have HP1 := Lib.hid fun W (h : Below w3.heap.size w3 W) => hp1.keeps h
      have HP2 := Lib.hid fun W (h : Below w3.heap.size w3 W) => hp2.keeps h
      have hxl : l2.length ≤ 60 := by omega
      obtain ⟨pp1, hpp1⟩ : ∃ pp, projG r1 l2 l2.length = pp := ⟨_, rfl⟩
      obtain ⟨pp2, hpp2⟩ : ∃ pp, projG r2 l2 l2.length = pp := ⟨_, rfl⟩
      rw [hpp1] at HP1 hpl1 ⊢
      rw [hpp2] at HP2 hpl2 ⊢
      have Hpp1 := Lib.hid hpp1
      have Hpp2 := Lib.hid hpp2
      clear e1 hun hgd hvl hfl hq1 hq2 hq3 hq4 hl1 hp1 hp2 hpp1 hpp2 H1 H2 S1 S2 e3
      go_wp2_with fail
      go_loopw [13] (fun i wr => ∃ k : Nat, k ≤ l2.length ∧ i = .int .i64 k ∧ Below w3.heap.size w3 wr) (fun i _ => l2.length - (RowKit.intOf i).toNat)
      case atStart => exact ⟨0, Nat.zero_le _, rfl, Below.refl _ _⟩
      case round =>
        obtain ⟨k, hk, rfl, hb⟩ := hrel
        by_cases hlt : k < l2.length
        · obtain ⟨x, hx⟩ := at_some hlt
          have Hx := Lib.hid hx
          obtain ⟨b, off, hae, hbl, z0, z1, z2, z3, z4, z5⟩ := itm_at (HL.out wr hb) hx
          subst hae
          have hxm := List.mem_of_getElem? hx
          have hlti : (k : Int) < (l2.length : Int) := by omega
          have hlt0 : (0 : Int) ≤ (k : Int) := by omega
          have hpz := (Hgd.out x hxm).2
          have hw := hbw.trans (hb.mono hbw.size)
          obtain ⟨m1, hm1⟩ : ∃ m, matchG r1 x.path x.dir = m := ⟨_, rfl⟩
          obtain ⟨m2, hm2⟩ : ∃ m, matchG r2 x.path x.dir = m := ⟨_, rfl⟩
          have K1 : OKR w b1 r1 x m1 := ⟨HR1.out, Hq.out.1, Hq.out.2.1, hm1⟩
          have K2 : OKR w b2 r2 x m2 := ⟨HR2.out, Hq.out.2.2.1, Hq.out.2.2.2, hm2⟩
          have HMg := Lib.hid fun (b : Option Addr) (d : Nat) (r : List Rul) (m : Bool) (h : OKR w b r x m) (dq : _) (osq : _) => okr_match (wr := wr) (d := d) h hw hpz dq osq
          have HF1 := Lib.hid (show m1 = true → findI (isPath x.path) pp1 = (x, true) from fun h => by rw [← Hpp1.out]; exact find_proj Hun.out hxm (show_has (Hgd.out x hxm) (hm1.trans h)))
          have HF2 := Lib.hid (show m2 = true → findI (isPath x.path) pp2 = (x, true) from fun h => by rw [← Hpp2.out]; exact find_proj Hun.out hxm (show_has (Hgd.out x hxm) (hm2.trans h)))
          clear hx hxm hm1 hm2 hw
          have q0 := cell_regrown z0
          have q1 := cell_regrown z1
          have q2 := cell_regrown z2
          have q3 := cell_regrown z3
          have q4 := cell_regrown z4
          have q5 := cell_regrown z5
          cases m1 with
          | false =>
            go_wp2_with fail
            refine wp_region_quiet_below (by kernel_rfl) (by kernel_rfl) ?_
            repeat (go_big_quiet_step (exact Calls.regrown_of (HMg.out _ _ _ _ (by assumption) _ _)))
            refine wpQuiet_nil ?_
            intro _ hw'
            obtain ⟨⟨dq, osq⟩, hw''⟩ := hw'
            subst hw''
            clear q0 q1 q2 q3 q4 q5
            have hbq := below_regrown wr dq osq
            generalize «Sort».grow (redrawn wr dq) osq = wq at *
            have hbw := hb.trans (hbq.mono hb.size)
            go_wp2_with fail
            go_roundw
            case rel => exact ⟨k + 1, by omega, by go_num, hb.trans (hbq.mono hb.size)⟩
            case measure => simp [RowKit.intOf]; omega
          | true =>
            cases m2 with
            | false =>
              go_wp2_with fail
              refine wp_region_quiet_below (by kernel_rfl) (by kernel_rfl) ?_
              repeat (go_big_quiet_step (exact Calls.regrown_of (HMg.out _ _ _ _ (by assumption) _ _)))
              refine wpQuiet_nil ?_
              intro _ hw'
              obtain ⟨⟨dq, osq⟩, hw''⟩ := hw'
              subst hw''
              clear q0 q1 q2 q3 q4 q5
              have hbq := below_regrown wr dq osq
              generalize «Sort».grow (redrawn wr dq) osq = wq at *
              have hbw := hb.trans (hbq.mono hb.size)
              go_wp2_with fail
              go_roundw
              case rel => exact ⟨k + 1, by omega, by go_num, hb.trans (hbq.mono hb.size)⟩
              case measure => simp [RowKit.intOf]; omega
            | true =>
              have HF1b := Lib.hid (HF1.out rfl)
              have HF2b := Lib.hid (HF2.out rfl)
              clear HF1 HF2
              have HF1 := HF1b
              have HF2 := HF2b
              clear HF1b HF2b
              go_wp2_with fail
              refine wp_region_quiet_below (by kernel_rfl) (by kernel_rfl) ?_
              repeat (go_big_quiet_step (exact Calls.regrown_of (HMg.out _ _ _ _ (by assumption) _ _)))
              refine wpQuiet_nil ?_
              intro _ hw'
              obtain ⟨⟨dq, osq⟩, hw''⟩ := hw'
              subst hw''
              clear q0 q1 q2 q3 q4 q5
              have hbq := below_regrown wr dq osq
              generalize «Sort».grow (redrawn wr dq) osq = wq at *
              have hbw := hb.trans (hbq.mono hb.size)
              have e0 := (hbq.cell (p := ⟨b, off + k * 6, none⟩) hbl).trans z0
              have e1 := (hbq.cell (p := ⟨b, off + k * 6 + 1, none⟩) hbl).trans z1
              have e2 := (hbq.cell (p := ⟨b, off + k * 6 + 2, none⟩) hbl).trans z2
              have e3 := (hbq.cell (p := ⟨b, off + k * 6 + 3, none⟩) hbl).trans z3
              have e4 := (hbq.cell (p := ⟨b, off + k * 6 + 4, none⟩) hbl).trans z4
              have e5 := (hbq.cell (p := ⟨b, off + k * 6 + 5, none⟩) hbl).trans z5
              have hbl2 : b < wq.heap.size := Nat.lt_of_lt_of_le hbl hbq.size
              clear z0 z1 z2 z3 z4 z5 hbl
              have hbl := hbl2
              have HA1 := at_any a2 c2 pp1 x.path wq (by omega) (HP1.out wq hbw)
              rw [HF1.out] at HA1
              dsimp only at HA1
              unfold Itm.agg at HA1
              have HA1b := Lib.hid HA1
              clear HA1
              go_wp2_with fail
              refine (HA1b.out).mono ?_
              rintro e v1 ⟨rfl, hc1⟩
              have hD1 := hbw.trans (hc1.mono hbw.size)
              have hP1 := VarAt.new v1 #[.string x.path, .int .i64 x.cnt, .int .i64 x.who, .bool x.dir, .bool x.ghost, .string x.man] 31
              have hQ1 := hD1.alloc hD1.size (.cells #[.string x.path, .int .i64 x.cnt, .int .i64 x.who, .bool x.dir, .bool x.ghost, .string x.man] 31)
              have hA1 := (Below.refl v1.heap.size v1).alloc (Nat.le_refl _) (.cells #[.string x.path, .int .i64 x.cnt, .int .i64 x.who, .bool x.dir, .bool x.ghost, .string x.man] 31)
              obtain ⟨g1, hg1⟩ : ∃ b, b = v1.heap.size := ⟨_, rfl⟩
              rw [← hg1] at hP1
              obtain ⟨W1, hW1⟩ : ∃ W, W = v1.alloc (.cells #[.string x.path, .int .i64 x.cnt, .int .i64 x.who, .bool x.dir, .bool x.ghost, .string x.man] 31) := ⟨_, rfl⟩
              rw [← hW1] at hP1 hQ1 hA1
              have Hg1 := Lib.hid hg1
              have HW1 := Lib.hid hW1
              clear hg1 hW1
              have hbW1 : Below wq.heap.size wq W1 := hc1.trans (hA1.mono hc1.size)
              have f0 := (hbW1.cell (p := ⟨b, off + k * 6, none⟩) hbl).trans e0
              have f1 := (hbW1.cell (p := ⟨b, off + k * 6 + 1, none⟩) hbl).trans e1
              have f2 := (hbW1.cell (p := ⟨b, off + k * 6 + 2, none⟩) hbl).trans e2
              have f3 := (hbW1.cell (p := ⟨b, off + k * 6 + 3, none⟩) hbl).trans e3
              have f4 := (hbW1.cell (p := ⟨b, off + k * 6 + 4, none⟩) hbl).trans e4
              have f5 := (hbW1.cell (p := ⟨b, off + k * 6 + 5, none⟩) hbl).trans e5
              have HA2 := at_any a4 c4 pp2 x.path W1 (by omega) (HP2.out W1 hQ1)
              rw [HF2.out] at HA2
              dsimp only at HA2
              unfold Itm.agg at HA2
              have HA2b := Lib.hid HA2
              clear HA2 e0 e1 e2 e3 e4 e5 HA1b
              have hblW : b < W1.heap.size := Nat.lt_of_lt_of_le hbl hbW1.size
              go_upto_region 10 with fail
              rw [← Hg1.out, ← HW1.out]
              go_wp2_with fail
              refine (HA2b.out).mono ?_
              rintro e v2 ⟨rfl, hc2⟩
              have hD2 := hQ1.trans (hc2.mono hQ1.size)
              have hP2 := VarAt.new v2 #[.string x.path, .int .i64 x.cnt, .int .i64 x.who, .bool x.dir, .bool x.ghost, .string x.man] 31
              have hQ2 := hD2.alloc hD2.size (.cells #[.string x.path, .int .i64 x.cnt, .int .i64 x.who, .bool x.dir, .bool x.ghost, .string x.man] 31)
              have hA2 := (Below.refl v2.heap.size v2).alloc (Nat.le_refl _) (.cells #[.string x.path, .int .i64 x.cnt, .int .i64 x.who, .bool x.dir, .bool x.ghost, .string x.man] 31)
              obtain ⟨g2, hg2⟩ : ∃ b, b = v2.heap.size := ⟨_, rfl⟩
              rw [← hg2] at hP2
              obtain ⟨W2, hW2⟩ : ∃ W, W = v2.alloc (.cells #[.string x.path, .int .i64 x.cnt, .int .i64 x.who, .bool x.dir, .bool x.ghost, .string x.man] 31) := ⟨_, rfl⟩
              rw [← hW2] at hP2 hQ2 hA2
              have Hg2 := Lib.hid hg2
              have HW2 := Lib.hid hW2
              clear hg2 hW2
              have hbW2 : Below W1.heap.size W1 W2 := hc2.trans (hA2.mono hc2.size)
              have hP1' := hP1.keeps hbW2 hP1.1
              have s0 := (hbW2.cell (p := ⟨b, off + k * 6, none⟩) hblW).trans f0
              have s1 := (hbW2.cell (p := ⟨b, off + k * 6 + 1, none⟩) hblW).trans f1
              have s2 := (hbW2.cell (p := ⟨b, off + k * 6 + 2, none⟩) hblW).trans f2
              have s3 := (hbW2.cell (p := ⟨b, off + k * 6 + 3, none⟩) hblW).trans f3
              have s4 := (hbW2.cell (p := ⟨b, off + k * 6 + 4, none⟩) hblW).trans f4
              have s5 := (hbW2.cell (p := ⟨b, off + k * 6 + 5, none⟩) hblW).trans f5
              have u0 := hP1'.2.2 0 _ rfl
              have u1 := hP1'.2.2 1 _ rfl
              have u2 := hP1'.2.2 2 _ rfl
              have u3 := hP1'.2.2 3 _ rfl
              have u4 := hP1'.2.2 4 _ rfl
              have u5 := hP1'.2.2 5 _ rfl
              have v0 := hP2.2.2 0 _ rfl
              have v1 := hP2.2.2 1 _ rfl
              have v2 := hP2.2.2 2 _ rfl
              have v3 := hP2.2.2 3 _ rfl
              have v4 := hP2.2.2 4 _ rfl
              have v5 := hP2.2.2 5 _ rfl
              have heq : ∀ w, (binOp .neq 31 (.agg #[.string x.path, .int .i64 x.cnt, .int .i64 x.who, .bool x.dir, .bool x.ghost, .string x.man]) (.agg #[.string x.path, .int .i64 x.cnt, .int .i64 x.who, .bool x.dir, .bool x.ghost, .string x.man])).run Tryz.prog w = .ok (.bool false) w := fun w => by have := neqItm x x w; simpa using this
              clear f0 f1 f2 f3 f4 f5 HA2b
              go_upto_region 11 with fail
              rw [← Hg2.out, ← HW2.out]
              go_wp2_with fail
              go_quiet (fail)
              go_wp2_with fail
              go_roundw
              case rel => exact ⟨k + 1, by omega, by go_num, belowDrew hQ2 nq⟩
              case measure => simp [RowKit.intOf]; omega
        · obtain rfl : k = l2.length := by omega
          have hwr := hbw.trans (hb.mono hbw.size)
          go_wp2_with fail
          refine (HAW.out _).mono ?_
          rintro e w5 ⟨rfl, hb5⟩
          go_wp2_with fail
          go_ret
          exact ⟨rfl, hwr.trans (hb5.mono hwr.size)⟩
end Go.Proofs.YtfbdbjookkogjaaGreatDoor

