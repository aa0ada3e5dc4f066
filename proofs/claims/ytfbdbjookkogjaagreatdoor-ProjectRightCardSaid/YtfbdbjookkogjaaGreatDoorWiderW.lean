/-
  Two filters that both have a path show the same there: the plain law. Two filters that both have a path show the same there: the law. A With rule more shows no less: the plain law. A With rule more shows no less: the law. How the items of a tree stand below one another: plain law. What a filter shows stands in directories that are shown: the plain law. What a filter shows: its directories, what makes a ghost, how many are real (plain law).
-/
import Derived.Test.YtfbdbjookkogjaaGreatDoorShownG
import Derived.Test.YtfbdbjookkogjaaGreatDoorViewF2
import Derived.Lib.QuietBelow
import Derived.BigQuiet
import Derived.Test.YtfbdbjookkogjaaGreatDoorViewPure
namespace Go.Proofs.YtfbdbjookkogjaaGreatDoor
open Go Go.RowKit
theorem sortI_perm {l : List Itm} (h : l.Pairwise fun x y => pI x ≠ pI y) : (sortI l).Perm l := by
  have h1 := (sortI_does l [] List.Pairwise.nil (by simpa using h)).2
  rw [List.nil_append] at h1
  exact h1
theorem viewF_unlike (nodes : List Nd) : (viewF nodes).1.Pairwise fun x y => pI x ≠ pI y := by
  unfold viewF
  split
  · rename_i h
    obtain ⟨new, e, _, hp⟩ := down_adds nodes 16 0 0 ⟨#[]⟩ [] h
    rw [List.nil_append] at e
    have hp2 : (downV nodes 16 0 0 ⟨#[]⟩ []).1.Pairwise fun x y => pI x ≠ pI y := by rw [e]; exact hp
    exact ((sortI_perm hp2).symm.pairwise_iff (fun h => Ne.symm h)).1 hp2
  · exact List.Pairwise.nil
theorem show_path {l : List Rul} {xs : List Itm} {x y : Itm} (h : showG l xs x = some y) : y.path = x.path ∧ y.cnt = x.cnt ∧ y.who = x.who ∧ y.dir = x.dir := by
  unfold showG at h
  split at h
  · cases h
    exact ⟨rfl, rfl, rfl, rfl⟩
  · split at h
    · cases h
      exact ⟨rfl, rfl, rfl, rfl⟩
    · cases h
theorem isPath_iff {s : ByteArray} {x : Itm} : isPath s x = true ↔ pI x = s.data.toList := by
  unfold isPath pI
  rw [beq_iff_eq, ByteArray.toList_eq, ByteArray.toList_eq]
theorem find_show {f : Itm → Option Itm} (hf : ∀ x y, f x = some y → y.path = x.path) : ∀ (xs : List Itm), (xs.Pairwise fun x y => pI x ≠ pI y) → ∀ x y, x ∈ xs → f x = some y → findI (isPath x.path) (xs.filterMap f) = (y, true)
  | [], _, x, y, hx, _ => by simp at hx
  | z :: r, hp, x, y, hx, hy => by
    obtain ⟨h1, h2⟩ := List.pairwise_cons.1 hp
    rw [List.filterMap_cons]
    rcases List.mem_cons.1 hx with rfl | hx
    · rw [hy]
      unfold findI
      have : isPath x.path y = true := isPath_iff.2 (by unfold pI; rw [hf x y hy])
      dsimp only
      rw [List.find?_cons_of_pos this]
    · have ih := find_show hf r h2 x y hx hy
      cases hz : f z with
      | none => exact ih
      | some z' =>
        have hne : ¬ isPath x.path z' = true := fun e => by
          have e2 := isPath_iff.1 e
          have e3 : pI z' = pI z := by unfold pI; rw [hf z z' hz]
          exact h1 x hx (e3.symm.trans e2)
        unfold findI at ih ⊢
        dsimp only
        rw [List.find?_cons_of_neg hne]
        exact ih
theorem find_proj {l : List Rul} {xs : List Itm} (hp : xs.Pairwise fun x y => pI x ≠ pI y) {x y : Itm} (hx : x ∈ xs) (hy : showG l xs x = some y) : findI (isPath x.path) (projG l xs xs.length) = (y, true) := by
  unfold projG
  rw [List.take_length]
  exact find_show (fun x y h => (show_path h).1) xs hp x y hx hy
theorem show_has {l : List Rul} {xs : List Itm} {x : Itm} (hg : GoodI x) (h : matchG l x.path x.dir = true) : showG l xs x = some x := by
  unfold showG inG
  rw [if_pos h]
  have := hg.1
  obtain ⟨a, b, c, d, e, f⟩ := x
  dsimp only at this
  subst this
  rfl
end Go.Proofs.YtfbdbjookkogjaaGreatDoor

namespace Go.Proofs.YtfbdbjookkogjaaGreatDoor
open Go Go.RowKit Go.Lib
def OKR (w : World) (b : Option Addr) (r : List Rul) (x : Itm) (m : Bool) : Prop := (∀ W, Below w.heap.size w W → RowsAt rulLay W b r) ∧ r.length ≤ 30 ∧ (∀ y ∈ r, y.text.size ≤ 500) ∧ matchG r x.path x.dir = m
theorem okr_match {w wr : World} {b : Option Addr} {d : Nat} {r : List Rul} {x : Itm} {m : Bool} (h : OKR w b r x m) (hw : Below w.heap.size w wr) (hp : x.path.size ≤ 1000) (dq : Nat) (osq : Array Obj) :
    Calls Tryz.prog 9 #[.slice b r.length d, .string x.path, .bool x.dir] («Sort».grow (redrawn wr dq) osq) fun e w' => e = .returned (.bool m) ∧ Below («Sort».grow (redrawn wr dq) osq).heap.size («Sort».grow (redrawn wr dq) osq) w' := by
  obtain ⟨h1, h2, h3, h4⟩ := h
  rw [← h4]
  exact match_any b d r x.path x.dir _ (fun y hy => by have := h3 y hy; omega) (by omega) (by omega) (h1 _ (hw.trans ((below_regrown wr dq osq).mono hw.size)))
theorem shown_ok {ops : List Opr} {rules : List Rul} {l p : List Itm} (h : shownF ops rules = (l, p, true)) : l = (viewF (foldT ops)).1 ∧ p = projG rules l l.length ∧ ops.length ≤ 60 ∧ rules.length ≤ 30 ∧ ∀ x ∈ rules, x.text.size ≤ 500 := by
  unfold shownF at h
  split at h
  · rename_i h1
    rw [Bool.and_eq_true] at h1
    have h2 := h1.1
    unfold okOps at h2
    rw [Bool.and_eq_true] at h2
    obtain ⟨e1, e2⟩ := Prod.mk.inj h
    obtain ⟨e2, _⟩ := Prod.mk.inj e2
    subst e1
    exact ⟨rfl, e2.symm, of_decide_eq_true h2.1, (fewP_parts h1.2).2.1, (fewP_parts h1.2).2.2.2⟩
  · cases h
set_option maxRecDepth 100000 in
set_option maxHeartbeats 6400000 in
theorem law_projectAgree (a : Option Addr) (cap : Nat) (ops : List Opr) (b1 : Option Addr) (d1 : Nat) (r1 : List Rul) (b2 : Option Addr) (d2 : Nat) (r2 : List Rul) (w : World) (hl : ops.length ≤ 140737488351232) (ha : RowsAt oprLay w a ops) (hx : ∀ x ∈ ops, OpW x)
    (_ : r1.length ≤ 140737488351232) (hr1 : RowsAt rulLay w b1 r1) (_ : r2.length ≤ 140737488351232) (hr2 : RowsAt rulLay w b2 r2) (hT : Tab w) :
    Calls Tryz.prog 4 #[.slice a ops.length cap, .slice b1 r1.length d1, .slice b2 r2.length d2] w fun e w' => e = .returned (.bool true) ∧ Below w.heap.size w w' := by
  have h1 := shown_any a b1 cap d1 ops r1 w hl ha hx hr1 hT
  have h2 := fun W (h : Below w.heap.size w W) => shown_any a b2 cap d2 ops r2 W hl (ha.keeps h) hx (hr2.keeps h) (tab_keeps hT h)
  have HR1 := Lib.hid fun W (h : Below w.heap.size w W) => hr1.keeps h
  have HR2 := Lib.hid fun W (h : Below w.heap.size w W) => hr2.keeps h
  obtain ⟨R1, hR1⟩ : ∃ R, shownF ops r1 = R := ⟨_, rfl⟩
  obtain ⟨R2, hR2⟩ : ∃ R, shownF ops r2 = R := ⟨_, rfl⟩
  rw [hR1] at h1
  rw [hR2] at h2
  obtain ⟨l1, p1, k1⟩ := R1
  obtain ⟨l2, p2, k2⟩ := R2
  dsimp only at h1 h2
  have H1 := Lib.hid h1
  have H2 := Lib.hid h2
  have S1 := Lib.hid hR1
  have S2 := Lib.hid hR2
  have HAW := Lib.hid fun W => awake12_any W
  clear h1 h2 ha hx hr1 hr2 hT hR1 hR2
  go_enter Tryz.func4, Tryz.ntmps4
  go_wp2_with fail
  refine H1.out.mono ?_
  rintro e w2 ⟨a1, c1, a2, c2, rfl, hl1, hp1, hb2⟩
  go_wp2_with fail
  refine (H2.out w2 hb2).mono ?_
  rintro e w3 ⟨a3, c3, a4, c4, rfl, _, hp2, hb3⟩
  have hbw := hb2.trans (hb3.mono hb2.size)
  replace hl1 := hl1.keeps hb3
  replace hp1 := hp1.keeps hb3
  clear hb2 hb3
  cases k1 with
  | false =>
    go_wp2_with fail
    refine (HAW.out _).mono ?_
    rintro e w5 ⟨rfl, hb5⟩
    go_wp2_with fail
    go_ret
    exact ⟨rfl, hbw.trans (hb5.mono hbw.size)⟩
  | true =>
    cases k2 with
    | false =>
      go_wp2_with fail
      refine (HAW.out _).mono ?_
      rintro e w5 ⟨rfl, hb5⟩
      go_wp2_with fail
      go_ret
      exact ⟨rfl, hbw.trans (hb5.mono hbw.size)⟩
    | true =>
      obtain ⟨e1, e2, h60, hq1, hq2⟩ := shown_ok S1.out
      obtain ⟨e3, e4, _, hq3, hq4⟩ := shown_ok S2.out
      have hun := viewF_unlike (foldT ops)
      have hgd := viewF_good (foldT ops)
      have hvl := view_len (foldT ops)
      have hfl := foldT_len ops
      rw [← e1] at hun hgd hvl e3
      obtain ⟨xs, hxs⟩ : ∃ xs, l1 = xs := ⟨_, rfl⟩
      subst hxs
      subst e2
      have e5 : l2 = l1 := e3
      subst e5
      subst e4
      have hpl1 := projG_len r1 l2 l2.length
      have hpl2 := projG_len r2 l2 l2.length
      have Hun := Lib.hid hun
      have Hgd := Lib.hid hgd
      have Hq := Lib.hid (And.intro hq1 (And.intro hq2 (And.intro hq3 hq4)))
      have HL := Lib.hid fun W (h : Below w3.heap.size w3 W) => hl1.keeps h
      have HP1 := Lib.hid fun W (h : Below w3.heap.size w3 W) => hp1.keeps h
      have HP2 := Lib.hid fun W (h : Below w3.heap.size w3 W) => hp2.keeps h
      have hxl : l2.length ≤ 60 := by omega
      obtain ⟨pp1, hpp1⟩ : ∃ pp, projG r1 l2 l2.length = pp := ⟨_, rfl⟩
      obtain ⟨pp2, hpp2⟩ : ∃ pp, projG r2 l2 l2.length = pp := ⟨_, rfl⟩
      rw [hpp1] at HP1 hpl1 ⊢
      rw [hpp2] at HP2 hpl2 ⊢
      have Hpp1 := Lib.hid hpp1
      have Hpp2 := Lib.hid hpp2
      clear e1 hun hgd hvl hfl hq1 hq2 hq3 hq4 hl1 hp1 hp2 hpp1 hpp2 H1 H2 S1 S2 e3
      go_wp2_with fail
      go_loopw [13] (fun i wr => ∃ k : Nat, k ≤ l2.length ∧ i = .int .i64 k ∧ Below w3.heap.size w3 wr) (fun i _ => l2.length - (RowKit.intOf i).toNat)
      case atStart => exact ⟨0, Nat.zero_le _, rfl, Below.refl _ _⟩
      case round =>
        obtain ⟨k, hk, rfl, hb⟩ := hrel
        by_cases hlt : k < l2.length
        · obtain ⟨x, hx⟩ := at_some hlt
          have Hx := Lib.hid hx
          obtain ⟨b, off, hae, hbl, z0, z1, z2, z3, z4, z5⟩ := itm_at (HL.out wr hb) hx
          subst hae
          have hxm := List.mem_of_getElem? hx
          have hlti : (k : Int) < (l2.length : Int) := by omega
          have hlt0 : (0 : Int) ≤ (k : Int) := by omega
          have hpz := (Hgd.out x hxm).2
          have hw := hbw.trans (hb.mono hbw.size)
          obtain ⟨m1, hm1⟩ : ∃ m, matchG r1 x.path x.dir = m := ⟨_, rfl⟩
          obtain ⟨m2, hm2⟩ : ∃ m, matchG r2 x.path x.dir = m := ⟨_, rfl⟩
          have K1 : OKR w b1 r1 x m1 := ⟨HR1.out, Hq.out.1, Hq.out.2.1, hm1⟩
          have K2 : OKR w b2 r2 x m2 := ⟨HR2.out, Hq.out.2.2.1, Hq.out.2.2.2, hm2⟩
          have HMg := Lib.hid fun (b : Option Addr) (d : Nat) (r : List Rul) (m : Bool) (h : OKR w b r x m) (dq : _) (osq : _) => okr_match (wr := wr) (d := d) h hw hpz dq osq
          have HF1 := Lib.hid (show m1 = true → findI (isPath x.path) pp1 = (x, true) from fun h => by rw [← Hpp1.out]; exact find_proj Hun.out hxm (show_has (Hgd.out x hxm) (hm1.trans h)))
          have HF2 := Lib.hid (show m2 = true → findI (isPath x.path) pp2 = (x, true) from fun h => by rw [← Hpp2.out]; exact find_proj Hun.out hxm (show_has (Hgd.out x hxm) (hm2.trans h)))
          clear hx hxm hm1 hm2 hw
          have q0 := cell_regrown z0
          have q1 := cell_regrown z1
          have q2 := cell_regrown z2
          have q3 := cell_regrown z3
          have q4 := cell_regrown z4
          have q5 := cell_regrown z5
          cases m1 with
          | false =>
            go_wp2_with fail
            refine wp_region_quiet_below (by kernel_rfl) (by kernel_rfl) ?_
            repeat (go_big_quiet_step (exact Calls.regrown_of (HMg.out _ _ _ _ (by assumption) _ _)))
            refine wpQuiet_nil ?_
            intro _ hw'
            obtain ⟨⟨dq, osq⟩, hw''⟩ := hw'
            subst hw''
            clear q0 q1 q2 q3 q4 q5
            have hbq := below_regrown wr dq osq
            generalize «Sort».grow (redrawn wr dq) osq = wq at *
            have hbw := hb.trans (hbq.mono hb.size)
            go_wp2_with fail
            go_roundw
            case rel => exact ⟨k + 1, by omega, by go_num, hb.trans (hbq.mono hb.size)⟩
            case measure => simp [RowKit.intOf]; omega
          | true =>
            cases m2 with
            | false =>
              go_wp2_with fail
              refine wp_region_quiet_below (by kernel_rfl) (by kernel_rfl) ?_
              repeat (go_big_quiet_step (exact Calls.regrown_of (HMg.out _ _ _ _ (by assumption) _ _)))
              refine wpQuiet_nil ?_
              intro _ hw'
              obtain ⟨⟨dq, osq⟩, hw''⟩ := hw'
              subst hw''
              clear q0 q1 q2 q3 q4 q5
              have hbq := below_regrown wr dq osq
              generalize «Sort».grow (redrawn wr dq) osq = wq at *
              have hbw := hb.trans (hbq.mono hb.size)
              go_wp2_with fail
              go_roundw
              case rel => exact ⟨k + 1, by omega, by go_num, hb.trans (hbq.mono hb.size)⟩
              case measure => simp [RowKit.intOf]; omega
            | true =>
              have HF1b := Lib.hid (HF1.out rfl)
              have HF2b := Lib.hid (HF2.out rfl)
              clear HF1 HF2
              have HF1 := HF1b
              have HF2 := HF2b
              clear HF1b HF2b
              go_wp2_with fail
              refine wp_region_quiet_below (by kernel_rfl) (by kernel_rfl) ?_
              repeat (go_big_quiet_step (exact Calls.regrown_of (HMg.out _ _ _ _ (by assumption) _ _)))
              refine wpQuiet_nil ?_
              intro _ hw'
              obtain ⟨⟨dq, osq⟩, hw''⟩ := hw'
              subst hw''
              clear q0 q1 q2 q3 q4 q5
              have hbq := below_regrown wr dq osq
              generalize «Sort».grow (redrawn wr dq) osq = wq at *
              have hbw := hb.trans (hbq.mono hb.size)
              have e0 := (hbq.cell (p := ⟨b, off + k * 6, none⟩) hbl).trans z0
              have e1 := (hbq.cell (p := ⟨b, off + k * 6 + 1, none⟩) hbl).trans z1
              have e2 := (hbq.cell (p := ⟨b, off + k * 6 + 2, none⟩) hbl).trans z2
              have e3 := (hbq.cell (p := ⟨b, off + k * 6 + 3, none⟩) hbl).trans z3
              have e4 := (hbq.cell (p := ⟨b, off + k * 6 + 4, none⟩) hbl).trans z4
              have e5 := (hbq.cell (p := ⟨b, off + k * 6 + 5, none⟩) hbl).trans z5
              have hbl2 : b < wq.heap.size := Nat.lt_of_lt_of_le hbl hbq.size
              clear z0 z1 z2 z3 z4 z5 hbl
              have hbl := hbl2
              have HA1 := at_any a2 c2 pp1 x.path wq (by omega) (HP1.out wq hbw)
              rw [HF1.out] at HA1
              dsimp only at HA1
              unfold Itm.agg at HA1
              have HA1b := Lib.hid HA1
              clear HA1
              go_wp2_with fail
              refine (HA1b.out).mono ?_
              rintro e v1 ⟨rfl, hc1⟩
              have hD1 := hbw.trans (hc1.mono hbw.size)
              have hP1 := VarAt.new v1 #[.string x.path, .int .i64 x.cnt, .int .i64 x.who, .bool x.dir, .bool x.ghost, .string x.man] 31
              have hQ1 := hD1.alloc hD1.size (.cells #[.string x.path, .int .i64 x.cnt, .int .i64 x.who, .bool x.dir, .bool x.ghost, .string x.man] 31)
              have hA1 := (Below.refl v1.heap.size v1).alloc (Nat.le_refl _) (.cells #[.string x.path, .int .i64 x.cnt, .int .i64 x.who, .bool x.dir, .bool x.ghost, .string x.man] 31)
              obtain ⟨g1, hg1⟩ : ∃ b, b = v1.heap.size := ⟨_, rfl⟩
              rw [← hg1] at hP1
              obtain ⟨W1, hW1⟩ : ∃ W, W = v1.alloc (.cells #[.string x.path, .int .i64 x.cnt, .int .i64 x.who, .bool x.dir, .bool x.ghost, .string x.man] 31) := ⟨_, rfl⟩
              rw [← hW1] at hP1 hQ1 hA1
              have Hg1 := Lib.hid hg1
              have HW1 := Lib.hid hW1
              clear hg1 hW1
              have hbW1 : Below wq.heap.size wq W1 := hc1.trans (hA1.mono hc1.size)
              have f0 := (hbW1.cell (p := ⟨b, off + k * 6, none⟩) hbl).trans e0
              have f1 := (hbW1.cell (p := ⟨b, off + k * 6 + 1, none⟩) hbl).trans e1
              have f2 := (hbW1.cell (p := ⟨b, off + k * 6 + 2, none⟩) hbl).trans e2
              have f3 := (hbW1.cell (p := ⟨b, off + k * 6 + 3, none⟩) hbl).trans e3
              have f4 := (hbW1.cell (p := ⟨b, off + k * 6 + 4, none⟩) hbl).trans e4
              have f5 := (hbW1.cell (p := ⟨b, off + k * 6 + 5, none⟩) hbl).trans e5
              have HA2 := at_any a4 c4 pp2 x.path W1 (by omega) (HP2.out W1 hQ1)
              rw [HF2.out] at HA2
              dsimp only at HA2
              unfold Itm.agg at HA2
              have HA2b := Lib.hid HA2
              clear HA2 e0 e1 e2 e3 e4 e5 HA1b
              have hblW : b < W1.heap.size := Nat.lt_of_lt_of_le hbl hbW1.size
              go_upto_region 10 with fail
              rw [← Hg1.out, ← HW1.out]
              go_wp2_with fail
              refine (HA2b.out).mono ?_
              rintro e v2 ⟨rfl, hc2⟩
              have hD2 := hQ1.trans (hc2.mono hQ1.size)
              have hP2 := VarAt.new v2 #[.string x.path, .int .i64 x.cnt, .int .i64 x.who, .bool x.dir, .bool x.ghost, .string x.man] 31
              have hQ2 := hD2.alloc hD2.size (.cells #[.string x.path, .int .i64 x.cnt, .int .i64 x.who, .bool x.dir, .bool x.ghost, .string x.man] 31)
              have hA2 := (Below.refl v2.heap.size v2).alloc (Nat.le_refl _) (.cells #[.string x.path, .int .i64 x.cnt, .int .i64 x.who, .bool x.dir, .bool x.ghost, .string x.man] 31)
              obtain ⟨g2, hg2⟩ : ∃ b, b = v2.heap.size := ⟨_, rfl⟩
              rw [← hg2] at hP2
              obtain ⟨W2, hW2⟩ : ∃ W, W = v2.alloc (.cells #[.string x.path, .int .i64 x.cnt, .int .i64 x.who, .bool x.dir, .bool x.ghost, .string x.man] 31) := ⟨_, rfl⟩
              rw [← hW2] at hP2 hQ2 hA2
              have Hg2 := Lib.hid hg2
              have HW2 := Lib.hid hW2
              clear hg2 hW2
              have hbW2 : Below W1.heap.size W1 W2 := hc2.trans (hA2.mono hc2.size)
              have hP1' := hP1.keeps hbW2 hP1.1
              have s0 := (hbW2.cell (p := ⟨b, off + k * 6, none⟩) hblW).trans f0
              have s1 := (hbW2.cell (p := ⟨b, off + k * 6 + 1, none⟩) hblW).trans f1
              have s2 := (hbW2.cell (p := ⟨b, off + k * 6 + 2, none⟩) hblW).trans f2
              have s3 := (hbW2.cell (p := ⟨b, off + k * 6 + 3, none⟩) hblW).trans f3
              have s4 := (hbW2.cell (p := ⟨b, off + k * 6 + 4, none⟩) hblW).trans f4
              have s5 := (hbW2.cell (p := ⟨b, off + k * 6 + 5, none⟩) hblW).trans f5
              have u0 := hP1'.2.2 0 _ rfl
              have u1 := hP1'.2.2 1 _ rfl
              have u2 := hP1'.2.2 2 _ rfl
              have u3 := hP1'.2.2 3 _ rfl
              have u4 := hP1'.2.2 4 _ rfl
              have u5 := hP1'.2.2 5 _ rfl
              have v0 := hP2.2.2 0 _ rfl
              have v1 := hP2.2.2 1 _ rfl
              have v2 := hP2.2.2 2 _ rfl
              have v3 := hP2.2.2 3 _ rfl
              have v4 := hP2.2.2 4 _ rfl
              have v5 := hP2.2.2 5 _ rfl
              have heq : ∀ w, (binOp .neq 31 (.agg #[.string x.path, .int .i64 x.cnt, .int .i64 x.who, .bool x.dir, .bool x.ghost, .string x.man]) (.agg #[.string x.path, .int .i64 x.cnt, .int .i64 x.who, .bool x.dir, .bool x.ghost, .string x.man])).run Tryz.prog w = .ok (.bool false) w := fun w => by have := neqItm x x w; simpa using this
              clear f0 f1 f2 f3 f4 f5 HA2b
              go_upto_region 11 with fail
              rw [← Hg2.out, ← HW2.out]
              go_wp2_with fail
              go_quiet (fail)
              go_wp2_with fail
              go_roundw
              case rel => exact ⟨k + 1, by omega, by go_num, belowDrew hQ2 nq⟩
              case measure => simp [RowKit.intOf]; omega
        · obtain rfl : k = l2.length := by omega
          have hwr := hbw.trans (hb.mono hbw.size)
          go_wp2_with fail
          refine (HAW.out _).mono ?_
          rintro e w5 ⟨rfl, hb5⟩
          go_wp2_with fail
          go_ret
          exact ⟨rfl, hwr.trans (hb5.mono hwr.size)⟩
end Go.Proofs.YtfbdbjookkogjaaGreatDoor

namespace Go.Proofs.YtfbdbjookkogjaaGreatDoor
open Go Go.RowKit
def AllWith (l : List Rul) : Prop := ∀ x ∈ l, x.kind = 1
theorem best_with {p : ByteArray} {l : List Rul} (h : AllWith l) : ∀ k, (bestG p l k).isSome = (l.take k).any fun x => withinG p x.text
  | 0 => rfl
  | k + 1 => by
    cases hx : l[k]? with
    | none =>
      have hk : l.length ≤ k := by
        rw [List.getElem?_eq_none_iff] at hx
        exact hx
      have e1 : bestG p l (k + 1) = bestG p l k := by simp only [bestG, hx]
      rw [e1, best_with h k, List.take_of_length_le hk, List.take_of_length_le (by omega)]
    | some x =>
      rw [bestG_step hx, List.take_add_one, hx, Option.toList_some, List.any_append, ← best_with h k]
      have hk := h x (List.mem_of_getElem? hx)
      have hs : saysG p x = withinG p x.text := by
        unfold saysG
        rw [hk]
        rfl
      rw [hs]
      cases hw : withinG p x.text with
      | false => simp [hw]
      | true =>
        cases hb : bestG p l k with
        | none => simp [hw, betterG]
        | some y =>
          cases betterG (some y) x <;> simp [hw]
theorem match_with {p : ByteArray} {d : Bool} {l : List Rul} (h : AllWith l) : matchG l p d = l.any fun x => withinG p x.text := by
  have h1 := best_with (p := p) h l.length
  rw [List.take_length] at h1
  rw [← h1]
  unfold matchG
  cases hb : bestG p l l.length with
  | none => rfl
  | some y =>
    have hy := h y (bestG_says p l l.length y hb).2
    have ht : (l.any fun x => x.kind == 3) = false := by
      rw [List.any_eq_false]
      intro x hx
      rw [h x hx]
      decide
    simp [hy, ht]
theorem match_more {p : ByteArray} {d : Bool} {l : List Rul} {r : Rul} (h : AllWith l) (hr : r.kind = 1) (hm : matchG l p d = true) : matchG (l ++ [r]) p d = true := by
  have h2 : AllWith (l ++ [r]) := fun x hx => by
    rcases List.mem_append.1 hx with hx | hx
    · exact h x hx
    · rw [List.mem_singleton.1 hx]
      exact hr
  rw [match_with h2, List.any_append, ← match_with (d := d) h, hm, Bool.true_or]
theorem overG_more {l : List Rul} {r : Rul} {xs : List Itm} {d : ByteArray} (h : AllWith l) (hr : r.kind = 1) (ho : overG l xs xs.length d = true) : overG (l ++ [r]) xs xs.length d = true := by
  rw [overG_all] at ho ⊢
  obtain ⟨y, hy, h2⟩ := List.any_eq_true.1 ho
  rw [Bool.and_eq_true] at h2
  refine List.any_eq_true.2 ⟨y, hy, ?_⟩
  rw [Bool.and_eq_true]
  exact ⟨match_more h hr h2.1, h2.2⟩
/-- What is shown is shown by the more rules: it is a ghost only if it was one. -/
theorem show_more {l : List Rul} {r : Rul} {xs : List Itm} {z y : Itm} (h : AllWith l) (hr : r.kind = 1) (hy : showG l xs z = some y) : ∃ y', showG (l ++ [r]) xs z = some y' ∧ (y'.ghost = true → y.ghost = true) ∧ y'.cnt = y.cnt ∧ y'.who = y.who := by
  have hp := show_path hy
  by_cases h1 : inG l z = true
  · have e1 : showG (l ++ [r]) xs z = some { z with ghost := false } := by
      unfold showG
      rw [if_pos (show inG (l ++ [r]) z = true from match_more h hr h1)]
    exact ⟨{ z with ghost := false }, e1, fun (e : false = true) => (by cases e), hp.2.1.symm, hp.2.2.1.symm⟩
  · unfold showG at hy
    rw [if_neg h1] at hy
    split at hy
    · rename_i h2
      rw [Bool.and_eq_true] at h2
      have hg : y.ghost = true := by
        cases hy
        rfl
      by_cases h3 : inG (l ++ [r]) z = true
      · refine ⟨{ z with ghost := false }, by unfold showG; rw [if_pos h3], fun _ => hg, hp.2.1.symm, hp.2.2.1.symm⟩
      · refine ⟨{ z with ghost := true, man := ⟨#[]⟩ }, ?_, fun _ => hg, hp.2.1.symm, hp.2.2.1.symm⟩
        unfold showG
        rw [if_neg h3, if_pos (by rw [h2.1, overG_more h hr h2.2]; rfl)]
    · cases hy
theorem proj_from {l : List Rul} {xs : List Itm} {y : Itm} (h : y ∈ projG l xs xs.length) : ∃ z ∈ xs, showG l xs z = some y := by
  unfold projG at h
  rw [List.take_length, List.mem_filterMap] at h
  exact h
theorem find_more {l : List Rul} {r : Rul} {xs : List Itm} {y : Itm} (hp : xs.Pairwise fun x y => pI x ≠ pI y) (h : AllWith l) (hr : r.kind = 1) (hy : y ∈ projG l xs xs.length) : ∃ y', findI (isPath y.path) (projG (l ++ [r]) xs xs.length) = (y', true) ∧ (y'.ghost = true → y.ghost = true) ∧ y'.cnt = y.cnt ∧ y'.who = y.who := by
  obtain ⟨z, hz, hs⟩ := proj_from hy
  obtain ⟨y', h1, h2, h3, h4⟩ := show_more h hr hs
  refine ⟨y', ?_, h2, h3, h4⟩
  rw [(show_path hs).1]
  exact find_proj hp hz h1
end Go.Proofs.YtfbdbjookkogjaaGreatDoor

namespace Go.Proofs.YtfbdbjookkogjaaGreatDoor
open Go Go.RowKit Go.Lib
theorem wrInfo : (Tryz.prog.info? 39).map (fun i => (i.zero, i.size, i.bytes)) = some (some (.agg #[.int .i64 0, .string ⟨#[]⟩]), 2, 24) := by kernel_rfl
set_option maxRecDepth 100000 in
set_option maxHeartbeats 6400000 in
theorem law_projectWider (a : Option Addr) (cap : Nat) (ops : List Opr) (b1 : Option Addr) (d1 : Nat) (r1 : List Rul) (s : ByteArray) (w : World) (hl : ops.length ≤ 140737488351232) (ha : RowsAt oprLay w a ops) (hx : ∀ x ∈ ops, OpW x)
    (_ : r1.length ≤ 140737488351232) (hr1 : RowsAt rulLay w b1 r1) (hnil : b1 = none → d1 = 0) (_ : s.size ≤ 140737488351232) (hT : Tab w) :
    Calls Tryz.prog 5 #[.slice a ops.length cap, .slice b1 r1.length d1, .string s] w fun e w' => e = .returned (.bool true) ∧ Below w.heap.size w w' := by
  have HAW := Lib.hid fun W => awake12_any W
  by_cases hs : 500 < s.size
  · have e1 : decide ((s.size : Int) > 500) = true := decide_eq_true (by omega)
    have e2 : decide (500 < s.size) = true := decide_eq_true hs
    clear ha hx hr1 hT
    go_enter Tryz.func5, Tryz.ntmps5
    go_wp2_with fail
    refine (HAW.out _).mono ?_
    rintro e w5 ⟨rfl, hb5⟩
    go_wp2_with fail
    go_ret
    exact ⟨rfl, hb5⟩
  have e1 : decide ((s.size : Int) > 500) = false := decide_eq_false (by omega)
  have e2 : decide (500 < s.size) = false := decide_eq_false hs
  have e3 : decide ((500 : Int) < (s.size : Int)) = false := decide_eq_false (by omega)
  by_cases hr20 : 20 < r1.length
  · have q1 : decide ((r1.length : Int) > 20) = true := decide_eq_true (by omega)
    have q2 : decide (20 < r1.length) = true := decide_eq_true hr20
    clear ha hx hr1 hT
    go_enter Tryz.func5, Tryz.ntmps5
    go_wp2_with fail
    refine (HAW.out _).mono ?_
    rintro e w5 ⟨rfl, hb5⟩
    go_wp2_with fail
    go_ret
    exact ⟨rfl, hb5⟩
  have q1 : decide ((r1.length : Int) > 20) = false := decide_eq_false (by omega)
  have q2 : decide (20 < r1.length) = false := decide_eq_false hr20
  have q3 : decide ((20 : Int) < (r1.length : Int)) = false := decide_eq_false (by omega)
  obtain ⟨i0, hi, hz0, hz1, hz2⟩ := info_parts wrInfo
  have Hi := Lib.hid hi
  have Hz0 := Lib.hid hz0
  have Hz1 := Lib.hid hz1
  have Hz2 := Lib.hid hz2
  have h1 := fun W (h : Below w.heap.size w W) => shown_any a b1 cap d1 ops r1 W hl (ha.keeps h) hx (hr1.keeps h) (tab_keeps hT h)
  obtain ⟨rm, hrm0⟩ : ∃ rm, rm = r1 ++ [(⟨1, s⟩ : Rul)] := ⟨_, rfl⟩
  have Hrm := Lib.hid hrm0
  clear hrm0
  have h2 := fun W (h : Below w.heap.size w W) b2 d2 (hr : RowsAt rulLay W b2 rm) => shown_any a b2 cap d2 ops rm W hl (ha.keeps h) hx hr (tab_keeps hT h)
  obtain ⟨R1, hR1⟩ : ∃ R, shownF ops r1 = R := ⟨_, rfl⟩
  obtain ⟨R2, hR2⟩ : ∃ R, shownF ops rm = R := ⟨_, rfl⟩
  rw [hR1] at h1
  rw [hR2] at h2
  obtain ⟨l1, p1, k1⟩ := R1
  obtain ⟨l2, p2, k2⟩ := R2
  dsimp only at h1 h2
  have H1 := Lib.hid h1
  have H2 := Lib.hid h2
  have S1 := Lib.hid hR1
  have S2 := Lib.hid hR2
  have HR := Lib.hid hr1
  have Hnil := Lib.hid hnil
  clear h1 h2 ha hx hr1 hT hR1 hR2 hi hz0 hz1 hz2 hnil
  go_enter Tryz.func5, Tryz.ntmps5
  go_wp2_with fail
  go_loopw [7] (fun i wr => ∃ k : Nat, k ≤ r1.length ∧ i = .int .i64 k ∧ Hid (∀ j y, j < k → r1[j]? = some y → y.kind = 1) ∧ wr = w) (fun i _ => r1.length - (RowKit.intOf i).toNat)
  case atStart => exact ⟨0, Nat.zero_le _, rfl, Lib.hid (fun j _ hj => absurd hj (Nat.not_lt_zero _)), rfl⟩
  case round =>
    obtain ⟨k, hk, rfl, Hk, rfl⟩ := hrel
    by_cases hlt : k < r1.length
    · obtain ⟨y, hy⟩ := at_some hlt
      obtain ⟨b, off, hae, hbl, c0, c1⟩ := rul_at HR.out hy
      subst hae
      have Hy := Lib.hid hy
      have hlti : (k : Int) < (r1.length : Int) := by omega
      have hlt0 : (0 : Int) ≤ (k : Int) := by omega
      clear hy
      by_cases hkd : y.kind = 1
      · have e4 : (y.kind != 1) = false := by rw [hkd]; rfl
        have Hkd := Lib.hid hkd
        clear hkd
        go_wp2_with fail
        go_roundw
        case rel =>
          refine ⟨k + 1, by omega, by go_num, Lib.hid (fun j z hj hz => ?_), by first | rfl | trivial⟩
          by_cases e : j = k
          · subst e
            rw [Hy.out] at hz
            cases hz
            exact Hkd.out
          · exact Hk.out j z (by omega) hz
        case measure => simp [RowKit.intOf]; omega
      · have e4 : (y.kind != 1) = true := bne_iff_ne.2 hkd
        clear hkd
        go_wp2_with fail
        refine (HAW.out _).mono ?_
        rintro e w5 ⟨rfl, hb5⟩
        go_wp2_with fail
        go_ret
        exact ⟨rfl, hb5⟩
    · obtain rfl : k = r1.length := by omega
      have Hall := Lib.hid (show AllWith r1 from fun y hy => by
        obtain ⟨j, hj, e⟩ := List.mem_iff_getElem.1 hy
        exact Hk.out j y hj (by rw [List.getElem?_eq_getElem hj, e]))
      have hb0 := (Below.refl wr.heap.size wr).alloc (Nat.le_refl _) (.cells #[] 39)
      have hr0 := HR.out.keeps hb0
      have ho := OwnRows.lit wr rulLay wr.heap.size wr.heap.size 39 #[] 0 [] rfl (Nat.le_refl _) (Nat.zero_le _) rfl rfl
      go_wp2_with (at_builtin; refine wpList_append_from _ rfl _ _ 23 rfl rulLay wr.heap.size 39 i0 (.agg #[.int .i64 0, .string ⟨#[]⟩]) 24 Tryz.underlying23 Hi.out Hz0.out Hz1.out Hz2.out rfl (by decide) _ [] rfl ho b1 d1 r1.length r1 rfl rfl hr0 Hnil.out (by unfold maxLen; simp; omega) (by simp; omega) (by simp) ?_)
      intro v1 wa ho1 hg1 _
      have hBa := hb0.grown hg1 (by simp) (fun j ej => (ho.lt ej).1)
      replace ho1 : OwnRows rulLay wa wr.heap.size 39 v1 r1 := by simpa using ho1
      clear hg1 ho hr0
      go_wp2_with (at_builtin; refine wpList_append_rows _ rfl _ _ 23 rfl rulLay wr.heap.size 39 i0 (.agg #[.int .i64 0, .string ⟨#[]⟩]) 24 Tryz.underlying23 Hi.out Hz0.out Hz1.out Hz2.out rfl (by decide) _ _ rfl (ho1.alloc _) ⟨wa.heap.size, 0, none⟩ 1 ⟨1, s⟩ rfl (cells_new_at _ wa.heap.size #[.int .i64 1, .string s] 39 rfl) (by unfold maxLen; omega) (by omega) (by have := hBa.size; simp; omega) ?_)
      intro v2 wb ho2 hg2 _
      have hBb := (hBa.alloc hBa.size (.cells #[.int .i64 1, .string s] 39)).grown hg2 (by have := hBa.size; simp; omega) (fun j ej => (ho1.lt ej).1)
      replace ho2 : OwnRows rulLay wb wr.heap.size 39 v2 rm := by rw [Hrm.out]; exact ho2
      clear hg2 ho1
      obtain ⟨b2, d2, rfl, hrm, _⟩ := ho2.read
      have HH1 := Lib.hid (H1.out wb hBb)
      clear ho2
      go_wp2_with fail
      refine HH1.out.mono ?_
      rintro e w2 ⟨a1, c1, a2, c2, rfl, _, hp1, hb2⟩
      have hbw2 := hBb.trans (hb2.mono hBb.size)
      have HH2 := Lib.hid (H2.out w2 hbw2 b2 d2 (hrm.keeps hb2))
      go_wp2_with fail
      refine HH2.out.mono ?_
      rintro e w3 ⟨a3, c3, a4, c4, rfl, _, hp2, hb3⟩
      have hbw := hbw2.trans (hb3.mono hbw2.size)
      replace hp1 := hp1.keeps hb3
      clear hb2 hb3 hBb hBa hb0 hbw2 HH1 HH2 hrm
      cases k1 with
      | false =>
        go_wp2_with fail
        refine (HAW.out _).mono ?_
        rintro e w5 ⟨rfl, hb5⟩
        go_wp2_with fail
        go_ret
        exact ⟨rfl, hbw.trans (hb5.mono hbw.size)⟩
      | true =>
        cases k2 with
        | false =>
          go_wp2_with fail
          refine (HAW.out _).mono ?_
          rintro e w5 ⟨rfl, hb5⟩
          go_wp2_with fail
          go_ret
          exact ⟨rfl, hbw.trans (hb5.mono hbw.size)⟩
        | true =>
          obtain ⟨g1, g2, h60, _, _⟩ := shown_ok S1.out
          obtain ⟨g3, g4, _, _, _⟩ := shown_ok S2.out
          have hun := viewF_unlike (foldT ops)
          have hvl := view_len (foldT ops)
          have hfl := foldT_len ops
          have g5 : l2 = l1 := g3.trans g1.symm
          rw [← g1] at hun hvl
          rw [g5, Hrm.out] at g4
          have hpl1 := projG_len r1 l1 l1.length
          have hpl2 := projG_len (r1 ++ [⟨1, s⟩]) l1 l1.length
          rw [← g2] at hpl1
          rw [← g4] at hpl2
          have HF := Lib.hid (show ∀ y ∈ p1, ∃ y', findI (isPath y.path) p2 = (y', true) ∧ (y'.ghost = true → y.ghost = true) ∧ y'.cnt = y.cnt ∧ y'.who = y.who from fun y hy => by
            rw [g2] at hy
            rw [g4]
            exact find_more hun Hall.out rfl hy)
          have HP1 := Lib.hid fun W (h : Below w3.heap.size w3 W) => hp1.keeps h
          have HP2 := Lib.hid fun W (h : Below w3.heap.size w3 W) => hp2.keeps h
          have hl1 : l1.length ≤ 60 := by omega
          clear g1 g2 g3 g4 g5 hun hvl hfl hp1 hp2 H1 H2 S1 S2
          go_wp2_with fail
          go_loopw [15] (fun i wq => ∃ k : Nat, k ≤ p1.length ∧ i = .int .i64 k ∧ Below w3.heap.size w3 wq) (fun i _ => p1.length - (RowKit.intOf i).toNat)
          case atStart => exact ⟨0, Nat.zero_le _, rfl, Below.refl _ _⟩
          case round =>
            obtain ⟨k, hk, rfl, hb⟩ := hrel
            by_cases hlt : k < p1.length
            · obtain ⟨y, hy⟩ := at_some hlt
              obtain ⟨b, off, hae, hbl, z0, z1, z2, z3, z4, z5⟩ := itm_at (HP1.out wr hb) hy
              subst hae
              obtain ⟨y2, hf, hgh, hc, hq⟩ := HF.out y (List.mem_of_getElem? hy)
              have hlti : (k : Int) < (p1.length : Int) := by omega
              have hlt0 : (0 : Int) ≤ (k : Int) := by omega
              have hw := hbw.trans (hb.mono hbw.size)
              have hA1 := at_any a4 c4 p2 y.path wr (by omega) (HP2.out wr hb)
              rw [hf] at hA1
              dsimp only at hA1
              unfold Itm.agg at hA1
              have HA1 := Lib.hid hA1
              have Hgh := Lib.hid hgh
              rw [hc, hq] at HA1
              clear hA1 hf hgh hy
              go_wp2_with fail
              refine HA1.out.mono ?_
              rintro e v1 ⟨rfl, hc1⟩
              have hD1 := hb.trans (hc1.mono hb.size)
              have hP1 := VarAt.new v1 #[.string y2.path, .int .i64 y.cnt, .int .i64 y.who, .bool y2.dir, .bool y2.ghost, .string y2.man] 31
              have hQ1 := hD1.alloc hD1.size (.cells #[.string y2.path, .int .i64 y.cnt, .int .i64 y.who, .bool y2.dir, .bool y2.ghost, .string y2.man] 31)
              have hA2 := (Below.refl v1.heap.size v1).alloc (Nat.le_refl _) (.cells #[.string y2.path, .int .i64 y.cnt, .int .i64 y.who, .bool y2.dir, .bool y2.ghost, .string y2.man] 31)
              obtain ⟨g1, hg1⟩ : ∃ b, b = v1.heap.size := ⟨_, rfl⟩
              rw [← hg1] at hP1
              obtain ⟨W1, hW1⟩ : ∃ W, W = v1.alloc (.cells #[.string y2.path, .int .i64 y.cnt, .int .i64 y.who, .bool y2.dir, .bool y2.ghost, .string y2.man] 31) := ⟨_, rfl⟩
              rw [← hW1] at hP1 hQ1 hA2
              have Hg1 := Lib.hid hg1
              have HW1 := Lib.hid hW1
              clear hg1 hW1
              have hbW1 : Below wr.heap.size wr W1 := hc1.trans (hA2.mono hc1.size)
              have f0 := (hbW1.cell (p := ⟨b, off + k * 6, none⟩) hbl).trans z0
              have f1 := (hbW1.cell (p := ⟨b, off + k * 6 + 1, none⟩) hbl).trans z1
              have f2 := (hbW1.cell (p := ⟨b, off + k * 6 + 2, none⟩) hbl).trans z2
              have f3 := (hbW1.cell (p := ⟨b, off + k * 6 + 3, none⟩) hbl).trans z3
              have f4 := (hbW1.cell (p := ⟨b, off + k * 6 + 4, none⟩) hbl).trans z4
              have f5 := (hbW1.cell (p := ⟨b, off + k * 6 + 5, none⟩) hbl).trans z5
              have u0 := hP1.2.2 0 _ rfl
              have u1 := hP1.2.2 1 _ rfl
              have u2 := hP1.2.2 2 _ rfl
              have u3 := hP1.2.2 3 _ rfl
              have u4 := hP1.2.2 4 _ rfl
              have u5 := hP1.2.2 5 _ rfl
              have heq : ∀ w, (binOp .neq 29 (.agg #[.int .i64 y.cnt, .int .i64 y.who]) (.agg #[.int .i64 y.cnt, .int .i64 y.who])).run Tryz.prog w = .ok (.bool false) w := fun w => by have := neqStp ⟨y.cnt, y.who⟩ ⟨y.cnt, y.who⟩ w; simpa using this
              clear z0 z1 z2 z3 z4 z5 HA1 hc1 hA2 hD1 hc hq
              go_upto_region 17 with fail
              rw [← Hg1.out, ← HW1.out]
              obtain ⟨yg, hyg⟩ : ∃ g, y2.ghost = g := ⟨_, rfl⟩
              obtain ⟨og, hog⟩ : ∃ g, y.ghost = g := ⟨_, rfl⟩
              have hgo : yg = true → og = true := fun h => by rw [← hog]; exact Hgh.out (hyg.trans h)
              rw [hyg] at u4 ⊢
              rw [hog] at f4
              clear hyg hog
              cases yg with
              | false =>
                go_wp2_with fail
                go_quiet (fail)
                go_wp2_with fail
                go_roundw
                case rel => exact ⟨k + 1, by omega, by go_num, belowDrew hQ1 nq⟩
                case measure => simp [RowKit.intOf]; omega
              | true =>
                obtain rfl := hgo rfl
                clear hgo
                go_wp2_with fail
                go_quiet (fail)
                go_wp2_with fail
                go_roundw
                case rel => exact ⟨k + 1, by omega, by go_num, belowDrew hQ1 nq⟩
                case measure => simp [RowKit.intOf]; omega
            · obtain rfl : k = p1.length := by omega
              have hwr := hbw.trans (hb.mono hbw.size)
              go_wp2_with fail
              refine (HAW.out _).mono ?_
              rintro e w5 ⟨rfl, hb5⟩
              go_wp2_with fail
              go_ret
              exact ⟨rfl, hwr.trans (hb5.mono hwr.size)⟩
end Go.Proofs.YtfbdbjookkogjaaGreatDoor

namespace Go.Proofs.YtfbdbjookkogjaaGreatDoor
open Go Go.RowKit Go.Lib
/-- The node that an item is of. -/
def ofNd (n : Nd) (x : Itm) : Prop := n.cnt = x.cnt ∧ n.who = x.who ∧ n.dir = x.dir ∧ n.man = x.man
/-- An item's directory: y, of the stamp that is its node's parent. -/
def under (n : Nd) (x y : Itm) (g : List UInt8) : Prop := y.dir = true ∧ y.cnt = n.pc ∧ y.who = n.pw ∧ pI x = pI y ++ 47 :: g
def Rel (nodes : List Nd) (c w : Int) (ahead : List UInt8) (new : List Itm) : Prop :=
  ∀ x ∈ new, ∃ n ∈ nodes, ofNd n x ∧ ∃ g : List UInt8, g ≠ [] ∧ (47 : UInt8) ∉ g ∧ ((n.pc = c ∧ n.pw = w ∧ pI x = ahead ++ g) ∨ ∃ y ∈ new, under n x y g)
def RelSub (nodes : List Nd) (ahead : List UInt8) (l : List (Nd × ByteArray)) (new : List Itm) : Prop :=
  ∀ x ∈ new, ∃ n ∈ nodes, ofNd n x ∧ ∃ g : List UInt8, g ≠ [] ∧ (47 : UInt8) ∉ g ∧ ((∃ p ∈ l, p.1.dir = true ∧ p.1.cnt = n.pc ∧ p.1.who = n.pw ∧ pI x = ahead ++ (p.2.data.toList ++ 47 :: g)) ∨ ∃ y ∈ new, under n x y g)
theorem subV_rel {nodes : List Nd} {down : Int → Int → ByteArray → List Itm → List Itm × Int} (hd : ∀ c w a o, (down c w a o).2 = 0 → ∃ new, (down c w a o).1 = o ++ new ∧ Rel nodes c w a.data.toList new) (ahead : ByteArray) : ∀ (l : List (Nd × ByteArray)) (out : List Itm), (subV down ahead l out).2 = 0 → ∃ new, (subV down ahead l out).1 = out ++ new ∧ RelSub nodes ahead.data.toList l new
  | [], out, _ => ⟨[], by simp [subV], fun x hx => by simp at hx⟩
  | (n, g) :: r, out, h => by
    have up : ∀ new, RelSub nodes ahead.data.toList r new → RelSub nodes ahead.data.toList ((n, g) :: r) new := fun new hr x hx => by
      obtain ⟨m, hm, ho, q, h1, h2, h3⟩ := hr x hx
      refine ⟨m, hm, ho, q, h1, h2, ?_⟩
      rcases h3 with ⟨p, hp, h4⟩ | h3
      · exact .inl ⟨p, List.mem_cons_of_mem _ hp, h4⟩
      · exact .inr h3
    unfold subV at h ⊢
    by_cases hdir : n.dir = true
    · rw [if_pos hdir] at h ⊢
      by_cases h0 : (down n.cnt n.who (ahead ++ g ++ slashB) out).2 = 0
      · rw [if_pos h0] at h ⊢
        obtain ⟨new1, e1, r1⟩ := hd n.cnt n.who (ahead ++ g ++ slashB) out h0
        obtain ⟨new2, e2, r2⟩ := subV_rel hd ahead r _ h
        refine ⟨new1 ++ new2, by rw [e2, e1, List.append_assoc], fun x hx => ?_⟩
        rcases List.mem_append.1 hx with hx | hx
        · obtain ⟨m, hm, ho, q, h1, h2, h3⟩ := r1 x hx
          refine ⟨m, hm, ho, q, h1, h2, ?_⟩
          rcases h3 with ⟨h4, h5, h6⟩ | ⟨y, hy, h4⟩
          · exact .inl ⟨(n, g), List.mem_cons_self, hdir, h4.symm, h5.symm, by rw [h6, sub_list]⟩
          · exact .inr ⟨y, List.mem_append_left _ hy, h4⟩
        · obtain ⟨m, hm, ho, q, h1, h2, h3⟩ := up new2 r2 x hx
          refine ⟨m, hm, ho, q, h1, h2, ?_⟩
          rcases h3 with h3 | ⟨y, hy, h4⟩
          · exact .inl h3
          · exact .inr ⟨y, List.mem_append_right _ hy, h4⟩
      · rw [if_neg h0] at h
        exact absurd h h0
    · rw [if_neg hdir] at h ⊢
      obtain ⟨new, e, hr⟩ := subV_rel hd ahead r out h
      exact ⟨new, e, up new hr⟩
theorem given_nd {nodes : List Nd} {c w : Int} : ∀ p ∈ given nodes c w, p.1 ∈ nodes ∧ p.1.pc = c ∧ p.1.pw = w := fun p hp => by
  obtain ⟨h1, h2⟩ := List.mem_filter.1 (List.of_mem_zip hp).1
  exact ⟨h1, of_decide_eq_true h2⟩
theorem added_rel {nodes : List Nd} {c w : Int} (ahead : ByteArray) (hu : uniqueN ((childF nodes c w).map (·.name)) = 0) : Rel nodes c w ahead.data.toList ((given nodes c w).map fun p => itmOf ahead p.2 p.1) := fun x hx => by
  obtain ⟨p, hp, rfl⟩ := List.mem_map.1 hx
  obtain ⟨h1, h2⟩ := given_nd p hp
  obtain ⟨h3, h4⟩ := (given_ok nodes c w hu).1 p hp
  exact ⟨p.1, h1, ⟨rfl, rfl, rfl, rfl⟩, p.2.data.toList, h3, h4, .inl ⟨h2.1, h2.2, pI_of _ _ _⟩⟩
theorem downV_rel (nodes : List Nd) : ∀ (f : Nat) (c w : Int) (ahead : ByteArray) (out : List Itm), (downV nodes f c w ahead out).2 = 0 → ∃ new, (downV nodes f c w ahead out).1 = out ++ new ∧ Rel nodes c w ahead.data.toList new
  | 0, c, w, ahead, out, h => by
    unfold downV at h ⊢
    split at h
    · rename_i h1
      exact absurd h h1
    · rename_i h1
      rw [if_neg h1, addV_does _ _ _ _ h]
      exact ⟨_, rfl, added_rel ahead (Classical.not_not.1 h1)⟩
  | f + 1, c, w, ahead, out, h => by
    unfold downV at h ⊢
    split at h
    · rename_i h1
      exact absurd h h1
    · rename_i h1
      have hu := Classical.not_not.1 h1
      have ha := added_rel (nodes := nodes) (c := c) (w := w) ahead hu
      rw [if_neg h1]
      split at h
      · rename_i h2
        rw [if_pos h2]
        rw [addV_does _ _ _ _ h2] at h ⊢
        obtain ⟨new, e, hr⟩ := subV_rel (downV_rel nodes f) ahead _ _ h
        refine ⟨_, by rw [e, List.append_assoc], fun x hx => ?_⟩
        rcases List.mem_append.1 hx with hx | hx
        · obtain ⟨m, hm, ho, q, h3, h4, h5⟩ := ha x hx
          refine ⟨m, hm, ho, q, h3, h4, ?_⟩
          rcases h5 with h5 | ⟨y, hy, h6⟩
          · exact .inl h5
          · exact .inr ⟨y, List.mem_append_left _ hy, h6⟩
        · obtain ⟨m, hm, ho, q, h3, h4, h5⟩ := hr x hx
          refine ⟨m, hm, ho, q, h3, h4, .inr ?_⟩
          rcases h5 with ⟨p, hp, h6, h7, h8, h9⟩ | ⟨y, hy, h6⟩
          · refine ⟨itmOf ahead p.2 p.1, List.mem_append_left _ (List.mem_map.2 ⟨p, hp, rfl⟩), h6, h7, h8, ?_⟩
            rw [h9, pI_of, List.append_assoc]
          · exact ⟨y, List.mem_append_right _ hy, h6⟩
      · rename_i h2
        exact absurd h h2
/-- What is ahead of a '/' of a path is a directory's path. -/
theorem rel_dirs {nodes : List Nd} {new : List Itm} (h : Rel nodes 0 0 [] new) : ∀ (m : Nat) (x : Itm), x ∈ new → (pI x).length ≤ m → ∀ u v : List UInt8, pI x = u ++ 47 :: v → ∃ y ∈ new, pI y = u ∧ y.dir = true
  | 0, x, hx, hl, u, v, e => by
    rw [e, List.length_append, List.length_cons] at hl
    omega
  | m + 1, x, hx, hl, u, v, e => by
    obtain ⟨n, _, _, g, h1, h2, h3⟩ := h x hx
    rcases h3 with ⟨_, _, h4⟩ | ⟨y, hy, hd, _, _, h4⟩
    · rw [h4, List.nil_append] at e
      exact absurd (by rw [e]; simp) h2
    · rw [h4] at e
      rcases List.append_eq_append_iff.1 e with ⟨a, e1, e2⟩ | ⟨a, e1, e2⟩
      · cases a with
        | nil =>
          rw [List.append_nil] at e1
          exact ⟨y, hy, e1.symm, hd⟩
        | cons z a =>
          rw [List.cons_append, List.cons.injEq] at e2
          exact absurd (by rw [e2.2]; simp) h2
      · cases a with
        | nil =>
          rw [List.append_nil] at e1
          exact ⟨y, hy, e1, hd⟩
        | cons z a =>
          rw [List.cons_append, List.cons.injEq] at e2
          refine rel_dirs h m y hy ?_ u a (by rw [e1, ← e2.1])
          rw [h4, List.length_append, List.length_cons] at hl
          omega
end Go.Proofs.YtfbdbjookkogjaaGreatDoor

namespace Go.Proofs.YtfbdbjookkogjaaGreatDoor
open Go Go.RowKit Go.Lib
theorem viewF_rel {nodes : List Nd} (h : (viewF nodes).2 = 0) : Rel nodes 0 0 [] (viewF nodes).1 := by
  by_cases h0 : (downV nodes 16 0 0 ⟨#[]⟩ []).2 = 0
  · obtain ⟨new, e, hr⟩ := downV_rel nodes 16 0 0 ⟨#[]⟩ [] h0
    rw [List.nil_append] at e
    have e2 : (viewF nodes).1 = sortI new := by
      unfold viewF
      rw [if_pos h0, e]
    rw [e2]
    intro x hx
    obtain ⟨n, hn, ho, g, h1, h2, h3⟩ := hr x (mem_sortI.1 hx)
    refine ⟨n, hn, ho, g, h1, h2, ?_⟩
    rcases h3 with h3 | ⟨y, hy, h4⟩
    · exact .inl h3
    · exact .inr ⟨y, mem_sortI.2 hy, h4⟩
  · unfold viewF at h
    rw [if_neg h0] at h
    exact absurd h h0
theorem viewF_ris (nodes : List Nd) : RisI (viewF nodes).1 := by
  unfold viewF
  split
  · rename_i h
    obtain ⟨new, e, _, hp⟩ := down_adds nodes 16 0 0 ⟨#[]⟩ [] h
    rw [List.nil_append] at e
    have hp2 : (downV nodes 16 0 0 ⟨#[]⟩ []).1.Pairwise fun x y => pI x ≠ pI y := by rw [e]; exact hp
    exact (sortI_does (downV nodes 16 0 0 ⟨#[]⟩ []).1 [] List.Pairwise.nil (by simpa using hp2)).1
  · exact List.Pairwise.nil
theorem ltI_path {x y x' y' : Itm} (h1 : x'.path = x.path) (h2 : y'.path = y.path) : ltI x' y' = ltI x y := by
  unfold ltI
  rw [h1, h2]
theorem proj_ris {l : List Rul} {xs : List Itm} (h : RisI xs) : RisI (projG l xs xs.length) := by
  unfold projG RisI at *
  rw [List.take_length, List.pairwise_filterMap]
  refine h.imp (fun {x y} hxy x' hx' y' hy' => ?_)
  rw [ltI_path (show_path hx').1 (show_path hy').1]
  exact hxy
/-- What is shown, as it is. -/
theorem show_is {l : List Rul} {xs : List Itm} {z y : Itm} (h : showG l xs z = some y) : y.ghost = !matchG l y.path y.dir ∧ (y.ghost = false → y.man = z.man) ∧ (y.ghost = true → y.dir = true ∧ y.man = ⟨#[]⟩ ∧ overG l xs xs.length z.path = true) := by
  unfold showG at h
  split at h
  · rename_i h1
    cases h
    refine ⟨?_, fun _ => rfl, fun (e : false = true) => (by cases e)⟩
    show false = !matchG l z.path z.dir
    rw [show matchG l z.path z.dir = true from h1]
    rfl
  · rename_i h1
    split at h
    · rename_i h2
      rw [Bool.and_eq_true] at h2
      cases h
      refine ⟨?_, fun (e : true = false) => (by cases e), fun _ => ⟨h2.1, rfl, h2.2⟩⟩
      show true = !matchG l z.path z.dir
      rw [show matchG l z.path z.dir = false by simpa [inG] using h1]
      rfl
    · cases h
theorem find_own {xs : List Itm} (hp : xs.Pairwise fun x y => pI x ≠ pI y) {z : Itm} (hz : z ∈ xs) : findI (isPath z.path) xs = (z, true) := by
  have h := find_show (f := some) (fun x y h => by cases h; rfl) xs hp z z hz rfl
  rwa [List.filterMap_some] at h
theorem under_iff {p d : ByteArray} : underB p d = true ↔ ∃ t : List UInt8, t ≠ [] ∧ p.data.toList = d.data.toList ++ 47 :: t := by
  constructor
  · intro h
    obtain ⟨h1, h2, hj, h3⟩ := under_parts h
    have hps : p.data.toList.length = p.size := by rw [size_eq]
    have hd : d.data.toList = p.data.toList.take d.size := by
      conv => lhs; rw [h2]
      exact extract_take p d.size
    refine ⟨p.data.toList.drop (d.size + 1), fun e => ?_, ?_⟩
    · have := congrArg List.length e
      rw [List.length_drop, hps, List.length_nil] at this
      omega
    · have h4 : p.data.toList.drop d.size = 47 :: p.data.toList.drop (d.size + 1) := by
        rw [List.drop_eq_getElem_cons (by omega)]
        congr 1
      rw [hd, ← h4]
      exact (List.take_append_drop _ _).symm
  · rintro ⟨t, ht, e⟩
    have hps : p.data.toList.length = p.size := by rw [size_eq]
    have hds : d.data.toList.length = d.size := by rw [size_eq]
    have hl : p.size = d.size + (t.length + 1) := by rw [← hps, e, List.length_append, List.length_cons, hds]
    have ht0 : t.length ≠ 0 := fun h => ht (List.length_eq_zero_iff.1 h)
    have hlt : d.size < p.size := by omega
    refine under_yes (by omega) ?_ ?_
    · have h5 : (p.extract 0 d.size).data.toList = d.data.toList := by
        rw [extract_take, e, ← hds, List.take_left]
      obtain ⟨⟨d0⟩⟩ := d
      generalize p.extract 0 _ = q at h5
      obtain ⟨⟨q0⟩⟩ := q
      have h6 : q0 = d0 := h5
      rw [h6]
    · have h7 : p.data.toList[d.size]? = some 47 := by
        rw [e, List.getElem?_append_right (by omega), hds, Nat.sub_self]
        rfl
      have h8 : p.data.toList[d.size]'(by omega) = 47 := (List.getElem?_eq_some_iff.1 h7).2
      exact h8
theorem under_trans {p d q : ByteArray} (h1 : underB p d = true) (h2 : underB d q = true) : underB p q = true := by
  obtain ⟨t, ht, e1⟩ := under_iff.1 h1
  obtain ⟨s, hs, e2⟩ := under_iff.1 h2
  refine under_iff.2 ⟨s ++ 47 :: t, by simp, ?_⟩
  rw [e1, e2, List.append_assoc, List.cons_append]
theorem rel_tail {nodes : List Nd} {new : List Itm} (h : Rel nodes 0 0 [] new) {x : Itm} (hx : x ∈ new) {u v : List UInt8} (e : pI x = u ++ 47 :: v) : v ≠ [] := by
  intro hv
  subst hv
  obtain ⟨n, _, _, g, h1, h2, h3⟩ := h x hx
  have key : ∀ a : List UInt8, pI x = a ++ g → False := fun a ha => by
    have h4 : (pI x).getLast? = some 47 := by rw [e]; simp
    rw [ha, List.getLast?_append] at h4
    cases hg : g.getLast? with
    | none => exact h1 (List.getLast?_eq_none_iff.1 hg)
    | some z =>
      rw [hg] at h4
      have h5 : z = 47 := by simpa using h4
      exact h2 (h5 ▸ List.mem_of_getLast? hg)
  rcases h3 with ⟨_, _, h3⟩ | ⟨y, _, _, _, _, h3⟩
  · exact key [] h3
  · exact key (pI y ++ [47]) (by rw [h3]; simp)
end Go.Proofs.YtfbdbjookkogjaaGreatDoor

namespace Go.Proofs.YtfbdbjookkogjaaGreatDoor
open Go Go.RowKit Go.Lib
theorem mem_proj {l : List Rul} {xs : List Itm} {y : Itm} : y ∈ projG l xs xs.length ↔ ∃ z ∈ xs, showG l xs z = some y := by
  unfold projG
  rw [List.take_length, List.mem_filterMap]
theorem show_real {l : List Rul} {xs : List Itm} {z : Itm} (h : inG l z = true) : showG l xs z = some { z with ghost := false } := by
  unfold showG
  rw [if_pos h]
theorem over_iff {l : List Rul} {xs : List Itm} {d : ByteArray} : overG l xs xs.length d = true ↔ ∃ z ∈ xs, inG l z = true ∧ underB z.path d = true := by
  rw [overG_all, List.any_eq_true]
  constructor
  · rintro ⟨z, hz, h⟩
    rw [Bool.and_eq_true] at h
    exact ⟨z, hz, h⟩
  · rintro ⟨z, hz, h1, h2⟩
    exact ⟨z, hz, by rw [h1, h2]; rfl⟩
/-- Below a ghost stands something real. -/
theorem ghost_over {l : List Rul} {xs : List Itm} {y : Itm} (hy : y ∈ projG l xs xs.length) (hg : y.ghost = true) : ∃ q ∈ projG l xs xs.length, q.ghost = false ∧ q.path ≠ y.path ∧ withinG q.path y.path = true := by
  obtain ⟨z, hz, hs⟩ := mem_proj.1 hy
  obtain ⟨r, hr, h1, h2⟩ := over_iff.1 ((show_is hs).2.2 hg).2.2
  rw [← (show_path hs).1] at h2
  refine ⟨{ r with ghost := false }, mem_proj.2 ⟨r, hr, show_real h1⟩, rfl, fun e => ?_, ?_⟩
  · have e2 : r.path = y.path := e
    rw [e2] at h2
    obtain ⟨h3, _⟩ := under_parts h2
    omega
  · show withinG r.path y.path = true
    unfold withinG
    rw [h2, Bool.or_true]
/-- Each one's directories are shown. -/
theorem proj_dirs {nodes : List Nd} {l : List Rul} {xs : List Itm} (hr : Rel nodes 0 0 [] xs) (hp : xs.Pairwise fun x y => pI x ≠ pI y) {y : Itm} (hy : y ∈ projG l xs xs.length) {d : ByteArray} {v : List UInt8} (e : pI y = d.data.toList ++ 47 :: v) :
    ∃ q, findI (isPath d) (projG l xs xs.length) = (q, true) ∧ q.dir = true := by
  obtain ⟨z, hz, hs⟩ := mem_proj.1 hy
  have hzy : pI z = pI y := by unfold pI; rw [(show_path hs).1]
  have e2 : pI z = d.data.toList ++ 47 :: v := hzy.trans e
  obtain ⟨k, hk, hku, hkd⟩ := rel_dirs hr _ z hz (Nat.le_refl _) _ v e2
  have hv := rel_tail hr hz e2
  have hkp : k.path = d := by
    have h1 : k.path.data.toList = d.data.toList := hku
    obtain ⟨⟨d0⟩⟩ := d
    generalize k.path = q at h1
    obtain ⟨⟨q0⟩⟩ := q
    have h6 : q0 = d0 := h1
    rw [h6]
  have hzk : underB z.path k.path = true := under_iff.2 ⟨v, hv, by rw [hkp]; exact e2⟩
  have hsh : ∃ q, showG l xs k = some q ∧ q.dir = true := by
    by_cases h1 : inG l k = true
    · exact ⟨_, show_real h1, hkd⟩
    · have ho : overG l xs xs.length k.path = true := by
        cases hg : y.ghost with
        | false =>
          have h2 := (show_is hs).1
          rw [hg] at h2
          have h3 : matchG l y.path y.dir = true := by
            cases hm : matchG l y.path y.dir with
            | true => rfl
            | false => rw [hm] at h2; cases h2
          refine over_iff.2 ⟨z, hz, ?_, hzk⟩
          show matchG l z.path z.dir = true
          rw [← (show_path hs).1, ← (show_path hs).2.2.2]
          exact h3
        | true =>
          obtain ⟨r, hrm, h3, h4⟩ := over_iff.1 ((show_is hs).2.2 hg).2.2
          exact over_iff.2 ⟨r, hrm, h3, under_trans h4 hzk⟩
      refine ⟨{ k with ghost := true, man := ⟨#[]⟩ }, ?_, hkd⟩
      unfold showG
      rw [if_neg h1, if_pos (by rw [hkd, ho]; rfl)]
  obtain ⟨q, hq, hqd⟩ := hsh
  refine ⟨q, ?_, hqd⟩
  rw [← hkp]
  exact find_proj hp hk hq
/-- As many are real as the rules have. -/
theorem proj_count (l : List Rul) (xs ys : List Itm) : ((ys.filterMap (showG l xs)).filter fun y => !y.ghost).length = (ys.filter fun z => inG l z).length := by
  induction ys with
  | nil => rfl
  | cons z r ih =>
    cases h : inG l z with
    | true =>
      rw [List.filterMap_cons, show_real h, List.filter_cons_of_pos (by rfl), List.filter_cons_of_pos h, List.length_cons, List.length_cons, ih]
    | false =>
      rw [List.filter_cons_of_neg (by rw [h]; simp), List.filterMap_cons]
      cases hs : showG l xs z with
      | none => exact ih
      | some y =>
        have hg : y.ghost = true := by
          rw [(show_is hs).1, (show_path hs).1, (show_path hs).2.2.2, show matchG l z.path z.dir = false from h]
          rfl
        dsimp only
        rw [List.filter_cons_of_neg (by rw [hg]; simp)]
        exact ih
theorem shown_zero {ops : List Opr} {rules : List Rul} {l p : List Itm} (h : shownF ops rules = (l, p, true)) : (viewF (foldT ops)).2 = 0 := by
  unfold shownF at h
  split at h
  · obtain ⟨_, e2⟩ := Prod.mk.inj h
    obtain ⟨_, e3⟩ := Prod.mk.inj e2
    simpa using e3
  · cases h
theorem ris_less {l : List Itm} (h : RisI l) {j k : Nat} {y x : Itm} (hy : l[j]? = some y) (hx : l[k]? = some x) (hjk : j < k) : Op.bytesLess y.path.toList x.path.toList = true := by
  unfold RisI at h
  rw [List.pairwise_iff_getElem] at h
  obtain ⟨a1, a2⟩ := List.getElem?_eq_some_iff.1 hy
  obtain ⟨b1, b2⟩ := List.getElem?_eq_some_iff.1 hx
  have h3 := h j k a1 b1 hjk
  rw [a2, b2] at h3
  unfold ltI at h3
  rw [lessV_before, ByteArray.toList_eq, ByteArray.toList_eq]
  exact h3
theorem cut_at (p : ByteArray) (j : Nat) (h : j < p.size) (h47 : (p[j].toNat : Int) = 47) : p.data.toList = (p.extract 0 j).data.toList ++ 47 :: p.data.toList.drop (j + 1) := by
  have hps : p.data.toList.length = p.size := by rw [size_eq]
  have h1 : (p.extract 0 j).data.toList = p.data.toList.take j := by
    rw [ByteArray.data_extract, Array.toList_extract]
    simp [List.extract_eq_take_drop]
  have h2 : p.data.toList[j]'(by omega) = 47 := by
    have h3 : p[j] = 47 := by
      apply UInt8.toNat_inj.1
      have : p[j].toNat = 47 := by omega
      rw [this]
      rfl
    exact h3
  rw [h1]
  conv => lhs; rw [← List.take_append_drop j p.data.toList]
  rw [List.drop_eq_getElem_cons (by omega), h2]
end Go.Proofs.YtfbdbjookkogjaaGreatDoor

