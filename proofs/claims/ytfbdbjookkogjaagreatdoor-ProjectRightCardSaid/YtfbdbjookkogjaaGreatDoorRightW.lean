/-
  What a filter shows of what operations make: the law.
-/
import Derived.Test.YtfbdbjookkogjaaGreatDoorWiderW
import Derived.IntWalk
import Derived.Deep.CutRange
namespace Go.Proofs.YtfbdbjookkogjaaGreatDoor
open Go Go.RowKit Go.Lib
set_option maxRecDepth 100000 in
set_option maxHeartbeats 6400000 in
theorem law_projectRight (a : Option Addr) (cap : Nat) (ops : List Opr) (b1 : Option Addr) (d1 : Nat) (r1 : List Rul) (w : World) (hl : ops.length ≤ 140737488351232) (ha : RowsAt oprLay w a ops) (hx : ∀ x ∈ ops, OpW x)
    (_ : r1.length ≤ 140737488351232) (hr1 : RowsAt rulLay w b1 r1) (hT : Tab w) :
    Calls Tryz.prog 3 #[.slice a ops.length cap, .slice b1 r1.length d1] w fun e w' => e = .returned (.bool true) ∧ Below w.heap.size w w' := by
  have HAW := Lib.hid fun W => awake12_any W
  have h1 := shown_any a b1 cap d1 ops r1 w hl ha hx hr1 hT
  have HR1 := Lib.hid fun W (h : Below w.heap.size w W) => hr1.keeps h
  obtain ⟨R1, hR1⟩ : ∃ R, shownF ops r1 = R := ⟨_, rfl⟩
  rw [hR1] at h1
  obtain ⟨l1, p1, k1⟩ := R1
  dsimp only at h1
  have H1 := Lib.hid h1
  have S1 := Lib.hid hR1
  clear h1 ha hx hr1 hT hR1
  go_enter Tryz.func3, Tryz.ntmps3
  go_wp2_with fail
  refine H1.out.mono ?_
  rintro e w3 ⟨a1, c1, a2, c2, rfl, hl1, hp1, hbw⟩
  cases k1 with
  | false =>
    go_wp2_with fail
    refine (HAW.out _).mono ?_
    rintro e w5 ⟨rfl, hb5⟩
    go_wp2_with fail
    go_ret
    exact ⟨rfl, hbw.trans (hb5.mono hbw.size)⟩
  | true =>
    obtain ⟨g1, g2, h60, hq1, hq2⟩ := shown_ok S1.out
    have hz := shown_zero S1.out
    have hun := viewF_unlike (foldT ops)
    have hgd := viewF_good (foldT ops)
    have hris := viewF_ris (foldT ops)
    have hrel0 := viewF_rel hz
    have hvl := view_len (foldT ops)
    have hfl := foldT_len ops
    rw [← g1] at hun hgd hris hrel0 hvl
    have hpl1 := projG_len r1 l1 l1.length
    have hcnt := proj_count r1 l1 l1
    have hcnt2 : (p1.filter fun y => !y.ghost).length = (l1.filter fun z => inG r1 z).length := by
      rw [← hcnt, g2]
      unfold projG
      rw [List.take_length]
    rw [← g2] at hpl1
    have hl60 : l1.length ≤ 60 := by omega
    have Hun := Lib.hid hun
    have Hgd := Lib.hid hgd
    have Hris := Lib.hid hris
    have Hrel := Lib.hid hrel0
    have Hg2 := Lib.hid g2
    have Hcnt := Lib.hid hcnt2
    have Hq := Lib.hid (And.intro hq1 hq2)
    have HL := Lib.hid fun W (h : Below w3.heap.size w3 W) => hl1.keeps h
    have HP1 := Lib.hid fun W (h : Below w3.heap.size w3 W) => hp1.keeps h
    clear g1 g2 hz hun hgd hris hrel0 hvl hfl hcnt hcnt2 hq1 hq2 hl1 hp1 H1 S1
    go_wp2_with fail
    go_loopw [8] (fun i wq => ∃ k : Nat, k ≤ p1.length ∧ i = .int .i64 k ∧ Below w3.heap.size w3 wq) (fun i _ => p1.length - (RowKit.intOf i).toNat)
    case atStart => exact ⟨0, Nat.zero_le _, rfl, Below.refl _ _⟩
    case round =>
      obtain ⟨k, hk, rfl, hb⟩ := hrel
      by_cases hlt : k < p1.length
      · obtain ⟨x, hx⟩ := at_some hlt
        obtain ⟨b, off, hae, hbl, z0, z1, z2, z3, z4, z5⟩ := itm_at (HP1.out wr hb) hx
        subst hae
        have hxm := List.mem_of_getElem? hx
        have hxm2 : x ∈ projG r1 l1 l1.length := by rw [← Hg2.out]; exact hxm
        obtain ⟨z, hz, hs⟩ := mem_proj.1 hxm2
        have hsp := show_path hs
        have hsi := show_is hs
        have hfz := find_own Hun.out hz
        have hgz := (Hgd.out z hz).1
        have hpx : x.path.size ≤ 1000 := by rw [hsp.1]; exact (Hgd.out z hz).2
        rw [← hsp.1] at hfz
        have hlti : (k : Int) < (p1.length : Int) := by omega
        have hlt0 : (0 : Int) ≤ (k : Int) := by omega
        have hw := hbw.trans (hb.mono hbw.size)
        have hA1 := (Below.refl wr.heap.size wr).alloc (Nat.le_refl _) (.cells #[.string x.path, .int .i64 x.cnt, .int .i64 x.who, .bool x.dir, .bool x.ghost, .string x.man] 31)
        have hX := VarAt.new wr #[.string x.path, .int .i64 x.cnt, .int .i64 x.who, .bool x.dir, .bool x.ghost, .string x.man] 31
        obtain ⟨g9, hg9⟩ : ∃ b, b = wr.heap.size := ⟨_, rfl⟩
        obtain ⟨W1, hW1⟩ : ∃ W, W = wr.alloc (.cells #[.string x.path, .int .i64 x.cnt, .int .i64 x.who, .bool x.dir, .bool x.ghost, .string x.man] 31) := ⟨_, rfl⟩
        rw [← hg9, ← hW1] at hX
        rw [← hW1] at hA1
        have Hg9 := Lib.hid hg9
        have HW1 := Lib.hid hW1
        have hbW1 := hb.trans (hA1.mono hb.size)
        have hAt := at_any a1 c1 l1 x.path W1 (by omega) (HL.out W1 hbW1)
        rw [hfz] at hAt
        dsimp only at hAt
        unfold Itm.agg at hAt
        rw [← hsp.1, ← hsp.2.1, ← hsp.2.2.1, ← hsp.2.2.2, hgz] at hAt
        have HAt := Lib.hid hAt
        have Hman := Lib.hid hsi.2.1
        have Hx := Lib.hid hx
        have Hxm := Lib.hid hxm2
        have Hsi := Lib.hid hsi
        clear hA1 hAt hg9 hW1 hx hxm hxm2 hfz hgz hsi hs hsp hz
        go_upto_region 8 with fail
        rw [← Hg9.out, ← HW1.out]
        have s0 := hX.2.2 0 _ rfl
        go_wp2_with fail
        refine HAt.out.mono ?_
        rintro e v1 ⟨rfl, hc1⟩
        have hX1 := hX.keeps hc1 hX.1
        have hY := VarAt.new v1 #[.string x.path, .int .i64 x.cnt, .int .i64 x.who, .bool x.dir, .bool false, .string z.man] 31
        have hA2 := (Below.refl v1.heap.size v1).alloc (Nat.le_refl _) (.cells #[.string x.path, .int .i64 x.cnt, .int .i64 x.who, .bool x.dir, .bool false, .string z.man] 31)
        have hX2 := hX1.keeps hA2 hX1.1
        have hbv := hbW1.trans (hc1.mono hbW1.size)
        have hbW2 := hbv.trans (hA2.mono hbv.size)
        obtain ⟨g10, hg10⟩ : ∃ b, b = v1.heap.size := ⟨_, rfl⟩
        obtain ⟨W2, hW2⟩ : ∃ W, W = v1.alloc (.cells #[.string x.path, .int .i64 x.cnt, .int .i64 x.who, .bool x.dir, .bool false, .string z.man] 31) := ⟨_, rfl⟩
        rw [← hg10, ← hW2] at hY
        rw [← hW2] at hX2 hbW2
        have Hg10 := Lib.hid hg10
        have HW2 := Lib.hid hW2
        clear hX hX1 hA2 hg10 hW2 s0 hc1 hbv
        go_upto_region 9 with fail
        rw [← Hg10.out, ← HW2.out]
        have s0 := hX2.2.2 0 _ rfl
        have s1 := hX2.2.2 1 _ rfl
        have s2 := hX2.2.2 2 _ rfl
        have s3 := hX2.2.2 3 _ rfl
        have s4 := hX2.2.2 4 _ rfl
        have s5 := hX2.2.2 5 _ rfl
        have u0 := hY.2.2 0 _ rfl
        have u1 := hY.2.2 1 _ rfl
        have u2 := hY.2.2 2 _ rfl
        have u3 := hY.2.2 3 _ rfl
        have u4 := hY.2.2 4 _ rfl
        have u5 := hY.2.2 5 _ rfl
        have heq : ∀ w, (binOp .neq 29 (.agg #[.int .i64 x.cnt, .int .i64 x.who]) (.agg #[.int .i64 x.cnt, .int .i64 x.who])).run Tryz.prog w = .ok (.bool false) w := fun w => by have := neqStp ⟨x.cnt, x.who⟩ ⟨x.cnt, x.who⟩ w; simpa using this
        obtain ⟨gh, hgh⟩ : ∃ g, x.ghost = g := ⟨_, rfl⟩
        rw [hgh] at s4 ⊢
        have Hgh := Lib.hid hgh
        have Hzm := Lib.hid (show gh = false → z.man = x.man from fun h => (Hman.out (Hgh.out.trans h)).symm)
        clear hgh
        go_cut [89] from 47 to 89 (fun c wx => c = .bool false ∧ ∃ n, wx = W2.drewN n)
        case first =>
          by_cases hk0 : k = 0
          · have q0 : decide ((k : Int) > 0) = false := decide_eq_false (by omega)
            have q0b : decide (0 < k) = false := decide_eq_false (by omega)
            have q0c : decide ((0 : Int) < (k : Int)) = false := decide_eq_false (by omega)
            clear hk0
            cases gh with
            | true =>
              go_wp2_with fail
              go_quiet (fail)
              go_wp2_with fail
              go_meet
              exact ⟨rfl, nq, rfl⟩
            | false =>
              rw [Hzm.out rfl] at u5
              go_wp2_with fail
              go_quiet (fail)
              go_wp2_with fail
              go_meet
              exact ⟨rfl, nq, rfl⟩
          · obtain ⟨j, hj⟩ : ∃ j, k = j + 1 := ⟨k - 1, by omega⟩
            obtain ⟨y, hy⟩ := at_some (show j < p1.length by omega)
            obtain ⟨b3, off3, e3, hbl3, y0, _, _, _, _, _⟩ := itm_at (HP1.out W2 hbW2) hy
            cases e3
            have hlt2 := Lib.hid (ris_less (by rw [Hg2.out]; exact proj_ris Hris.out) hy Hx.out (by omega))
            have q0 : decide ((k : Int) > 0) = true := decide_eq_true (by omega)
            have q0b : decide (0 < k) = true := decide_eq_true (by omega)
            have q0c : decide ((0 : Int) < (k : Int)) = true := decide_eq_true (by omega)
            have q1 : (k : Int) - 1 = (j : Int) := by omega
            have q2 : (0 : Int) ≤ (j : Int) := by omega
            have q3 : (j : Int) < (p1.length : Int) := by omega
            have q4 := hlt2.out
            clear hk0 hj hy
            cases gh with
            | true =>
              go_wp2_with fail
              go_quiet (fail)
              go_wp2_with fail
              go_meet
              exact ⟨rfl, nq, rfl⟩
            | false =>
              rw [Hzm.out rfl] at u5
              go_wp2_with fail
              go_quiet (fail)
              go_wp2_with fail
              go_meet
              exact ⟨rfl, nq, rfl⟩
        case rest =>
          obtain ⟨rfl, n9, rfl⟩ := hcut
          have hX5 : VarAt (W2.drewN n9) g9 [.string x.path, .int .i64 x.cnt, .int .i64 x.who, .bool x.dir, .bool x.ghost, .string x.man] := hX2.drew n9
          have hb5 := belowDrew hbW2 n9
          obtain ⟨W5, hW5⟩ : ∃ W, W = W2.drewN n9 := ⟨_, rfl⟩
          rw [← hW5] at hX5 hb5 ⊢
          rw [Hgh.out] at hX5
          clear hW5 hX2 hY hbW2 s0 s1 s2 s3 s4 s5 u0 u1 u2 u3 u4 u5
          have hw5 := hbw.trans (hb5.mono hbw.size)
          have K1 : OKR w b1 r1 x (!gh) := ⟨HR1.out, Hq.out.1, Hq.out.2, by have := Hsi.out.1; rw [Hgh.out] at this; rw [this]; simp⟩
          have hMg := fun (b : Option Addr) (d : Nat) (r : List Rul) (m : Bool) (h : OKR w b r x m) (dq : _) (osq : _) => okr_match (wr := W5) (d := d) h hw5 hpx dq osq
          have hR5 : VarAt W5 g9 [.string x.path, .int .i64 x.cnt, .int .i64 x.who, .bool x.dir, .bool gh, .string x.man] := hX5
          go_wp2_with fail
          go_cut [112] from 90 to 112 (fun c wx => c = .bool false ∧ Below W5.heap.size W5 wx)
          case first =>
            cases gh with
            | true =>
              obtain ⟨hd1, hm1, _⟩ := Hsi.out.2.2 Hgh.out
              rw [hd1] at hMg
              rw [hd1, hm1] at hR5
              have HMg := Lib.hid hMg
              have s0 := hR5.2.2 0 _ rfl
              have s1 := hR5.2.2 1 _ rfl
              have s2 := hR5.2.2 2 _ rfl
              have s3 := hR5.2.2 3 _ rfl
              have s4 := hR5.2.2 4 _ rfl
              have s5 := hR5.2.2 5 _ rfl
              have q0 := cell_regrown s0
              have q1 := cell_regrown s1
              have q2 := cell_regrown s2
              have q3 := cell_regrown s3
              have q4 := cell_regrown s4
              have q5 := cell_regrown s5
              refine wp_region_quiet_below (by kernel_rfl) (by kernel_rfl) ?_
              repeat (go_big_quiet_step (exact Calls.regrown_of (HMg.out _ _ _ _ (by assumption) _ _)))
              refine wpQuiet_nil ?_
              intro _ hw'
              obtain ⟨⟨dq, osq⟩, hw''⟩ := hw'
              subst hw''
              go_wp2_with fail
              go_meet
              exact ⟨rfl, below_regrown W5 dq osq⟩
            | false =>
              have HMg := Lib.hid hMg
              have s0 := hR5.2.2 0 _ rfl
              have s1 := hR5.2.2 1 _ rfl
              have s2 := hR5.2.2 2 _ rfl
              have s3 := hR5.2.2 3 _ rfl
              have s4 := hR5.2.2 4 _ rfl
              have s5 := hR5.2.2 5 _ rfl
              have q0 := cell_regrown s0
              have q1 := cell_regrown s1
              have q2 := cell_regrown s2
              have q3 := cell_regrown s3
              have q4 := cell_regrown s4
              have q5 := cell_regrown s5
              refine wp_region_quiet_below (by kernel_rfl) (by kernel_rfl) ?_
              repeat (go_big_quiet_step (exact Calls.regrown_of (HMg.out _ _ _ _ (by assumption) _ _)))
              refine wpQuiet_nil ?_
              intro _ hw'
              obtain ⟨⟨dq, osq⟩, hw''⟩ := hw'
              subst hw''
              go_wp2_with fail
              go_meet
              exact ⟨rfl, below_regrown W5 dq osq⟩
          case rest =>
            obtain ⟨rfl, hc11⟩ := hcut
            have hX6 := hR5.keeps hc11 hR5.1
            have hb6 := hb5.trans (hc11.mono hb5.size)
            have hwc := hbw.trans (hb6.mono hbw.size)
            have s4 := hX6.2.2 4 _ rfl
            obtain ⟨hit, hhit⟩ : ∃ hit : Itm → Bool, hit = fun q => !q.ghost && q.path.toList != x.path.toList && withinG q.path x.path := ⟨_, rfl⟩
            have Hhit := Lib.hid hhit
            clear hhit hMg hR5 hX5 K1
            go_wp2_with fail
            go_loopw [12, 13] (fun bv i wq => ∃ j : Nat, j ≤ p1.length ∧ i = .int .i64 j ∧ bv = .bool (!gh || (p1.take j).any hit) ∧ Below wc.heap.size wc wq) (fun _ i _ => p1.length - (RowKit.intOf i).toNat)
            case atStart => exact ⟨0, Nat.zero_le _, rfl, by simp, Below.refl _ _⟩
            case round =>
              obtain ⟨j, hj, rfl, rfl, hb2⟩ := hrel
              by_cases hjt : j < p1.length
              · obtain ⟨q, hq⟩ := at_some hjt
                have hw6 := hb6.trans (hb2.mono hb6.size)
                obtain ⟨b3, off3, e3, hbl3, y0, y1, y2, y3, y4, y5⟩ := itm_at (HP1.out wr hw6) hq
                cases e3
                have hst : (p1.take (j + 1)).any hit = ((p1.take j).any hit || hit q) := by
                  rw [List.take_add_one, hq, Option.toList_some, List.any_append]
                  simp
                have hX7 := hX6.keeps hb2 hX6.1
                have t0 := hX7.2.2 0 _ rfl
                have hjti : (j : Int) < (p1.length : Int) := by omega
                have hjt0 : (0 : Int) ≤ (j : Int) := by omega
                obtain ⟨bv, hbv⟩ : ∃ bv, (!gh || (p1.take j).any hit) = bv := ⟨_, rfl⟩
                have Hst := Lib.hid (show (!gh || (p1.take (j + 1)).any hit) = (bv || hit q) by rw [hst, ← hbv, Bool.or_assoc])
                rw [hbv]
                have HWi := Lib.hid fun (dq : _) (osq : _) => (within_any q.path x.path («Sort».grow (redrawn wr dq) osq) (by omega)).mono fun e w' (h : e = .returned (.bool (withinG q.path x.path)) ∧ _ = w') => (⟨h.1, h.2 ▸ Below.refl _ _⟩ : e = .returned (.bool (withinG q.path x.path)) ∧ Below («Sort».grow (redrawn wr dq) osq).heap.size («Sort».grow (redrawn wr dq) osq) w')
                obtain ⟨wv, hwv⟩ : ∃ wv, withinG q.path x.path = wv := ⟨_, rfl⟩
                rw [hwv] at HWi
                have Hq2 := Lib.hid (show hit q = (!q.ghost && q.path.toList != x.path.toList && wv) by rw [Hhit.out, ← hwv])
                have a0 := cell_regrown y0
                have a4 := cell_regrown y4
                have a5 := cell_regrown t0
                clear hq hst hbv hwv hX7
                obtain ⟨qg, hqg⟩ : ∃ g, q.ghost = g := ⟨_, rfl⟩
                rw [hqg] at a4 y4 Hq2
                obtain ⟨ne, hne⟩ : ∃ ne, (q.path.toList != x.path.toList) = ne := ⟨_, rfl⟩
                have Hq3 := Lib.hid (show hit q = (!qg && ne && wv) by rw [Hq2.out, hne])
                have hne2 : (q.path.toList == x.path.toList) = !ne := by rw [← hne]; simp [bne]
                clear hqg Hq2 hne
                cases bv <;> cases qg <;> cases ne
                all_goals
                  go_wp2_with fail
                  refine wp_region_quiet_below (by kernel_rfl) (by kernel_rfl) ?_
                  repeat (go_big_quiet_step (exact Calls.regrown_of (HWi.out _ _)))
                  refine wpQuiet_nil ?_
                  intro _ hw'
                  obtain ⟨⟨dq, osq⟩, hw''⟩ := hw'
                  subst hw''
                  go_wp2_with fail
                  go_roundw
                  case rel => exact ⟨j + 1, by omega, by go_num, by rw [Hst.out, Hq3.out]; simp, hb2.trans ((below_regrown wr dq osq).mono hb2.size)⟩
                  case measure => simp [RowKit.intOf]; omega
              · obtain rfl : j = p1.length := by omega
                rw [List.take_length]
                have hbel : (!gh || p1.any hit) = true := by
                  cases gh with
                  | false => rfl
                  | true =>
                    obtain ⟨q, hq, h1, h2, h3⟩ := ghost_over Hxm.out Hgh.out
                    rw [← Hg2.out] at hq
                    rw [Bool.not_true, Bool.false_or]
                    refine List.any_eq_true.2 ⟨q, hq, ?_⟩
                    rw [Hhit.out]
                    dsimp only
                    rw [h1, h3]
                    have : (q.path.toList != x.path.toList) = true := bne_iff_ne.2 (fun e => h2 (toList_inj.1 e))
                    rw [this]
                    rfl
                rw [hbel]
                have hb7 := hb6.trans (hb2.mono hb6.size)
                have hX7 := hX6.keeps hb2 hX6.1
                obtain ⟨wd, hwd⟩ : ∃ wd, wd = wr := ⟨_, rfl⟩
                subst hwd
                have Hdir := Lib.hid fun (d : ByteArray) (v : List UInt8) (e : pI x = d.data.toList ++ 47 :: v) => proj_dirs Hrel.out Hun.out Hxm.out e
                have HAp := Lib.hid fun (j : Nat) W (h : Below w3.heap.size w3 W) => at_any (some ⟨b, off, none⟩) c2 p1 (x.path.extract 0 j) W (by omega) (HP1.out W h)
                clear hbel s4
                go_wp2_with fail
                go_loopw [14] (fun i wq => ∃ j : Nat, j ≤ x.path.size ∧ i = .int .i64 j ∧ Below wd.heap.size wd wq) (fun i _ => x.path.size - (RowKit.intOf i).toNat)
                case atStart => exact ⟨0, Nat.zero_le _, rfl, Below.refl _ _⟩
                case round =>
                  obtain ⟨j, hj, rfl, hb3⟩ := hrel
                  have hX8 := hX7.keeps hb3 hX7.1
                  have t0 := hX8.2.2 0 _ rfl
                  have hb8 := hb7.trans (hb3.mono hb7.size)
                  by_cases hjt : j < x.path.size
                  · have hjti : (j : Int) < (x.path.size : Int) := by omega
                    have hjt0 : (0 : Int) ≤ (j : Int) := by omega
                    by_cases h47 : (x.path[j].toNat : Int) = 47
                    · have b47 : ((x.path[j].toNat : Int) == 47) = true := by simpa using h47
                      obtain ⟨q, hq, hqd⟩ := Hdir.out (x.path.extract 0 j) (x.path.data.toList.drop (j + 1)) (cut_at x.path j hjt h47)
                      rw [← Hg2.out] at hq
                      have hAp := HAp.out j wr hb8
                      rw [hq] at hAp
                      obtain ⟨qp, qc, qw, qd, qg, qm⟩ := q
                      dsimp only at hqd
                      subst hqd
                      dsimp only at hAp
                      unfold Itm.agg at hAp
                      dsimp only at hAp
                      have HAq := Lib.hid hAp
                      clear hq hAp h47
                      go_wp2_with fail
                      refine HAq.out.mono ?_
                      rintro e v1 ⟨rfl, hc1⟩
                      have hA2 := (Below.refl v1.heap.size v1).alloc (Nat.le_refl _) (.cells #[.string qp, .int .i64 qc, .int .i64 qw, .bool true, .bool qg, .string qm] 31)
                      have c3 := (VarAt.new v1 #[.string qp, .int .i64 qc, .int .i64 qw, .bool true, .bool qg, .string qm] 31).2.2 3 _ rfl
                      have hb9 := (hb3.trans (hc1.mono hb3.size))
                      have hb10 := hb9.trans (hA2.mono hb9.size)
                      go_wp2_with fail
                      go_roundw
                      case rel => exact ⟨j + 1, by omega, by go_num, hb10⟩
                      case measure => simp [RowKit.intOf]; omega
                    · have b47 : ((x.path[j].toNat : Int) == 47) = false := by simpa using h47
                      clear h47
                      go_wp2_with fail
                      go_roundw
                      case rel => exact ⟨j + 1, by omega, by go_num, hb3⟩
                      case measure => simp [RowKit.intOf]; omega
                  · obtain rfl : j = x.path.size := by omega
                    go_wp2_with fail
                    go_roundw
                    case rel => exact ⟨k + 1, by omega, by go_num, hb8⟩
                    case measure => simp [RowKit.intOf]; omega
      · obtain rfl : k = p1.length := by omega
        go_wp2_with fail
        go_loopw [17, 18] (fun n i wr => ∃ k : Nat, k ≤ l1.length ∧ i = .int .i64 k ∧ n = .int .i64 (((l1.take k).filter fun z => inG r1 z).length : Int) ∧ Below w3.heap.size w3 wr) (fun _ i _ => l1.length - (RowKit.intOf i).toNat)
        case atStart => exact ⟨0, Nat.zero_le _, rfl, by simp, hb⟩
        case round =>
          clear hb
          obtain ⟨k, hk, rfl, rfl, hb⟩ := hrel
          by_cases hlt : k < l1.length
          · obtain ⟨x, hx⟩ := at_some hlt
            obtain ⟨b, off, hae, hbl, z0, z1, z2, z3, z4, z5⟩ := itm_at (HL.out wr hb) hx
            subst hae
            have hst : (l1.take (k + 1)).filter (fun z => inG r1 z) = (l1.take k).filter (fun z => inG r1 z) ++ if inG r1 x then [x] else [] := by
              rw [List.take_add_one, hx, Option.toList_some, List.filter_append, List.filter_cons, List.filter_nil]
            have hlti : (k : Int) < (l1.length : Int) := by omega
            have hlt0 : (0 : Int) ≤ (k : Int) := by omega
            have hfl2 : ((l1.take k).filter fun z => inG r1 z).length ≤ l1.length := Nat.le_trans (List.length_filter_le _ _) (by rw [List.length_take]; omega)
            obtain ⟨n2, hn2⟩ : ∃ n2, ((l1.take k).filter fun z => inG r1 z).length = n2 := ⟨_, rfl⟩
            rw [hn2] at hfl2 ⊢
            obtain ⟨m1, hm1⟩ : ∃ m, inG r1 x = m := ⟨_, rfl⟩
            rw [hm1] at hst
            have Hst := Lib.hid (congrArg List.length hst)
            have Hn2 := Lib.hid hn2
            have hpz := (Hgd.out x (List.mem_of_getElem? hx)).2
            have hw := hbw.trans (hb.mono hbw.size)
            have K1 : OKR w b1 r1 x m1 := ⟨HR1.out, Hq.out.1, Hq.out.2, hm1⟩
            have HMg := Lib.hid fun (b : Option Addr) (d : Nat) (r : List Rul) (m : Bool) (h : OKR w b r x m) (dq : _) (osq : _) => okr_match (wr := wr) (d := d) h hw hpz dq osq
            clear hx hst hn2 hm1 hw
            have q0 := cell_regrown z0
            have q1 := cell_regrown z1
            have q2 := cell_regrown z2
            have q3 := cell_regrown z3
            have q4 := cell_regrown z4
            have q5 := cell_regrown z5
            cases m1 with
            | false =>
              go_wp2_with fail
              refine wp_region_quiet_below (by kernel_rfl) (by kernel_rfl) ?_
              repeat (go_big_quiet_step (exact Calls.regrown_of (HMg.out _ _ _ _ (by assumption) _ _)))
              refine wpQuiet_nil ?_
              intro _ hw'
              obtain ⟨⟨dq, osq⟩, hw''⟩ := hw'
              subst hw''
              clear q0 q1 q2 q3 q4 q5
              have hbq := below_regrown wr dq osq
              generalize «Sort».grow (redrawn wr dq) osq = wq at *
              go_wp2_with fail
              go_roundw
              case rel => exact ⟨k + 1, by omega, by go_num, by rw [Hst.out, List.length_append, Hn2.out]; simp, hb.trans (hbq.mono hb.size)⟩
              case measure => simp [RowKit.intOf]; omega
            | true =>
              go_wp2_with fail
              refine wp_region_quiet_below (by kernel_rfl) (by kernel_rfl) ?_
              repeat (go_big_quiet_step (exact Calls.regrown_of (HMg.out _ _ _ _ (by assumption) _ _)))
              refine wpQuiet_nil ?_
              intro _ hw'
              obtain ⟨⟨dq, osq⟩, hw''⟩ := hw'
              subst hw''
              clear q0 q1 q2 q3 q4 q5
              have hbq := below_regrown wr dq osq
              generalize «Sort».grow (redrawn wr dq) osq = wq at *
              have hwn : IntKind.i64.wrap ((n2 : Int) + 1) = (n2 : Int) + 1 := IntWalk.i64_in _ (by omega)
              go_wp2_with fail
              go_roundw
              case rel => exact ⟨k + 1, by omega, by go_num, by rw [Hst.out, List.length_append, Hn2.out]; simp, hb.trans (hbq.mono hb.size)⟩
              case measure => simp [RowKit.intOf]; omega
          · obtain rfl : k = l1.length := by omega
            rw [List.take_length, ← Hcnt.out]
            go_wp2_with fail
            go_loopw [17, 19] (fun n i wr => ∃ k : Nat, k ≤ p1.length ∧ i = .int .i64 k ∧ n = .int .i64 (((p1.filter fun y => !y.ghost).length : Int) - (((p1.take k).filter fun y => !y.ghost).length : Int)) ∧ Below w3.heap.size w3 wr) (fun _ i _ => p1.length - (RowKit.intOf i).toNat)
            case atStart => exact ⟨0, Nat.zero_le _, rfl, by simp, hb⟩
            case round =>
              clear hb
              obtain ⟨k, hk, rfl, rfl, hb⟩ := hrel
              by_cases hlt : k < p1.length
              · obtain ⟨y, hy⟩ := at_some hlt
                obtain ⟨b, off, hae, hbl, z0, z1, z2, z3, z4, z5⟩ := itm_at (HP1.out wr hb) hy
                subst hae
                have hst : (p1.take (k + 1)).filter (fun y => !y.ghost) = (p1.take k).filter (fun y => !y.ghost) ++ if y.ghost then [] else [y] := by
                  rw [List.take_add_one, hy, Option.toList_some, List.filter_append, List.filter_cons, List.filter_nil]
                  cases y.ghost <;> rfl
                have hlti : (k : Int) < (p1.length : Int) := by omega
                have hlt0 : (0 : Int) ≤ (k : Int) := by omega
                have hfl1 : (p1.filter fun y => !y.ghost).length ≤ p1.length := List.length_filter_le _ _
                have hfl2 : ((p1.take k).filter fun y => !y.ghost).length ≤ p1.length := Nat.le_trans (List.length_filter_le _ _) (by rw [List.length_take]; omega)
                obtain ⟨n1, hn1⟩ : ∃ n1, (p1.filter fun y => !y.ghost).length = n1 := ⟨_, rfl⟩
                obtain ⟨n2, hn2⟩ : ∃ n2, ((p1.take k).filter fun y => !y.ghost).length = n2 := ⟨_, rfl⟩
                rw [hn1] at hfl1 ⊢
                rw [hn2] at hfl2 ⊢
                obtain ⟨g, hg⟩ : ∃ g, y.ghost = g := ⟨_, rfl⟩
                rw [hg] at z4 hst
                have Hst := Lib.hid (congrArg List.length hst)
                have Hn2 := Lib.hid hn2
                clear hy hst hn1 hn2 hg
                cases g with
                | true =>
                  go_wp2_with fail
                  go_roundw
                  case rel => exact ⟨k + 1, by omega, by go_num, by rw [Hst.out, List.length_append, Hn2.out]; simp, hb⟩
                  case measure => simp [RowKit.intOf]; omega
                | false =>
                  have hwn : IntKind.i64.wrap (((n1 : Int) - (n2 : Int)) - 1) = ((n1 : Int) - (n2 : Int)) - 1 := IntWalk.i64_in _ (by omega)
                  go_wp2_with fail
                  go_roundw
                  case rel => exact ⟨k + 1, by omega, by go_num, by rw [Hst.out, List.length_append, Hn2.out]; first | (simp; omega) | (congr 1; simp; omega), hb⟩
                  case measure => simp [RowKit.intOf]; omega
              · obtain rfl : k = p1.length := by omega
                rw [List.take_length, Int.sub_self]
                have hwr := hbw.trans (hb.mono hbw.size)
                go_wp2_with fail
                refine (HAW.out _).mono ?_
                rintro e w5 ⟨rfl, hb5⟩
                go_wp2_with fail
                go_ret
                exact ⟨rfl, hwr.trans (hb5.mono hwr.size)⟩
end Go.Proofs.YtfbdbjookkogjaaGreatDoor
