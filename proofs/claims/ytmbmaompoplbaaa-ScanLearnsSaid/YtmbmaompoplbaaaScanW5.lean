import Derived.Test.YtmbmaompoplbaaaScanW4
namespace Go.Proofs.Ytmbmaompoplbaaa
open Go.RowKit Go.Lib

theorem madeK_step {old now : List KEnt} {k : Nat} {x : KEnt} (h : now[k]? = some x) : madeK old now (k + 1) = if (now.findIdx? fun y => decide (y.id = x.id)) = some k then madeK old now k ++ chgsK old now x else madeK old now k := by simp only [madeK, h]
theorem diffK_step {old now : List KEnt} {k : Nat} {y : KEnt} (h : old[k]? = some y) : diffK old now (k + 1) = if dropB old now k y then diffK old now k ++ [⟨4, y.id, y.path, y.dir, ⟨#[]⟩⟩] else diffK old now k := by simp only [diffK, h]
theorem chgsK_length (old now : List KEnt) (x : KEnt) : (chgsK old now x).length ≤ 2 := by
  unfold chgsK
  split
  · simp
  · simp only [List.length_append]
    split <;> split <;> simp
theorem madeK_length (old now : List KEnt) : ∀ k, (madeK old now k).length ≤ 2 * k
  | 0 => Nat.le_refl _
  | k + 1 => by
    have := madeK_length old now k
    unfold madeK
    split
    · split
      · rename_i x _ _
        have := chgsK_length old now x
        simp only [List.length_append]; omega
      · omega
    · omega
theorem diffK_length (old now : List KEnt) : ∀ k, (diffK old now k).length ≤ 2 * now.length + k
  | 0 => madeK_length _ _ _
  | k + 1 => by
    have := diffK_length old now k
    unfold diffK
    split
    · split
      · simp only [List.length_append, List.length_cons, List.length_nil]; omega
      · omega
    · omega
theorem idx_some {l : List KEnt} {k : Nat} {x : KEnt} (h : l[k]? = some x) : ∃ j, (l.findIdx? fun y => decide (y.id = x.id)) = some j := by
  cases hf : l.findIdx? fun y => decide (y.id = x.id) with
  | some j => exact ⟨j, rfl⟩
  | none =>
    rw [List.findIdx?_eq_none_iff] at hf
    have := hf x (List.mem_of_getElem? h)
    simp at this
theorem firstF_at {l : List KEnt} {id : Int} {j : Nat} (h : (l.findIdx? fun y => decide (y.id = id)) = some j) : (firstF l 0 id).getD (.int .i64 0) = .int .i64 j := by
  unfold firstF; rw [h]; simp

set_option maxRecDepth 100000 in
set_option maxHeartbeats 3200000 in
theorem diff_any (a a' : Option Addr) (cap cap' : Nat) (old : List KEnt) (nowE : List Ent) (w : World) (hl : old.length ≤ 1000) (hl' : nowE.length ≤ 1000) (hpo : ∀ y ∈ old, y.path.size ≤ 100000) (hpn : ∀ y ∈ nowE, y.path.size ≤ 100000) (ha : RowsAt kLay w a old) (ha' : RowsAt entLay w a' nowE) :
    Calls Try.prog 17 #[.slice a old.length cap, .slice a' nowE.length cap'] w fun e w' => ∃ v, e = .returned v ∧ OwnRows chLay w' w.heap.size 50 v (scanK old nowE) ∧ Below w.heap.size w w' := by
  have HA := Lib.hid ha
  have HS := Lib.hid (sheet_any a cap old w hl ha)
  have HL := Lib.hid fun W (hb : Below w.heap.size w W) => learn_any a' cap' nowE W hl' (ha'.keeps hb)
  unfold scanK
  have hln : (nowE.map toK).length ≤ 1000 := by simpa using hl'
  have hpn' : ∀ y ∈ nowE.map toK, y.path.size ≤ 100000 := by
    intro y hy
    obtain ⟨z, hz, rfl⟩ := List.mem_map.1 hy
    exact hpn z hz
  generalize nowE.map toK = now at *
  have Hpn := Lib.hid hpn'
  have Hpo := Lib.hid hpo
  obtain ⟨i0, hi, hz0, hz1, hz2⟩ := info_parts chInfo
  have Hi := Lib.hid hi
  have Hz0 := Lib.hid hz0
  have Hz1 := Lib.hid hz1
  have Hz2 := Lib.hid hz2
  clear hi hz0 hz1 hz2 ha ha' hpn hpn' hpo hl'
  go_enter Try.func17, Try.ntmps17
  go_wp2_with fail
  refine HS.out.mono ?_
  rintro e w1 ⟨g, rfl, hsg, hb1⟩
  go_wp2_with fail
  refine (HL.out _ hb1).mono ?_
  rintro e w2 ⟨v0, rfl, hov, hb2⟩
  have hsg := hsg.keeps hb2
  have hb2 := hb1.trans (hb2.mono hb1.size)
  obtain ⟨a2, cap2, rfl, hr2, _⟩ := hov.read
  clear hov hb1
  go_wp2_with fail
  refine (sheet_any a2 cap2 now w2 hln hr2).mono ?_
  rintro e w3 ⟨h, rfl, hsh, hb3⟩
  have hsg := hsg.keeps hb3
  have hb3 := hb2.trans (hb3.mono hb2.size)
  clear hb2 hr2
  have HSG := Lib.hid hsg
  have HSH := Lib.hid hsh
  obtain ⟨hhl, ax, capx, b1, n1, b2, n2, h0, h1, h2, hrx, m1, m2⟩ := hsh
  have HRX := Lib.hid hrx
  clear hsg m1 m2 hrx h1 h2
  go_wp2_with fail
  clear h0
  go_loopw [7, 26] (fun va i wr => ∃ k : Nat, k ≤ now.length ∧ i = .int .i64 k ∧ OwnRows chLay wr w3.heap.size 50 va (madeK old now k) ∧ Below w3.heap.size w3 wr) (fun _ i _ => now.length - (RowKit.intOf i).toNat)
  case atStart => exact ⟨0, Nat.zero_le _, rfl, OwnRows.nil _ _ _ _, Below.refl _ _⟩
  case round =>
    obtain ⟨k, hk, rfl, hoa, hb⟩ := hrel
    by_cases hlt : k < now.length
    · obtain ⟨x, hx⟩ := at_some hlt
      obtain ⟨b, off, rfl, hbl, c0, c1, c2, c3⟩ := k_at (HRX.out.keeps hb) hx
      have hpx := Hpn.out x (List.mem_of_getElem? hx)
      have hst := madeK_step (old := old) hx
      obtain ⟨j, hj⟩ := idx_some hx
      rw [hj] at hst
      have hsl := madeK_length old now k
      have hcl := chgsK_length old now x
      have HC := Lib.hid fun W (hbw : Below w3.heap.size w3 W) => changes_any g h old now x W hpx Hpo.out (HSG.out.keeps hbw) (HSH.out.keeps hbw)
      have hfj := firstF_at hj
      obtain ⟨xi, xp, xd, xt⟩ := x
      dsimp only at c0 c1 c2 c3 hst HC hfj
      have hoa1 := hoa.alloc (.cells #[.int .i64 xi, .string xp, .bool xd, .string xt] 34)
      have hb1 := hb.alloc hb.size (.cells #[.int .i64 xi, .string xp, .bool xd, .string xt] 34)
      obtain ⟨hhl, ay, capy, b1, n1, b2, n2, h0, h1, h2, hry, m1, m2⟩ := HSH.out.keeps hb1
      have hl1 := fun n => (m1.drewN n).lookup intK Try.underlying57 xi (zeroInt _)
      simp only [hfj] at hl1
      clear hry m1 m2 h0 h2 hfj
      generalize madeK old now k = acts at *
      generalize chgsK old now ⟨xi, xp, xd, xt⟩ = more at *
      have Hst := Lib.hid hst
      clear hst hx hj
      have hb1s := hb1.size
      by_cases hjk : j = k
      · have e1 : ((j : Int) == (k : Int)) = true := by rw [hjk]; simp
        have Hjk := Lib.hid hjk
        clear hjk
        go_wp2_with fail
        go_quiet (fail)
        have hb2 := below_drewN hb1 nq
        have hoa2 := hoa1.drewN nq
        go_wp2_with fail
        refine (HC.out _ hb2).mono ?_
        rintro e w5 ⟨vm, rfl, hom, hbm⟩
        have hoa3 := hoa2.below hbm
        have hb3' := hb2.trans (hbm.mono hb2.size)
        have hs3 := hb3'.size
        clear hoa hoa1 hoa2 hbm hb2 hb1 hl1 h1 c0 c1 c2 c3
        go_wp2_with (at_builtin; refine wpList_append_all _ rfl _ _ 47 rfl chLay w3.heap.size 50 i0 (.agg #[.int .i64 0, .int .i64 0, .string ⟨#[]⟩, .bool false, .string ⟨#[]⟩]) 56 Try.underlying47 Hi.out Hz0.out Hz1.out Hz2.out rfl (by decide) _ _ rfl hoa3 _ _ _ rfl hom (by unfold maxLen; omega) (by omega) hs3 ?_)
        intro va w6 hoa4 hg4 _
        have hb4 := hb3'.grown hg4 hs3 (fun j ej => (hoa3.lt ej).1)
        clear hg4 hoa3 hb3'
        go_wp2_with fail
        go_roundw
        case rel =>
          refine ⟨k + 1, by omega, by go_num, ?_, hb4⟩
          rw [Hst.out]
          simpa [Hjk.out] using hoa4
        case measure => simp [RowKit.intOf]; omega
      · have e1 : ((j : Int) == (k : Int)) = false := by rw [beq_eq_false_iff_ne]; omega
        have Hjk := Lib.hid hjk
        clear hjk
        go_wp2_with fail
        go_quiet (fail)
        have hb2 := below_drewN hb1 nq
        have hoa2 := hoa1.drewN nq
        go_wp2_with fail
        go_roundw
        case rel =>
          refine ⟨k + 1, by omega, by go_num, ?_, hb2⟩
          rw [Hst.out]
          simpa [Hjk.out] using hoa2
        case measure => simp [RowKit.intOf]; omega
    · obtain rfl : k = now.length := by omega
      obtain ⟨wo, hwo⟩ : ∃ wo : World, wo = wr := ⟨_, rfl⟩
      subst hwo
      clear HRX HS HL
      go_wp2_with fail
      go_loopw [7, 49] (fun va i wr => ∃ k : Nat, k ≤ old.length ∧ i = .int .i64 k ∧ OwnRows chLay wr w3.heap.size 50 va (diffK old now k) ∧ Below w3.heap.size w3 wr) (fun _ i _ => old.length - (RowKit.intOf i).toNat)
      case atStart => exact ⟨0, Nat.zero_le _, rfl, hoa, hb⟩
      case round =>
        clear hoa hb
        obtain ⟨k, hk, rfl, hoa, hb⟩ := hrel
        by_cases hlt : k < old.length
        · obtain ⟨y, hy⟩ := at_some hlt
          obtain ⟨b, off, rfl, hbl, c0, c1, c2, c3⟩ := k_at (HA.out.keeps (hb3.trans (hb.mono hb3.size))) hy
          have hpy := Hpo.out y (List.mem_of_getElem? hy)
          have hst := diffK_step (now := now) hy
          obtain ⟨j, hj⟩ := idx_some hy
          have hsl := diffK_length old now k
          have HK := Lib.hid fun id W (hbw : Below w3.heap.size w3 W) => kept_any g h old now id W (HSG.out.keeps hbw) (HSH.out.keeps hbw)
          have hfj := firstF_at hj
          obtain ⟨yi, yp, yd, yt⟩ := y
          dsimp only at c0 c1 c2 c3 hst hfj hpy hj
          have HP := Lib.hid fun W => split_any yp W hpy
          have hoa1 := hoa.alloc (.cells #[.int .i64 yi, .string yp, .bool yd, .string yt] 34)
          have hb1 := hb.alloc hb.size (.cells #[.int .i64 yi, .string yp, .bool yd, .string yt] 34)
          obtain ⟨hgl, ay, capy, b1, n1, b2, n2, h0, h1, h2, hry, m1, m2⟩ := HSG.out.keeps hb1
          have hl1 := fun n => (m1.drewN n).lookup intK Try.underlying57 yi (zeroInt _)
          simp only [hfj] at hl1
          clear hry m2 h0 h2
          generalize diffK old now k = acts at *
          have hb1s := hb1.size
          have hdr : dropB old now k ⟨yi, yp, yd, yt⟩ = (decide (j = k) && !keptK old now yi && (decide ((splitK yp).1 = ⟨#[]⟩) || atK old now (splitK yp).1)) := by
            unfold dropB
            dsimp only
            rw [hj]
            simp
          rw [hdr] at hst
          have Hst := Lib.hid hst
          clear hst hy hj hdr hpy
          by_cases hjk : j = k
          · have e1 : ((j : Int) != (k : Int)) = false := by rw [hjk]; simp
            have Hjk := Lib.hid hjk
            clear hjk
            go_wp2_with fail
            have q0 : (wr.alloc (.cells #[.int .i64 yi, .string yp, .bool yd, .string yt] 34)).cell? ⟨wr.heap.size, 0, none⟩ = some (.int .i64 yi) := by simp
            have q1 : (wr.alloc (.cells #[.int .i64 yi, .string yp, .bool yd, .string yt] 34)).cell? ⟨wr.heap.size, 1, none⟩ = some (.string yp) := by simp
            have q2 : (wr.alloc (.cells #[.int .i64 yi, .string yp, .bool yd, .string yt] 34)).cell? ⟨wr.heap.size, 2, none⟩ = some (.bool yd) := by simp
            have hqs : wr.heap.size < (wr.alloc (.cells #[.int .i64 yi, .string yp, .bool yd, .string yt] 34)).heap.size := by simp
            clear hl1 hoa hb c0 c1 c2 c3
            generalize wr.alloc (.cells #[.int .i64 yi, .string yp, .bool yd, .string yt] 34) = wq at *
            have hl2 := (m1.of_block (w' := wq.drew) rfl).lookup intK Try.underlying57 yi (zeroInt _)
            rw [hfj] at hl2
            have hraw : ∀ p, World.cell? { heap := wq.heap, tape := wq.tape, drawn := wq.drawn + 1, os := wq.os, output := wq.output } p = wq.cell? p := fun _ => rfl
            clear hfj m1
            go_still_tail 14, (by kernel_rfl)
            change wpList _ _ _ _ _ wq.drew
            clear hraw hl2
            go_wp2_with fail
            have hb2 : Below w3.heap.size w3 wq.drew := hb1.drew
            refine (HK.out yi _ hb2).mono ?_
            generalize hkp : keptK old now yi = kp at *
            have Hkp := Lib.hid hkp
            clear hkp
            rintro e w5 ⟨rfl, hbm⟩
            have hb5 := hb2.trans (hbm.mono hb2.size)
            have hoa5 := (show OwnRows chLay wq.drew w3.heap.size 50 u7 acts from hoa1).below hbm
            have r0 : w5.cell? ⟨wr.heap.size, 0, none⟩ = some (.int .i64 yi) := (hbm.cell (p := ⟨wr.heap.size, 0, none⟩) hqs).trans q0
            have r1 : w5.cell? ⟨wr.heap.size, 1, none⟩ = some (.string yp) := (hbm.cell (p := ⟨wr.heap.size, 1, none⟩) hqs).trans q1
            have r2 : w5.cell? ⟨wr.heap.size, 2, none⟩ = some (.bool yd) := (hbm.cell (p := ⟨wr.heap.size, 2, none⟩) hqs).trans q2
            have hqs5 : wr.heap.size < w5.heap.size := Nat.lt_of_lt_of_le hqs hbm.size
            clear hbm hoa1 hb1 hb2 q0 q1 q2 hqs h1 hb1s
            cases kp with
            | true =>
              go_wp2_with fail
              go_roundw
              case rel =>
                refine ⟨k + 1, by omega, by go_num, ?_, hb5⟩
                rw [Hst.out]
                simpa [Hjk.out, Hkp.out] using hoa5
              case measure => simp [RowKit.intOf]; omega
            | false =>
              obtain ⟨dir, hdir⟩ : ∃ d, (splitK yp).1 = d := ⟨_, rfl⟩
              obtain ⟨nm, hnm⟩ : ∃ d, (splitK yp).2 = d := ⟨_, rfl⟩
              rw [hdir] at Hst
              rw [hdir, hnm] at HP
              have hat : atK old now dir = match old.find? fun x => decide (x.path = dir) with | some z => keptK old now z.id | none => true := rfl
              have hidd : idF old dir = (old.find? fun x => decide (x.path = dir)).map fun x => .int .i64 x.id := rfl
              clear hdir hnm
              go_wp2_with fail
              refine (HP.out _).mono ?_
              rintro e w6 ⟨rfl, hbm⟩
              have hb6 := hb5.trans (hbm.mono hb5.size)
              have hoa6 := hoa5.below hbm
              have s0 : w6.cell? ⟨wr.heap.size, 0, none⟩ = some (.int .i64 yi) := (hbm.cell (p := ⟨wr.heap.size, 0, none⟩) hqs5).trans r0
              have s1 : w6.cell? ⟨wr.heap.size, 1, none⟩ = some (.string yp) := (hbm.cell (p := ⟨wr.heap.size, 1, none⟩) hqs5).trans r1
              have s2 : w6.cell? ⟨wr.heap.size, 2, none⟩ = some (.bool yd) := (hbm.cell (p := ⟨wr.heap.size, 2, none⟩) hqs5).trans r2
              have hqs6 : wr.heap.size < w6.heap.size := Nat.lt_of_lt_of_le hqs5 hbm.size
              clear hbm hoa5 hb5 r0 r1 r2 hqs5 HP
              obtain ⟨_, az, capz, c1', m1', c2', m2', z0, z1, z2, hrz, mm1, mm2⟩ := HSG.out.keeps hb6
              have hl3 := mm2.lookup_ok mapK Try.underlying58 dir (zeroInt _)
              rw [hidd] at hl3
              clear mm1 mm2 hrz z0 z1 hidd
              cases hfd : old.find? (fun x => decide (x.path = dir)) with
              | none =>
                rw [hfd] at hl3 hat
                simp only [Option.map_none, Option.getD_none, Option.isSome_none] at hl3
                have Hat := Lib.hid hat
                clear hat hfd
                by_cases hd : dir = ⟨#[]⟩
                · have e3 := str_eq hd
                  subst hd
                  go_wp2_with (at_builtin; refine wpList_append_rows _ rfl _ _ 47 rfl chLay w3.heap.size 50 i0 (.agg #[.int .i64 0, .int .i64 0, .string ⟨#[]⟩, .bool false, .string ⟨#[]⟩]) 56 Try.underlying47 Hi.out Hz0.out Hz1.out Hz2.out rfl (by decide) _ _ rfl (hoa6.alloc _) ⟨w6.heap.size, 0, none⟩ 1 ⟨4, yi, yp, yd, ⟨#[]⟩⟩ rfl (cells_new_at w6 w6.heap.size #[.int .i64 4, .int .i64 yi, .string yp, .bool yd, .string ⟨#[]⟩] 50 rfl) (by unfold maxLen; omega) (by omega) (by have := hb6.size; simp; omega) ?_)
                  intro va w9 hoa9 hg9 _
                  have hb9 := (hb6.alloc hb6.size (.cells #[.int .i64 4, .int .i64 yi, .string yp, .bool yd, .string ⟨#[]⟩] 50)).grown hg9 (by have := hb6.size; simp; omega) (fun j ej => (hoa6.lt ej).1)
                  clear hg9
                  go_wp2_with fail
                  go_roundw
                  case rel =>
                    refine ⟨k + 1, by omega, by go_num, ?_, hb9⟩
                    rw [Hst.out]
                    simpa [Hjk.out, Hkp.out, Hat.out] using hoa9
                  case measure => simp [RowKit.intOf]; omega
                · have e3 : dir.toList.isEmpty = false := empty_ne hd
                  clear hd
                  go_wp2_with (at_builtin; refine wpList_append_rows _ rfl _ _ 47 rfl chLay w3.heap.size 50 i0 (.agg #[.int .i64 0, .int .i64 0, .string ⟨#[]⟩, .bool false, .string ⟨#[]⟩]) 56 Try.underlying47 Hi.out Hz0.out Hz1.out Hz2.out rfl (by decide) _ _ rfl (hoa6.alloc _) ⟨w6.heap.size, 0, none⟩ 1 ⟨4, yi, yp, yd, ⟨#[]⟩⟩ rfl (cells_new_at w6 w6.heap.size #[.int .i64 4, .int .i64 yi, .string yp, .bool yd, .string ⟨#[]⟩] 50 rfl) (by unfold maxLen; omega) (by omega) (by have := hb6.size; simp; omega) ?_)
                  intro va w9 hoa9 hg9 _
                  have hb9 := (hb6.alloc hb6.size (.cells #[.int .i64 4, .int .i64 yi, .string yp, .bool yd, .string ⟨#[]⟩] 50)).grown hg9 (by have := hb6.size; simp; omega) (fun j ej => (hoa6.lt ej).1)
                  clear hg9
                  go_wp2_with fail
                  go_roundw
                  case rel =>
                    refine ⟨k + 1, by omega, by go_num, ?_, hb9⟩
                    rw [Hst.out]
                    simpa [Hjk.out, Hkp.out, Hat.out] using hoa9
                  case measure => simp [RowKit.intOf]; omega
              | some z =>
                rw [hfd] at hl3 hat
                simp only [Option.map_some, Option.getD_some, Option.isSome_some] at hl3
                dsimp only at hat
                clear hfd
                by_cases hd : dir = ⟨#[]⟩
                · have e3 := str_eq hd
                  subst hd
                  clear hat
                  go_wp2_with (at_builtin; refine wpList_append_rows _ rfl _ _ 47 rfl chLay w3.heap.size 50 i0 (.agg #[.int .i64 0, .int .i64 0, .string ⟨#[]⟩, .bool false, .string ⟨#[]⟩]) 56 Try.underlying47 Hi.out Hz0.out Hz1.out Hz2.out rfl (by decide) _ _ rfl (hoa6.alloc _) ⟨w6.heap.size, 0, none⟩ 1 ⟨4, yi, yp, yd, ⟨#[]⟩⟩ rfl (cells_new_at w6 w6.heap.size #[.int .i64 4, .int .i64 yi, .string yp, .bool yd, .string ⟨#[]⟩] 50 rfl) (by unfold maxLen; omega) (by omega) (by have := hb6.size; simp; omega) ?_)
                  intro va w9 hoa9 hg9 _
                  have hb9 := (hb6.alloc hb6.size (.cells #[.int .i64 4, .int .i64 yi, .string yp, .bool yd, .string ⟨#[]⟩] 50)).grown hg9 (by have := hb6.size; simp; omega) (fun j ej => (hoa6.lt ej).1)
                  clear hg9
                  go_wp2_with fail
                  go_roundw
                  case rel =>
                    refine ⟨k + 1, by omega, by go_num, ?_, hb9⟩
                    rw [Hst.out]
                    simpa [Hjk.out, Hkp.out] using hoa9
                  case measure => simp [RowKit.intOf]; omega
                · have e3 : dir.toList.isEmpty = false := empty_ne hd
                  have Hat := Lib.hid hat
                  have Hd := Lib.hid hd
                  clear hd hat
                  have HK2 := HK.out z.id _ hb6
                  generalize keptK old now z.id = kz at *
                  go_wp2_with fail
                  refine HK2.mono ?_
                  rintro e w7 ⟨rfl, hbm⟩
                  have hb7 := hb6.trans (hbm.mono hb6.size)
                  have hoa7 := hoa6.below hbm
                  have t0 : w7.cell? ⟨wr.heap.size, 0, none⟩ = some (.int .i64 yi) := (hbm.cell (p := ⟨wr.heap.size, 0, none⟩) hqs6).trans s0
                  have t1 : w7.cell? ⟨wr.heap.size, 1, none⟩ = some (.string yp) := (hbm.cell (p := ⟨wr.heap.size, 1, none⟩) hqs6).trans s1
                  have t2 : w7.cell? ⟨wr.heap.size, 2, none⟩ = some (.bool yd) := (hbm.cell (p := ⟨wr.heap.size, 2, none⟩) hqs6).trans s2
                  clear hbm hoa6 hb6 s0 s1 s2 hqs6 hl3 z2
                  cases kz with
                  | false =>
                    go_wp2_with fail
                    go_roundw
                    case rel =>
                      refine ⟨k + 1, by omega, by go_num, ?_, hb7⟩
                      rw [Hst.out]
                      simpa [Hjk.out, Hkp.out, Hat.out, Hd.out] using hoa7
                    case measure => simp [RowKit.intOf]; omega
                  | true =>
                    go_wp2_with (at_builtin; refine wpList_append_rows _ rfl _ _ 47 rfl chLay w3.heap.size 50 i0 (.agg #[.int .i64 0, .int .i64 0, .string ⟨#[]⟩, .bool false, .string ⟨#[]⟩]) 56 Try.underlying47 Hi.out Hz0.out Hz1.out Hz2.out rfl (by decide) _ _ rfl (hoa7.alloc _) ⟨w7.heap.size, 0, none⟩ 1 ⟨4, yi, yp, yd, ⟨#[]⟩⟩ rfl (cells_new_at w7 w7.heap.size #[.int .i64 4, .int .i64 yi, .string yp, .bool yd, .string ⟨#[]⟩] 50 rfl) (by unfold maxLen; omega) (by omega) (by have := hb7.size; simp; omega) ?_)
                    intro va w9 hoa9 hg9 _
                    have hb9 := (hb7.alloc hb7.size (.cells #[.int .i64 4, .int .i64 yi, .string yp, .bool yd, .string ⟨#[]⟩] 50)).grown hg9 (by have := hb7.size; simp; omega) (fun j ej => (hoa7.lt ej).1)
                    clear hg9
                    go_wp2_with fail
                    go_roundw
                    case rel =>
                      refine ⟨k + 1, by omega, by go_num, ?_, hb9⟩
                      rw [Hst.out]
                      simpa [Hjk.out, Hkp.out, Hat.out] using hoa9
                    case measure => simp [RowKit.intOf]; omega
          · have e1 : ((j : Int) != (k : Int)) = true := by rw [bne_iff_ne]; omega
            have Hjk := Lib.hid hjk
            clear hjk hfj m1
            go_wp2_with fail
            go_quiet (fail)
            have hb2 := below_drewN hb1 nq
            have hoa2 := hoa1.drewN nq
            go_wp2_with fail
            go_roundw
            case rel =>
              refine ⟨k + 1, by omega, by go_num, ?_, hb2⟩
              rw [Hst.out]
              simpa [Hjk.out] using hoa2
            case measure => simp [RowKit.intOf]; omega
        · obtain rfl : k = old.length := by omega
          go_wp2_with fail
          go_ret
          exact ⟨_, rfl, hoa.lower hb3.size, hb3.trans (hb.mono hb3.size)⟩
end Go.Proofs.Ytmbmaompoplbaaa
