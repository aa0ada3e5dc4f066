/-
  What the nodes of a tree are called in its view: the law's walk.
-/
import Derived.Test.YtfbdbjookkogjaaDoorNamedPure
import Derived.Test.YtfbdbjookkogjaaDoorShownG
import Derived.Laws.Concat
import Derived.Deep.CutRange
import Derived.Lib.QuietBelow
namespace Go.Proofs.YtfbdbjookkogjaaDoor
open Go Go.RowKit Go.Lib
theorem dir_hit {s : ByteArray} {n : Nat} (h : n < s.size) (h47 : (s[n].toNat : Int) = 47) (hk : ∀ j (hj : j < s.size), (n : Int) < j → (s[j].toNat : Int) ≠ 47) : IsDir s (s.extract 0 n) := by
  have hps : s.data.toList.length = s.size := by rw [size_eq]
  have h2 : s.data.toList[n]'(by omega) = 47 := by
    have h3 : s[n] = 47 := by
      apply UInt8.toNat_inj.1
      have : s[n].toNat = 47 := by omega
      rw [this]
      rfl
    exact h3
  refine .inr ⟨s.data.toList.take n, s.data.toList.drop (n + 1), ?_, fun hm => ?_, ?_⟩
  · conv => lhs; rw [← List.take_append_drop n s.data.toList]
    rw [List.drop_eq_getElem_cons (by omega), h2]
  · obtain ⟨j, hj, e⟩ := List.mem_iff_getElem.1 hm
    rw [List.length_drop] at hj
    rw [List.getElem_drop] at e
    refine hk (n + 1 + j) (by omega) (by omega) ?_
    have h4 : s[n + 1 + j]'(by omega) = 47 := e
    rw [h4]
    rfl
  · rw [ByteArray.data_extract, Array.toList_extract]
    simp [List.extract_eq_take_drop]
theorem dir_miss {s : ByteArray} (hk : ∀ j (hj : j < s.size), (s[j].toNat : Int) ≠ 47) : IsDir s ⟨#[]⟩ := by
  have hps : s.data.toList.length = s.size := by rw [size_eq]
  refine .inl ⟨fun hm => ?_, rfl⟩
  obtain ⟨j, hj, e⟩ := List.mem_iff_getElem.1 hm
  refine hk j (by omega) ?_
  have h4 : s[j]'(by omega) = 47 := e
  rw [h4]
  rfl
set_option maxHeartbeats 400000 in
theorem dir_any (s : ByteArray) (w : World) (hs : s.size ≤ 140737488351232) :
    Calls Tryd.prog 23 #[.string s] w fun e w' => (∃ d, e = .returned (.string d) ∧ IsDir s d ∧ d.size ≤ s.size) ∧ w = w' := by
  have Hh := Lib.hid fun (n : Nat) (h : n < s.size) (h47 : (s[n].toNat : Int) = 47) (hk : ∀ j (hj : j < s.size), (n : Int) < j → (s[j].toNat : Int) ≠ 47) => dir_hit h h47 hk
  have Hm := Lib.hid fun (hk : ∀ j (hj : j < s.size), (s[j].toNat : Int) ≠ 47) => dir_miss hk
  go_enter Tryd.func23, Tryd.ntmps23
  go_wp2
  go_loop [3] (fun i => ∃ k : Int, -1 ≤ k ∧ k < s.size ∧ i = .int .i64 k ∧ Hid (∀ j (hj : j < s.size), k < j → (s[j].toNat : Int) ≠ 47)) (fun i => ((RowKit.intOf i) + 1).toNat)
  case atStart => exact ⟨_, by omega, by omega, rfl, fun j hj h => by omega⟩
  case round =>
    obtain ⟨k, hk1, hk2, rfl, Hk⟩ := hrel
    by_cases h0 : 0 ≤ k
    · obtain ⟨n, rfl⟩ : ∃ n : Nat, k = n := ⟨k.toNat, by omega⟩
      have hn : n < s.size := by omega
      by_cases h46 : (s[n].toNat : Int) = 47
      · have b46 : ((s[n].toNat : Int) == 47) = true := by simpa using h46
        have H46 := Lib.hid h46
        clear h46
        go_wp2
        go_ret
        exact ⟨⟨_, rfl, Hh.out n hn H46.out Hk.out, by rw [ByteArray.size_extract]; omega⟩, rfl⟩
      · have b46 : ((s[n].toNat : Int) == 47) = false := by simpa using h46
        have H46 := Lib.hid h46
        clear h46
        go_wp2
        go_round
        case rel =>
          refine ⟨(n : Int) - 1, by omega, by omega, rfl, fun j hj hlt => ?_⟩
          by_cases e : j = n
          · subst e; exact H46.out
          · exact Hk.out j hj (by omega)
        case measure => simp [RowKit.intOf]
    · go_wp2
      go_ret
      exact ⟨⟨⟨#[]⟩, rfl, Hm.out (fun j hj => Hk.out j hj (by omega)), Nat.zero_le _⟩, rfl⟩
theorem first_or (L : List Nd) (n : Nd) : (!(L.any (twinN n)) || L.all fun m => !twinN n m || ltNd n m) = L.all fun m => !twinN n m || ltNd n m := by
  cases h : L.any (twinN n) with
  | true => simp
  | false =>
    have : (L.all fun m => !twinN n m || ltNd n m) = true := by
      rw [List.all_eq_true]
      intro m hm
      have h2 := List.any_eq_false.1 h m hm
      simp [h2]
    rw [this]
    rfl
theorem viewF_zero {nodes : List Nd} (h : (viewF nodes).2 ≠ 0) : (viewF nodes).1 = [] := by
  unfold viewF at h ⊢
  split
  · rename_i h1
    rw [if_pos h1] at h
    exact absurd rfl h
  · rfl
set_option maxRecDepth 100000 in
set_option maxHeartbeats 6400000 in
theorem law_viewNames (a : Option Addr) (cap : Nat) (ops : List Opr) (w : World) (hl : ops.length ≤ 140737488351232) (ha : RowsAt oprLay w a ops) (hx : ∀ x ∈ ops, OpW x) (hT : Tab w) :
    Calls Tryd.prog 6 #[.slice a ops.length cap] w fun e w' => e = .returned (.bool true) ∧ Below w.heap.size w w' := by
  have HA := Lib.hid fun W (h : Below w.heap.size w W) => ha.keeps h
  have HAW := Lib.hid fun W (h : Below w.heap.size w W) => awake11_any W (tab_keeps hT h)
  have HT := Lib.hid fun W (h : Below w.heap.size w W) => tab_keeps hT h
  have HX := Lib.hid hx
  clear ha hT hx
  by_cases h60 : 60 < ops.length
  · have hq : decide ((ops.length : Int) > 60) = true := decide_eq_true (by omega)
    have hq2 : decide (60 < ops.length) = true := decide_eq_true h60
    go_enter Tryd.func6, Tryd.ntmps6
    go_wp2_with fail
    refine (HAW.out _ (Below.refl w.heap.size w)).mono ?_
    rintro e w9 ⟨rfl, hb9⟩
    go_wp2_with fail
    go_ret
    exact ⟨rfl, ((Below.refl w.heap.size w)).trans (hb9.mono ((Below.refl w.heap.size w)).size)⟩
  · have hq : decide ((ops.length : Int) > 60) = false := decide_eq_false (by omega)
    have hq2 : decide (60 < ops.length) = false := decide_eq_false h60
    have hq3 : decide ((60 : Int) < (ops.length : Int)) = false := decide_eq_false (by omega)
    go_enter Tryd.func6, Tryd.ntmps6
    go_wp2_with fail
    go_loopw [3] (fun i wr => ∃ k : Nat, k ≤ ops.length ∧ i = .int .i64 k ∧ Below w.heap.size w wr) (fun i _ => ops.length - (RowKit.intOf i).toNat)
    case atStart => exact ⟨0, Nat.zero_le _, rfl, Below.refl _ _⟩
    case round =>
      obtain ⟨k, hk, rfl, hb⟩ := hrel
      by_cases hlt : k < ops.length
      · obtain ⟨x, hx⟩ := at_some hlt
        obtain ⟨b, off, hae, hbl, c0, c1, c2, c3, c4, c5, c6, c7, c8, c9, c10⟩ := opr_at (HA.out _ hb) hx
        subst hae
        have HC := Lib.hid (cright_any x.nc x.nw wr)
        have hlti : (k : Int) < (ops.length : Int) := by omega
        have hlt0 : (0 : Int) ≤ (k : Int) := by omega
        clear hx
        by_cases hr : rightC x.nc x.nw = 0
        · rw [hr] at HC
          clear hr
          go_wp2_with fail
          refine HC.out.mono ?_
          rintro e w2 ⟨rfl, hb2⟩
          have hbw := hb.trans (hb2.mono hb.size)
          go_wp2_with fail
          go_roundw
          case rel => exact ⟨k + 1, by omega, by go_num, hbw⟩
          case measure => simp [RowKit.intOf]; omega
        · have hq4 : (rightC x.nc x.nw != 0) = true := bne_iff_ne.2 hr
          generalize rightC x.nc x.nw = rc at *
          clear hr
          go_wp2_with fail
          refine HC.out.mono ?_
          rintro e w2 ⟨rfl, hb2⟩
          have hbw := hb.trans (hb2.mono hb.size)
          go_wp2_with fail
          refine (HAW.out _ hbw).mono ?_
          rintro e w9 ⟨rfl, hb9⟩
          go_wp2_with fail
          go_ret
          exact ⟨rfl, (hbw).trans (hb9.mono (hbw).size)⟩
      · obtain rfl : k = ops.length := by omega
        have HFo := Lib.hid (fold_any a cap ops wr (by omega) (HA.out wr hb) (fun x h => (HX.out x h).1))
        have hok := foldT_ok (ops := ops) (by omega) HX.out
        have hvl := view_len (foldT ops)
        have hol := hok.len
        have hris := foldT_ris ops
        obtain ⟨nodes, hn⟩ : ∃ nodes, foldT ops = nodes := ⟨_, rfl⟩
        rw [hn] at HFo hok hvl hol hris
        have Hok := Lib.hid hok
        have Hris := Lib.hid hris
        clear hn hok hris
        go_wp2_with fail
        refine HFo.out.mono ?_
        rintro e w2 ⟨av, cv, rfl, hrn, _, hb2⟩
        have hbw2 := hb.trans (hb2.mono hb.size)
        have HV := Lib.hid (view_any av cv nodes w2 (HT.out w2 hbw2) hrn Hok.out)
        have HN := Lib.hid fun W (h : Below w2.heap.size w2 W) => hrn.keeps h
        clear hrn HFo
        go_wp2_with fail
        refine HV.out.mono ?_
        rintro e w3 ⟨a3, c3, rfl, hr3, hb3, _⟩
        have hbw3 := hbw2.trans (hb3.mono hbw2.size)
        have HL := Lib.hid fun W (h : Below w3.heap.size w3 W) => hr3.keeps h
        clear HV hr3
        by_cases hz : (viewF nodes).2 = 0
        · have Hz := Lib.hid hz
          have Hgood := Lib.hid (viewF_good nodes)
          rw [hz]
          clear hz
          obtain ⟨xs, hxs⟩ : ∃ xs, (viewF nodes).1 = xs := ⟨_, rfl⟩
          rw [hxs] at HL hvl Hgood ⊢
          have Hxs := Lib.hid hxs
          clear hxs
          go_wp2_with fail
          go_loopw [7] (fun i wr => ∃ k : Nat, k ≤ xs.length ∧ i = .int .i64 k ∧ Below w3.heap.size w3 wr) (fun i _ => xs.length - (RowKit.intOf i).toNat)
          case atStart => exact ⟨0, Nat.zero_le _, rfl, Below.refl _ _⟩
          case round =>
            obtain ⟨k, hk, rfl, hb5⟩ := hrel
            obtain ⟨wd, hwd⟩ : ∃ wd, wd = wr := ⟨_, rfl⟩
            subst hwd
            by_cases hlt : k < xs.length
            · obtain ⟨x, hx⟩ := at_some hlt
              obtain ⟨b, off, hae, hbl, z0, z1, z2, z3, z4, z5⟩ := itm_at (HL.out wd hb5) hx
              subst hae
              have hlti : (k : Int) < (xs.length : Int) := by omega
              have hlt0 : (0 : Int) ≤ (k : Int) := by omega
              have hxm := List.mem_of_getElem? hx
              have hpx := (Hgood.out x hxm).2
              obtain ⟨n, hfn, hnm, hnn, hown2⟩ := named_own Hris.out Hz.out (x := x) (by rw [Hxs.out]; exact hxm)
              have Hown2 := Lib.hid hown2
              have hb35 := hbw3.trans (hb5.mono hbw3.size)
              have hN5 := hb3.trans (hb5.mono hb3.size)
              have hfi := tfind_any av cv nodes x.cnt x.who wd (by omega) (HN.out wd hN5)
              rw [hfn] at hfi
              dsimp only at hfi
              unfold Nd.agg at hfi
              have HFi := Lib.hid hfi
              have Hx := Lib.hid hx
              clear hx hxm hown2 hfn hfi hnm
              go_wp2_with fail
              refine HFi.out.mono ?_
              rintro e w5 ⟨rfl, hb6⟩
              have hY := VarAt.new w5 #[.int .i64 n.cnt, .int .i64 n.who, .bool n.dir, .int .i64 n.pc, .int .i64 n.pw, .string n.name, .string n.man] 46
              have hA := (Below.refl w5.heap.size w5).alloc (Nat.le_refl _) (.cells #[.int .i64 n.cnt, .int .i64 n.who, .bool n.dir, .int .i64 n.pc, .int .i64 n.pw, .string n.name, .string n.man] 46)
              have hb56 := hb5.trans (hb6.mono hb5.size)
              have hb57 := hb56.trans (hA.mono hb56.size)
              obtain ⟨g8, hg8⟩ : ∃ b, b = w5.heap.size := ⟨_, rfl⟩
              obtain ⟨W5, hW5⟩ : ∃ W, W = w5.alloc (.cells #[.int .i64 n.cnt, .int .i64 n.who, .bool n.dir, .int .i64 n.pc, .int .i64 n.pw, .string n.name, .string n.man] 46) := ⟨_, rfl⟩
              rw [← hg8, ← hW5] at hY
              rw [← hW5] at hb57
              have Hg8 := Lib.hid hg8
              have HW5 := Lib.hid hW5
              clear hA hg8 hW5 hb56 hb6 hb5
              have hN6 := hb3.trans (hb57.mono hb3.size)
              have HCh := Lib.hid (children_any av cv nodes n.pc n.pw W5 hol (HN.out W5 hN6))
              go_upto_region 16 with fail
              rw [← Hg8.out, ← HW5.out]
              have y3 := hY.2.2 3 _ rfl
              have y4 := hY.2.2 4 _ rfl
              go_wp2_with fail
              refine HCh.out.mono ?_
              rintro e w6 ⟨v, rfl, hov, hb7⟩
              obtain ⟨av6, cv6, rfl, hr6, _⟩ := hov.read
              have hY6 := hY.keeps hb7 hY.1
              have hb67 := hb57.trans (hb7.mono hb57.size)
              have HR6 := Lib.hid fun W (h : Below w6.heap.size w6 W) => hr6.keeps h
              have hcl : (childF nodes n.pc n.pw).length ≤ 1000 := Nat.le_trans (List.length_filter_le _ _) hol
              have Hfi := Lib.hid (show firstN nodes n = (childF nodes n.pc n.pw).all fun m => !twinN n m || ltNd n m from rfl)
              obtain ⟨L, hL⟩ : ∃ L, childF nodes n.pc n.pw = L := ⟨_, rfl⟩
              rw [hL] at HR6 hcl Hfi ⊢
              clear hL hov hr6 hY hb7 hb57 hN6 y3 y4 HCh HFi
              go_wp2_with fail
              go_loopw [11, 12, 13] (fun al fi i wq => ∃ j : Nat, j ≤ L.length ∧ i = .int .i64 j ∧ al = .bool (!(L.take j).any (twinN n)) ∧ fi = .bool ((L.take j).all fun m => !twinN n m || ltNd n m) ∧ Below w6.heap.size w6 wq) (fun _ _ i _ => L.length - (RowKit.intOf i).toNat)
              case atStart => exact ⟨0, Nat.zero_le _, rfl, rfl, rfl, Below.refl _ _⟩
              case round =>
                obtain ⟨j, hj, rfl, rfl, rfl, hb8⟩ := hrel
                have hY7 := hY6.keeps hb8 hY6.1
                by_cases hjt : j < L.length
                · obtain ⟨m, hm⟩ := at_some hjt
                  obtain ⟨b6, off6, e6, hbl6, m0, m1, m2, m3, m4, m5, m6⟩ := nd_at (HR6.out wr hb8) hm
                  cases e6
                  have hjti : (j : Int) < (L.length : Int) := by omega
                  have hjt0 : (0 : Int) ≤ (j : Int) := by omega
                  have n0 := hY7.2.2 0 _ rfl
                  have n1 := hY7.2.2 1 _ rfl
                  have n5 := hY7.2.2 5 _ rfl
                  have hst1 : (L.take (j + 1)).any (twinN n) = ((L.take j).any (twinN n) || twinN n m) := by
                    rw [List.take_add_one, hm, Option.toList_some, List.any_append]
                    simp
                  have hst2 : ((L.take (j + 1)).all fun m => !twinN n m || ltNd n m) = (((L.take j).all fun m => !twinN n m || ltNd n m) && (!twinN n m || ltNd n m)) := by
                    rw [List.take_add_one, hm, Option.toList_some, List.all_append]
                    simp
                  obtain ⟨al, hal⟩ : ∃ al, (L.take j).any (twinN n) = al := ⟨_, rfl⟩
                  obtain ⟨fi, hfi⟩ : ∃ fi, ((L.take j).all fun m => !twinN n m || ltNd n m) = fi := ⟨_, rfl⟩
                  rw [hal] at hst1
                  rw [hfi] at hst2
                  rw [hal, hfi]
                  have Hst1 := Lib.hid hst1
                  have Hst2 := Lib.hid hst2
                  have hneq := fun W => neqStp ⟨m.cnt, m.who⟩ ⟨n.cnt, n.who⟩ W
                  obtain ⟨ie, hie⟩ : ∃ ie, decide ((⟨m.cnt, m.who⟩ : Stp) = ⟨n.cnt, n.who⟩) = ie := ⟨_, rfl⟩
                  obtain ⟨ne, hne⟩ : ∃ ne, (m.name.toList == n.name.toList) = ne := ⟨_, rfl⟩
                  have Htw := Lib.hid (show twinN n m = (ne && !ie) by
                    unfold twinN
                    rw [← hie, ← hne]
                    congr 1
                    · rw [Bool.eq_iff_iff, decide_eq_true_eq, beq_iff_eq, toList_inj]
                    · congr 1
                      rw [Bool.eq_iff_iff, decide_eq_true_eq, decide_eq_true_eq, Stp.mk.injEq])
                  have HLs := Lib.hid fun W => cless_any n.cnt n.who m.cnt m.who W
                  obtain ⟨ls, hls⟩ : ∃ ls, ltNd n m = ls := ⟨_, rfl⟩
                  rw [show lessC n.cnt n.who m.cnt m.who = ls from hls] at HLs
                  have Hls := Lib.hid hls
                  simp only [hie] at hneq
                  clear hm hst1 hst2 hal hfi hie hls hY7
                  have hb8w := hb8
                  cases ne with
                  | false =>
                    go_wp2_with fail
                    go_quiet (fail)
                    go_wp2_with fail
                    go_roundw
                    case rel => exact ⟨j + 1, by omega, by go_num, by rw [Hst1.out, Htw.out]; simp, by rw [Hst2.out, Htw.out]; simp, belowDrew hb8 _⟩
                    case measure => simp [RowKit.intOf]; omega
                  | true =>
                    cases ie with
                    | true =>
                      go_wp2_with fail
                      go_quiet (fail)
                      go_wp2_with fail
                      go_roundw
                      case rel => exact ⟨j + 1, by omega, by go_num, by rw [Hst1.out, Htw.out]; simp, by rw [Hst2.out, Htw.out]; simp, belowDrew hb8 _⟩
                      case measure => simp [RowKit.intOf]; omega
                    | false =>
                      go_wp2_with fail
                      go_quiet (fail)
                      go_upto_region 24 with fail
                      have hb9 := belowDrew hb8 nq
                      have p0 : (wr.drewN nq).cell? ⟨b6, off6 + j * 7, none⟩ = _ := m0
                      have p1 : (wr.drewN nq).cell? ⟨b6, off6 + j * 7 + 1, none⟩ = _ := m1
                      have p2 : (wr.drewN nq).cell? ⟨g8, 0, none⟩ = _ := n0
                      have p3 : (wr.drewN nq).cell? ⟨g8, 1, none⟩ = _ := n1
                      obtain ⟨wv, hwv⟩ : ∃ W, W = wr.drewN nq := ⟨_, rfl⟩
                      rw [← hwv] at hb9 p0 p1 p2 p3 ⊢
                      clear hwv m0 m1 m2 m3 m4 m5 m6 n0 n1 n5
                      have q0 := cell_regrown p0
                      have q1 := cell_regrown p1
                      have q2 := cell_regrown p2
                      have q3 := cell_regrown p3
                      cases fi <;> cases ls
                      all_goals
                        refine wp_region_quiet_below (by kernel_rfl) (by kernel_rfl) ?_
                        repeat (go_big_quiet_step (exact Calls.regrown_of (HLs.out _)))
                        refine wpQuiet_nil ?_
                        intro _ hw'
                        obtain ⟨⟨dq, osq⟩, hw''⟩ := hw'
                        subst hw''
                        go_wp2_with fail
                        go_roundw
                        case rel => exact ⟨j + 1, by omega, by go_num, by rw [Hst1.out, Htw.out]; simp, by rw [Hst2.out, Htw.out, Hls.out]; simp, hb9.trans ((below_regrown wv dq osq).mono hb9.size)⟩
                        case measure => simp [RowKit.intOf]; omega
                · obtain rfl : j = L.length := by omega
                  rw [List.take_length]
                  have Hor := Lib.hid (first_or L n)
                  obtain ⟨al, hal⟩ : ∃ al, L.any (twinN n) = al := ⟨_, rfl⟩
                  obtain ⟨fi, hfi⟩ : ∃ fi, (L.all fun m => !twinN n m || ltNd n m) = fi := ⟨_, rfl⟩
                  rw [hal, hfi] at Hor
                  rw [hal, hfi]
                  have Hfn := Lib.hid (Hfi.out.trans hfi)
                  have hb9 := hb67.trans (hb8.mono hb67.size)
                  obtain ⟨b, off, hae, hbl, z0, z1, z2, z3, z4, z5⟩ := itm_at (HL.out wr hb9) Hx.out
                  cases hae
                  have hY7 := hY6.keeps hb8 hY6.1
                  have y5 := hY7.2.2 5 _ rfl
                  have HD := Lib.hid (dir_any x.path wr (by omega))
                  clear hal hfi hY6 hb8
                  go_wp2_with fail
                  refine HD.out.mono ?_
                  rintro e w8 ⟨⟨d, rfl, hd, hds⟩, rfl⟩
                  have hown := Hown2.out d hd
                  have heb : decide (x.path = ownF d n.name) = (!al || fi) := by rw [← hown, Hfn.out, Hor.out]
                  clear hown hd
                  by_cases hde : d = ⟨#[]⟩
                  · subst hde
                    have hob : (x.path.toList == n.name.toList) = (!al || fi) := by
                      rw [← heb, Bool.eq_iff_iff, decide_eq_true_eq, beq_iff_eq, toList_inj]
                      unfold ownF
                      rw [if_pos rfl]
                    clear heb hds
                    cases al <;> cases fi
                    all_goals
                      simp only [Bool.not_true, Bool.not_false, Bool.true_or, Bool.false_or] at hob
                      go_wp2_with fail
                      all_goals
                        go_roundw
                        case rel => exact ⟨k + 1, by omega, by go_num, hb9⟩
                        case measure => simp [RowKit.intOf]; omega
                  · have hob : (x.path.toList == (d ++ ⟨#[47]⟩ ++ n.name).toList) = (!al || fi) := by
                      rw [← heb, Bool.eq_iff_iff, decide_eq_true_eq, beq_iff_eq, toList_inj]
                      unfold ownF
                      rw [if_neg hde]
                      rfl
                    have hdn : d.toList.isEmpty = false := by
                      rw [List.isEmpty_eq_false_iff]
                      exact fun e => hde (toList_inj.1 (e.trans (by rw [toList_data])))
                    have hds2 : (d ++ (⟨#[47]⟩ : ByteArray)).size = d.size + 1 := by rw [ByteArray.size_append]; rfl
                    have hcat : ∀ W' : World, (Op.stringOp .add d ⟨#[47]⟩).run Tryd.prog W' = .ok (.string (d ++ ⟨#[47]⟩)) W' := fun W' => by first | exact run_string_add W' _ _ (by omega) (by decide) | exact run_string_add _ _ (by omega) (by decide)
                    have hcat2 : ∀ W' : World, (Op.stringOp .add (d ++ ⟨#[47]⟩) n.name).run Tryd.prog W' = .ok (.string (d ++ ⟨#[47]⟩ ++ n.name)) W' := fun W' => by first | exact run_string_add W' _ _ (by omega) (by omega) | exact run_string_add _ _ (by omega) (by omega)
                    clear heb hds2 hde
                    cases al <;> cases fi
                    all_goals
                      simp only [Bool.not_true, Bool.not_false, Bool.true_or, Bool.false_or] at hob
                      go_wp2_with fail
                      all_goals
                        go_roundw
                        case rel => exact ⟨k + 1, by omega, by go_num, hb9⟩
                        case measure => simp [RowKit.intOf]; omega
            · obtain rfl : k = xs.length := by omega
              have hb35 := hbw3.trans (hb5.mono hbw3.size)
              go_wp2_with fail
              refine (HAW.out _ hb35).mono ?_
              rintro e w9 ⟨rfl, hb9⟩
              go_wp2_with fail
              go_ret
              exact ⟨rfl, (hb35).trans (hb9.mono (hb35).size)⟩
        · have hnil := viewF_zero hz
          rw [hnil] at HL ⊢
          generalize (viewF nodes).2 = ev at *
          have hq5 : (ev != 0) = true := bne_iff_ne.2 hz
          clear hz hnil
          go_wp2_with fail
          refine (HAW.out _ hbw3).mono ?_
          rintro e w9 ⟨rfl, hb9⟩
          go_wp2_with fail
          go_ret
          exact ⟨rfl, (hbw3).trans (hb9.mono (hbw3).size)⟩
end Go.Proofs.YtfbdbjookkogjaaDoor
