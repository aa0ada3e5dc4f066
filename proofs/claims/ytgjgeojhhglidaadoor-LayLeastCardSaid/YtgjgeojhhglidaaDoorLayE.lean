/-
  What may be wanted: arbourlaw21.right.
-/
import Derived.Test.YtgjgeojhhglidaaDoorLayL
import Derived.Test.YtgjgeojhhglidaaDoorFsX5
import Derived.Lib.QuietBelow
namespace Go.Proofs.YtgjgeojhhglidaaDoor
open Go Go.RowKit Go.Lib

/-- An entry that may be wanted, apart from its directory. -/
def GoodW (want : List Ent) (j : Nat) (x : Ent) : Prop := (∀ y, 0 < j → want[j - 1]? = some y → Op.bytesLess y.path.toList x.path.toList = true) ∧ pathG x.path.data.toList = true ∧ x.data.size ≤ 4096 ∧ (x.dir = true → x.data = noBa)
def UpW (want : List Ent) (j m : Nat) (d : ByteArray) : Prop := d = ⟨#[]⟩ ∨ ∃ (k : Nat) (y : Ent), k < j ∧ k < m ∧ want[k]? = some y ∧ y.dir = true ∧ y.path = d
theorem root_slash {p : ByteArray} (hr : rightsL p.data.toList = true) (h : dirE p = ⟨#[]⟩) : slashI p < 0 := by
  rcases slash_spec p with ⟨h1, _⟩ | ⟨a, b, h1, h2, h3⟩
  · exact h1
  · have h4 := dir_list h1 h3
    have h5 : dirE p = p.extract 0 (slashI p).toNat := if_neg (by omega)
    rw [← h5, h] at h4
    rw [h1, ← h4] at hr
    have h6 := rights_join [] b
    rw [rights_nil, Bool.false_and] at h6
    exact absurd (hr.symm.trans h6) (by decide)
theorem right_w {want : List Ent} (hl : want.length ≤ 100) (h : ∀ (j : Nat) (x : Ent), want[j]? = some x → GoodW want j x ∧ UpW want j j (dirE x.path)) : RightW want := by
  have near : ∀ (j : Nat) (x y : Ent), want[j]? = some x → want[j + 1]? = some y → befE x y = true := fun j x y hx hy => by
    have h1 := (h (j + 1) y hy).1.1 x (Nat.succ_pos _) hx
    rw [less_before, toList_data, toList_data] at h1
    exact h1
  have far : ∀ (n j : Nat) (x y : Ent), want[j]? = some x → want[j + 1 + n]? = some y → befE x y = true := by
    intro n
    induction n with
    | zero => exact near
    | succ n ih =>
      intro j x y hx hy
      have hlt := (List.getElem?_eq_some_iff.1 hy).1
      have hz : want[j + 1 + n]? = some want[j + 1 + n] := List.getElem?_eq_getElem (by omega)
      exact befE_trans (ih j x _ hx hz) (near _ _ y hz hy)
  have rise : Rising want := List.pairwise_iff_getElem.2 fun i j hi hj hij => by
    have e : j = i + 1 + (j - i - 1) := by omega
    refine far (j - i - 1) i _ _ (List.getElem?_eq_getElem hi) ?_
    rw [← e]
    exact List.getElem?_eq_getElem hj
  have path : ∀ x ∈ want, pathG x.path.data.toList = true := fun x hx => by
    obtain ⟨j, hj⟩ := List.mem_iff_getElem?.1 hx
    exact (h j x hj).1.2.1
  have up : ∀ (j : Nat) (x : Ent), want[j]? = some x → slashI x.path < 0 ∨ ∃ (k : Nat) (y : Ent), k < j ∧ want[k]? = some y ∧ y.dir = true ∧ y.path = x.path.extract 0 (slashI x.path).toNat := fun j x hx => by
    by_cases hs : slashI x.path < 0
    · exact .inl hs
    · have hd : dirE x.path = x.path.extract 0 (slashI x.path).toNat := if_neg hs
      rcases (h j x hx).2 with e | ⟨k, y, h1, _, h2, h3, h4⟩
      · exact absurd (root_slash (path_rights (path x (List.mem_of_getElem? hx))) e) hs
      · exact .inr ⟨k, y, h1, h2, h3, h4.trans hd⟩
  refine ⟨⟨rise, path, fun x hx => ?_, by show want.length ≤ 300; omega⟩, fun x hx => ?_, fun x hx => ?_, up, hl⟩
  · show standsE want x.path = true
    rw [stands_of rise]
    obtain ⟨j, hj⟩ := List.mem_iff_getElem?.1 hx
    rcases up j x hj with h1 | ⟨k, y, _, h2, h3, h4⟩
    · exact .inl h1
    · exact .inr ⟨y, List.mem_of_getElem? h2, h4, h3⟩
  · obtain ⟨j, hj⟩ := List.mem_iff_getElem?.1 hx
    exact (h j x hj).1.2.2.1
  · obtain ⟨j, hj⟩ := List.mem_iff_getElem?.1 hx
    exact (h j x hj).1.2.2.2
theorem UpW.mono {want : List Ent} {j m m' : Nat} {d : ByteArray} (h : UpW want j m d) (hm : m ≤ m') : UpW want j m' d := by
  rcases h with e | ⟨k, y, h1, h2, h3⟩
  · exact .inl e
  · exact .inr ⟨k, y, h1, by omega, h3⟩
theorem empty_is {s : ByteArray} (h : s = ⟨#[]⟩) : s.toList.isEmpty = true := by rw [h, toList_data]; rfl
set_option maxRecDepth 100000 in
set_option maxHeartbeats 6400000 in
theorem wantR_any (a : Option Addr) (cap : Nat) (want : List Ent) (w : World) (hl : want.length ≤ 100) (hsz : ∀ x ∈ want, x.path.size ≤ 500) (ha : RowsAt entLay w a want) (hm : MaxAt w) :
    Calls Tryd.prog 31 #[.slice a want.length cap] w fun e w' => ∃ b, e = .returned (.bool b) ∧ (b = true → RightW want) ∧ Below w.heap.size w w' := by
  have HA := Lib.hid ha
  have HS := Lib.hid hsz
  clear ha hsz
  go_enter Tryd.func31, Tryd.ntmps31
  go_wp2_with fail
  go_loopw [3] (fun i wr => ∃ k : Nat, k ≤ want.length ∧ i = .int .i64 k ∧ Hid (∀ (j : Nat) (x : Ent), j < k → want[j]? = some x → GoodW want j x ∧ UpW want j j (dirE x.path)) ∧ Below w.heap.size w wr) (fun i _ => want.length - (RowKit.intOf i).toNat)
  case atStart => exact ⟨0, Nat.zero_le _, rfl, Lib.hid (fun j x hj => absurd hj (Nat.not_lt_zero _)), Below.refl _ _⟩
  case round =>
    obtain ⟨k, hk, rfl, HK, hb⟩ := hrel
    by_cases hlt : k < want.length
    · obtain ⟨x, hx⟩ := at_some hlt
      obtain ⟨b, off, hae, hbl, c0, c1, c2, c3⟩ := ent_at (HA.out.keeps hb) hx
      subst hae
      have hxs := HS.out x (List.mem_of_getElem? hx)
      have Hx := Lib.hid hx
      have hmr := hm.keeps hb
      have hp0 := fun (d : Nat) (os : Array Obj) => path_any x.path («Sort».grow (redrawn wr d) os) (by omega) (hmr.keeps (below_regrown wr d os))
      have HP := Lib.hid hp0
      clear hp0
      have HD := Lib.hid fun W => rdir_any x.path W (by omega)
      have hlti : (k : Int) < (want.length : Int) := by omega
      have hlt0 : (0 : Int) ≤ (k : Int) := by omega
      have HX : Hid (∀ xx, x = xx → want[k]? = some xx) := fun xx e => e ▸ Hx.out
      obtain ⟨xp, xi, xd, xs⟩ := x
      dsimp only at c0 c1 c2 c3 HP HD hxs
      have q0 := cell_regrown c0
      have q2 := cell_regrown c2
      have q3 := cell_regrown c3
      clear hx hmr HX c1
      go_upto_region 4 with fail
      go_cut [61] from 13 to 61 (fun c wx => ∃ b, c = .bool b ∧ (b = false → GoodW want k ⟨xp, xi, xd, xs⟩) ∧ Below wr.heap.size wr wx)
      case first =>
        clear c0 c2 c3
        by_cases hk0 : k = 0
        · subst hk0
          simp only [Nat.zero_mul, Nat.add_zero] at q0 q2 q3
          have q6 : decide (((0 : Nat) : Int) > 0) = false := rfl
          cases hP : pathG xp.data.toList with
          | false =>
            rw [hP] at HP
            clear hP
            refine wp_region_quiet_below (by kernel_rfl) (by kernel_rfl) ?_
            repeat (go_big_quiet_step (exact Calls.regrown_of (HP.out _ _)))
            refine wpQuiet_nil ?_
            intro _ hw'
            obtain ⟨⟨dq, osq⟩, hw''⟩ := hw'
            subst hw''
            go_wp2_with fail
            go_meet
            exact ⟨true, rfl, (fun h => nomatch h), below_regrown wr dq osq⟩
          | true =>
            rw [hP] at HP
            by_cases hs : xs.size ≤ 4096
            · have s1 : decide ((xs.size : Int) > 4096) = false := decide_eq_false (by omega)
              have s2 : decide (4096 < (xs.size : Int)) = false := decide_eq_false (by omega)
              have s3 : decide (4096 < xs.size) = false := decide_eq_false (by omega)
              cases xd with
              | true =>
                by_cases he : xs = ⟨#[]⟩
                · subst he
                  have HG := Lib.hid (show GoodW want 0 ⟨xp, xi, true, ⟨#[]⟩⟩ from ⟨fun y h => absurd h (Nat.lt_irrefl 0), hP, hs, fun _ => rfl⟩)
                  clear hP hs
                  refine wp_region_quiet_below (by kernel_rfl) (by kernel_rfl) ?_
                  repeat (go_big_quiet_step (exact Calls.regrown_of (HP.out _ _)))
                  refine wpQuiet_nil ?_
                  intro _ hw'
                  obtain ⟨⟨dq, osq⟩, hw''⟩ := hw'
                  subst hw''
                  go_wp2_with fail
                  go_meet
                  exact ⟨false, rfl, (fun _ => HG.out), below_regrown wr dq osq⟩
                · have e1 := empty_ne he
                  clear hP he
                  refine wp_region_quiet_below (by kernel_rfl) (by kernel_rfl) ?_
                  repeat (go_big_quiet_step (exact Calls.regrown_of (HP.out _ _)))
                  refine wpQuiet_nil ?_
                  intro _ hw'
                  obtain ⟨⟨dq, osq⟩, hw''⟩ := hw'
                  subst hw''
                  go_wp2_with fail
                  go_meet
                  exact ⟨true, rfl, (fun h => nomatch h), below_regrown wr dq osq⟩
              | false =>
                have HG := Lib.hid (show GoodW want 0 ⟨xp, xi, false, xs⟩ from ⟨fun y h => absurd h (Nat.lt_irrefl 0), hP, hs, fun e => nomatch e⟩)
                clear hP hs
                refine wp_region_quiet_below (by kernel_rfl) (by kernel_rfl) ?_
                repeat (go_big_quiet_step (exact Calls.regrown_of (HP.out _ _)))
                refine wpQuiet_nil ?_
                intro _ hw'
                obtain ⟨⟨dq, osq⟩, hw''⟩ := hw'
                subst hw''
                go_wp2_with fail
                go_meet
                exact ⟨false, rfl, (fun _ => HG.out), below_regrown wr dq osq⟩
            · have s1 : (xs.size : Int) > 4096 := by omega
              clear hP hs
              refine wp_region_quiet_below (by kernel_rfl) (by kernel_rfl) ?_
              repeat (go_big_quiet_step (exact Calls.regrown_of (HP.out _ _)))
              refine wpQuiet_nil ?_
              intro _ hw'
              obtain ⟨⟨dq, osq⟩, hw''⟩ := hw'
              subst hw''
              go_wp2_with fail
              go_meet
              exact ⟨true, rfl, (fun h => nomatch h), below_regrown wr dq osq⟩
        · obtain ⟨k0, rfl⟩ : ∃ k0, k = k0 + 1 := ⟨k - 1, by omega⟩
          obtain ⟨v, hv⟩ := at_some (show k0 < want.length by omega)
          obtain ⟨b', off', e, hlbl', y0, _⟩ := ent_at (HA.out.keeps hb) hv
          cases e
          have q5 := cell_regrown y0
          have q6 : decide (((k0 + 1 : Nat) : Int) > 0) = true := decide_eq_true (by omega)
          have hk0a : (k0 : Int) < (want.length : Int) := by omega
          have hk0b : (0 : Int) ≤ (k0 : Int) := by omega
          have hk0c : (k0 : Int) + 1 < (want.length : Int) := by omega
          have hk0d : (0 : Int) ≤ (k0 : Int) + 1 := by omega
          have Hv := Lib.hid (show ∀ y, want[k0 + 1 - 1]? = some y → y = v from fun y hy => by
            rw [Nat.add_sub_cancel, hv] at hy
            exact (Option.some.inj hy).symm)
          clear hk0 hv y0 hlbl'
          cases hls : Op.bytesLess v.path.toList xp.toList with
          | false =>
            refine wp_region_quiet_below (by kernel_rfl) (by kernel_rfl) ?_
            repeat (go_big_quiet_step (exact Calls.regrown_of (HP.out _ _)))
            refine wpQuiet_nil ?_
            intro _ hw'
            obtain ⟨⟨dq, osq⟩, hw''⟩ := hw'
            subst hw''
            go_wp2_with fail
            go_meet
            exact ⟨true, rfl, (fun h => nomatch h), below_regrown wr dq osq⟩
          | true =>
            cases hP : pathG xp.data.toList with
            | false =>
              rw [hP] at HP
              clear hP
              refine wp_region_quiet_below (by kernel_rfl) (by kernel_rfl) ?_
              repeat (go_big_quiet_step (exact Calls.regrown_of (HP.out _ _)))
              refine wpQuiet_nil ?_
              intro _ hw'
              obtain ⟨⟨dq, osq⟩, hw''⟩ := hw'
              subst hw''
              go_wp2_with fail
              go_meet
              exact ⟨true, rfl, (fun h => nomatch h), below_regrown wr dq osq⟩
            | true =>
              rw [hP] at HP
              by_cases hs : xs.size ≤ 4096
              · have s1 : decide ((xs.size : Int) > 4096) = false := decide_eq_false (by omega)
                have s2 : decide (4096 < (xs.size : Int)) = false := decide_eq_false (by omega)
                have s3 : decide (4096 < xs.size) = false := decide_eq_false (by omega)
                cases xd with
                | true =>
                  by_cases he : xs = ⟨#[]⟩
                  · subst he
                    have HG := Lib.hid (show GoodW want (k0 + 1) ⟨xp, xi, true, ⟨#[]⟩⟩ from ⟨fun y _ hy => by rw [Hv.out y hy]; exact hls, hP, hs, fun _ => rfl⟩)
                    clear hP hs
                    refine wp_region_quiet_below (by kernel_rfl) (by kernel_rfl) ?_
                    repeat (go_big_quiet_step (exact Calls.regrown_of (HP.out _ _)))
                    refine wpQuiet_nil ?_
                    intro _ hw'
                    obtain ⟨⟨dq, osq⟩, hw''⟩ := hw'
                    subst hw''
                    go_wp2_with fail
                    go_meet
                    exact ⟨false, rfl, (fun _ => HG.out), below_regrown wr dq osq⟩
                  · have e1 := empty_ne he
                    clear hP he
                    refine wp_region_quiet_below (by kernel_rfl) (by kernel_rfl) ?_
                    repeat (go_big_quiet_step (exact Calls.regrown_of (HP.out _ _)))
                    refine wpQuiet_nil ?_
                    intro _ hw'
                    obtain ⟨⟨dq, osq⟩, hw''⟩ := hw'
                    subst hw''
                    go_wp2_with fail
                    go_meet
                    exact ⟨true, rfl, (fun h => nomatch h), below_regrown wr dq osq⟩
                | false =>
                  have HG := Lib.hid (show GoodW want (k0 + 1) ⟨xp, xi, false, xs⟩ from ⟨fun y _ hy => by rw [Hv.out y hy]; exact hls, hP, hs, fun e => nomatch e⟩)
                  clear hP hs
                  refine wp_region_quiet_below (by kernel_rfl) (by kernel_rfl) ?_
                  repeat (go_big_quiet_step (exact Calls.regrown_of (HP.out _ _)))
                  refine wpQuiet_nil ?_
                  intro _ hw'
                  obtain ⟨⟨dq, osq⟩, hw''⟩ := hw'
                  subst hw''
                  go_wp2_with fail
                  go_meet
                  exact ⟨false, rfl, (fun _ => HG.out), below_regrown wr dq osq⟩
              · have s1 : (xs.size : Int) > 4096 := by omega
                clear hP hs
                refine wp_region_quiet_below (by kernel_rfl) (by kernel_rfl) ?_
                repeat (go_big_quiet_step (exact Calls.regrown_of (HP.out _ _)))
                refine wpQuiet_nil ?_
                intro _ hw'
                obtain ⟨⟨dq, osq⟩, hw''⟩ := hw'
                subst hw''
                go_wp2_with fail
                go_meet
                exact ⟨true, rfl, (fun h => nomatch h), below_regrown wr dq osq⟩
      case rest =>
        obtain ⟨bb, rfl, hG, hbc⟩ := hcut
        have hbw := hb.trans (hbc.mono hb.size)
        cases bb with
        | true =>
          clear hG
          go_wp2_with fail
          go_ret
          exact ⟨false, rfl, (fun h => nomatch h), hbw⟩
        | false =>
          have HG := Lib.hid (hG rfl)
          have e0 := (hbc.cell (p := ⟨b, off + k * 4, none⟩) hbl).trans c0
          have HR := Lib.hid (HA.out.keeps hbw)
          obtain ⟨dd, hdd⟩ : ∃ dd, dirE xp = dd := ⟨_, rfl⟩
          rw [hdd] at HD
          have Hdd := Lib.hid hdd
          clear hG c0 c2 c3 q0 q2 q3 hb hbc hbl hxs HP hdd
          go_wp2_with fail
          refine (HD.out _).mono ?_
          rintro e wd ⟨rfl, rfl⟩
          clear HD e0
          by_cases hde : dd = ⟨#[]⟩
          · have e1 := empty_is hde
            have Hq := Lib.hid (show UpW want k 0 dd from .inl hde)
            clear hde
            go_wp2_with fail
            obtain ⟨W2, rfl⟩ : ∃ W : World, W = wd := ⟨_, rfl⟩
            go_loopw [5, 6] (fun q i wr => ∃ (m : Nat) (b : Bool), m ≤ k ∧ i = .int .i64 m ∧ q = .bool b ∧ Hid (b = true → UpW want k m dd) ∧ wr = W2) (fun _ i _ => k - (RowKit.intOf i).toNat)
            case atStart => exact ⟨0, _, Nat.zero_le _, rfl, rfl, Lib.hid (fun _ => Hq.out), rfl⟩
            case round =>
              obtain ⟨m, q, hmk, rfl, rfl, Hu, hwr⟩ := hrel
              rw [hwr]
              clear hwr
              by_cases hml : m < k
              · obtain ⟨y, hy⟩ := at_some (show m < want.length by omega)
                obtain ⟨b', off', hae, hbl', d0, d1, d2, d3⟩ := ent_at HR.out hy
                cases hae
                have hmi : (m : Int) < (k : Int) := by omega
                have hmi2 : (m : Int) < (want.length : Int) := by omega
                have hmi0 : (0 : Int) ≤ (m : Int) := by omega
                have Hy := Lib.hid hy
                obtain ⟨yp, yi, yd, ys⟩ := y
                dsimp only at d0 d1 d2 d3
                clear hy
                cases q with
                | true =>
                  go_wp2_with fail
                  go_roundw
                  case rel => exact ⟨m + 1, true, by omega, by go_num, rfl, Lib.hid (fun _ => (Hu.out rfl).mono (Nat.le_succ _)), by first | rfl | trivial⟩
                  case measure => simp [RowKit.intOf]; omega
                | false =>
                  cases yd with
                  | false =>
                    go_wp2_with fail
                    go_roundw
                    case rel => exact ⟨m + 1, false, by omega, by go_num, rfl, Lib.hid (fun h => nomatch h), by first | rfl | trivial⟩
                    case measure => simp [RowKit.intOf]; omega
                  | true =>
                    by_cases hyp : yp = dd
                    · have e2 := str_eq hyp
                      have Hn := Lib.hid (show true = true → UpW want k (m + 1) dd from fun _ => .inr ⟨m, _, hml, Nat.lt_succ_self m, Hy.out, rfl, hyp⟩)
                      clear hyp
                      go_wp2_with fail
                      go_roundw
                      case rel => exact ⟨m + 1, true, by omega, by go_num, rfl, Hn, by first | rfl | trivial⟩
                      case measure => simp [RowKit.intOf]; omega
                    · have e2 := str_ne hyp
                      clear hyp
                      go_wp2_with fail
                      go_roundw
                      case rel => exact ⟨m + 1, false, by omega, by go_num, rfl, Lib.hid (fun h => nomatch h), by first | rfl | trivial⟩
                      case measure => simp [RowKit.intOf]; omega
              · obtain rfl : m = k := by omega
                cases q with
                | true =>
                  go_wp2_with fail
                  go_roundw
                  case rel =>
                    refine ⟨m + 1, by omega, by go_num, Lib.hid (fun j x hj hx => ?_), hbw⟩
                    by_cases e : j = m
                    · rw [e, Hx.out] at hx
                      obtain rfl := Option.some.inj hx
                      rw [e]
                      refine ⟨HG.out, ?_⟩
                      rw [show dirE xp = dd from Hdd.out]
                      exact Hu.out rfl
                    · exact HK.out j x (by omega) hx
                  case measure => simp [RowKit.intOf]; omega
                | false =>
                  go_wp2_with fail
                  go_ret
                  exact ⟨false, rfl, (fun h => nomatch h), hbw⟩
          · have e1 := empty_ne hde
            clear hde
            go_wp2_with fail
            obtain ⟨W2, rfl⟩ : ∃ W : World, W = wd := ⟨_, rfl⟩
            go_loopw [5, 6] (fun q i wr => ∃ (m : Nat) (b : Bool), m ≤ k ∧ i = .int .i64 m ∧ q = .bool b ∧ Hid (b = true → UpW want k m dd) ∧ wr = W2) (fun _ i _ => k - (RowKit.intOf i).toNat)
            case atStart => exact ⟨0, _, Nat.zero_le _, rfl, rfl, Lib.hid (fun h => nomatch h), rfl⟩
            case round =>
              obtain ⟨m, q, hmk, rfl, rfl, Hu, hwr⟩ := hrel
              rw [hwr]
              clear hwr
              by_cases hml : m < k
              · obtain ⟨y, hy⟩ := at_some (show m < want.length by omega)
                obtain ⟨b', off', hae, hbl', d0, d1, d2, d3⟩ := ent_at HR.out hy
                cases hae
                have hmi : (m : Int) < (k : Int) := by omega
                have hmi2 : (m : Int) < (want.length : Int) := by omega
                have hmi0 : (0 : Int) ≤ (m : Int) := by omega
                have Hy := Lib.hid hy
                obtain ⟨yp, yi, yd, ys⟩ := y
                dsimp only at d0 d1 d2 d3
                clear hy
                cases q with
                | true =>
                  go_wp2_with fail
                  go_roundw
                  case rel => exact ⟨m + 1, true, by omega, by go_num, rfl, Lib.hid (fun _ => (Hu.out rfl).mono (Nat.le_succ _)), by first | rfl | trivial⟩
                  case measure => simp [RowKit.intOf]; omega
                | false =>
                  cases yd with
                  | false =>
                    go_wp2_with fail
                    go_roundw
                    case rel => exact ⟨m + 1, false, by omega, by go_num, rfl, Lib.hid (fun h => nomatch h), by first | rfl | trivial⟩
                    case measure => simp [RowKit.intOf]; omega
                  | true =>
                    by_cases hyp : yp = dd
                    · have e2 := str_eq hyp
                      have Hn := Lib.hid (show true = true → UpW want k (m + 1) dd from fun _ => .inr ⟨m, _, hml, Nat.lt_succ_self m, Hy.out, rfl, hyp⟩)
                      clear hyp
                      go_wp2_with fail
                      go_roundw
                      case rel => exact ⟨m + 1, true, by omega, by go_num, rfl, Hn, by first | rfl | trivial⟩
                      case measure => simp [RowKit.intOf]; omega
                    · have e2 := str_ne hyp
                      clear hyp
                      go_wp2_with fail
                      go_roundw
                      case rel => exact ⟨m + 1, false, by omega, by go_num, rfl, Lib.hid (fun h => nomatch h), by first | rfl | trivial⟩
                      case measure => simp [RowKit.intOf]; omega
              · obtain rfl : m = k := by omega
                cases q with
                | true =>
                  go_wp2_with fail
                  go_roundw
                  case rel =>
                    refine ⟨m + 1, by omega, by go_num, Lib.hid (fun j x hj hx => ?_), hbw⟩
                    by_cases e : j = m
                    · rw [e, Hx.out] at hx
                      obtain rfl := Option.some.inj hx
                      rw [e]
                      refine ⟨HG.out, ?_⟩
                      rw [show dirE xp = dd from Hdd.out]
                      exact Hu.out rfl
                    · exact HK.out j x (by omega) hx
                  case measure => simp [RowKit.intOf]; omega
                | false =>
                  go_wp2_with fail
                  go_ret
                  exact ⟨false, rfl, (fun h => nomatch h), hbw⟩
    · obtain rfl : k = want.length := by omega
      go_wp2_with fail
      go_ret
      exact ⟨true, rfl, fun _ => right_w hl fun j x hx => HK.out j x (List.getElem?_eq_some_iff.1 hx).1 hx, hb⟩
end Go.Proofs.YtgjgeojhhglidaaDoor
