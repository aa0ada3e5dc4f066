/-
  ScanMoved, ScanEdited.
-/
import Derived.Test.YtgjgeojhhglidaaDoorFsS
import Derived.Test.YtgjgeojhhglidaaDoorScanW
namespace Go.Proofs.YtgjgeojhhglidaaDoor
open Go Go.RowKit Go.Lib

theorem moved_cases {f g : Fs} (hf : FsOK f) (hfi : IdsOK f) {p t : ByteArray} (hg : g = playF f [⟨2, p, t, ⟨#[]⟩⟩]) : (f.es = g.es → scanK (f.es.map toK) g.es = []) ∧ (f.es ≠ g.es → ∃ i d, scanK (f.es.map toK) g.es = [⟨2, i, t, d, ⟨#[]⟩⟩]) := by
  have h : g = (renameF f p t).1 := hg
  rw [h]
  rcases scan_rename hf hfi p t with ⟨h1, h2⟩ | ⟨h1, h2⟩
  · exact ⟨fun _ => h2, fun e => absurd h1.symm e⟩
  · exact ⟨fun e => absurd e.symm h1, fun _ => h2⟩
theorem edited_cases {f g : Fs} (hf : FsOK f) (hfi : IdsOK f) {p t : ByteArray} (hg : g = playF f [⟨1, p, ⟨#[]⟩, t⟩]) : (f.es = g.es → scanK (f.es.map toK) g.es = []) ∧ (f.es.length = g.es.length → f.es ≠ g.es → ∃ i, scanK (f.es.map toK) g.es = [⟨3, i, p, false, t⟩]) ∧ (¬ f.es.length = g.es.length → ∃ i, scanK (f.es.map toK) g.es = [⟨1, i, p, false, t⟩]) := by
  have h : g = (writeF f p t).1 := hg
  rw [h]
  rcases scan_write hf hfi p t with ⟨h1, h2⟩ | ⟨h1, h2⟩ | ⟨h1, h2, h3⟩
  · exact ⟨fun _ => h2, fun _ e => absurd h1.symm e, fun e => absurd (by rw [h1]) e⟩
  · exact ⟨fun e => by rw [← e] at h1; omega, fun e => by omega, fun _ => h2⟩
  · exact ⟨fun e => absurd e.symm h2, fun _ _ => h3, fun e => absurd h1.symm e⟩
set_option maxRecDepth 100000 in
set_option maxHeartbeats 6400000 in
theorem law_scanMoved (a : Option Addr) (cap : Nat) (xs : List Ask) (p t : ByteArray) (w : World) (_ : xs.length ≤ 140737488351232) (ha : RowsAt askLay w a xs) (hm : MaxAt w) :
    Calls Tryd.prog 10 #[.slice a xs.length cap, .string p, .string t] w fun e w' => e = .returned (.bool true) ∧ Below w.heap.size w w' := by
  have HAW := Lib.hid fun W => awake20_any W
  have hal := (Below.refl w.heap.size w).alloc (Nat.le_refl _) (.cells #[.int .i64 2, .string p, .string t, .string ⟨#[]⟩] 30)
  have hlit := OwnRows.lit w askLay w.heap.size w.heap.size 30 #[.int .i64 2, .string p, .string t, .string ⟨#[]⟩] 1 [⟨2, p, t, ⟨#[]⟩⟩] rfl (Nat.le_refl _) (by decide) rfl rfl
  obtain ⟨al0, cl0, hal0, hrl0, _⟩ := hlit.read
  cases hal0
  have HP := Lib.hid (played_any a cap xs (some ⟨w.heap.size, 0, none⟩) 1 [⟨2, p, t, ⟨#[]⟩⟩] _ (ha.keeps hal) hrl0 (hm.keeps hal))
  clear hlit hrl0 ha
  go_enter Tryd.func10, Tryd.ntmps10
  go_wp2_with fail
  refine HP.out.mono ?_
  rintro e w1 ⟨hb1, rfl | ⟨f, g, av, cv, v2, rfl, hf, hfi, hg, hgi, hpf, hpg, hrow, hov⟩⟩
  · have hb1w := hal.trans (hb1.mono hal.size)
    go_wp2_with fail
    refine (HAW.out _).mono ?_
    rintro e wq ⟨rfl, hbq⟩
    go_wp2_with fail
    go_ret
    exact ⟨rfl, hb1w.trans (hbq.mono hb1w.size)⟩
  · have hb1w := hal.trans (hb1.mono hal.size)
    obtain ⟨a2, c2, rfl, hrow2, hc2⟩ := hov.read
    have HScan := Lib.hid (moved_cases hf hfi (p := p) (t := t) (g := g) hpg)
    have HE := Lib.hid (show ∀ x ∈ f.es, x.path.size ≤ 400 from fun x hx => path_size (hf.path x hx))
    have HE2 := Lib.hid (show ∀ x ∈ g.es, x.path.size ≤ 400 from fun x hx => path_size (hg.path x hx))
    have hl1 : f.es.length ≤ 300 := hf.few
    have hl2 : g.es.length ≤ 300 := hg.few
    have HLn := Lib.hid (learn_any av cv f.es w1 (by omega) hrow)
    clear hf hfi hg hgi hpf hpg hov HP
    go_wp2_with fail
    refine HLn.out.mono ?_
    rintro e w2 ⟨v3, rfl, hov3, hb2⟩
    obtain ⟨a3, c3, rfl, hrow3, hc3⟩ := hov3.read
    have hb2w := hb1w.trans (hb2.mono hb1w.size)
    have hr1 := hrow.keeps hb2
    have hr2 := hrow2.keeps hb2
    have hml : (f.es.map toK).length = f.es.length := List.length_map _
    have HDf := (diff_any a3 a2 c3 c2 (f.es.map toK) g.es w2 (by rw [List.length_map]; omega) (by omega) (fun y hy => by
      obtain ⟨u, hu, rfl⟩ := List.mem_map.1 hy
      have := HE.out u hu
      show u.path.size ≤ _
      omega) (fun y hy => by have := HE2.out y hy; omega) hrow3 hr2)
    rw [hml] at HDf ⊢
    replace HDf := Lib.hid HDf
    clear hrow hrow2 hov3 hrow3 HLn hml
    go_wp2_with fail
    refine HDf.out.mono ?_
    rintro e w3 ⟨v4, rfl, hov4, hb3⟩
    have hb3w := hb2w.trans (hb3.mono hb2w.size)
    have HR1 := Lib.hid (hr1.keeps hb3)
    have HR2 := Lib.hid (hr2.keeps hb3)
    obtain ⟨S, hS⟩ : ∃ S, scanK (f.es.map toK) g.es = S := ⟨_, rfl⟩
    rw [hS] at hov4 HScan
    obtain ⟨a4, c4, rfl, hrow4, hc4⟩ := hov4.read
    have HR4 := Lib.hid hrow4
    clear hS hov4 hrow4 hr1 hr2 HDf hb3 hb2
    obtain ⟨b0, hb0⟩ : ∃ b0 : Bool, ((f.es.length : Int) == (g.es.length : Int)) = b0 := ⟨_, rfl⟩
    have hb0' : (b0 = true → f.es.length = g.es.length) ∧ (b0 = false → f.es ≠ g.es) := by
      rw [← hb0]
      constructor
      · intro h
        have := beq_iff_eq.1 h
        omega
      · intro h e
        rw [e] at h
        simp at h
    go_wp2_with fail
    go_loopw [11, 12] (fun s i wr => ∃ (k : Nat) (b : Bool), k ≤ f.es.length ∧ i = .int .i64 k ∧ s = .bool b ∧ Hid ((b = true → f.es.length = g.es.length ∧ ∀ j, j < k → f.es[j]? = g.es[j]?) ∧ (b = false → f.es ≠ g.es)) ∧ ∃ n, wr = w3.drewN n) (fun _ i _ => f.es.length - (RowKit.intOf i).toNat)
    case atStart => exact ⟨0, b0, Nat.zero_le _, rfl, by rw [← hb0], Lib.hid ⟨fun h => ⟨hb0'.1 h, fun j hj => absurd hj (Nat.not_lt_zero _)⟩, hb0'.2⟩, Drawn.refl _⟩
    case round =>
      obtain ⟨k, b, hk, rfl, rfl, HK, n, rfl⟩ := hrel
      by_cases hgo : k < f.es.length ∧ b = true
      · obtain ⟨hlt, rfl⟩ := hgo
        obtain ⟨x, hx⟩ := at_some hlt
        obtain ⟨y, hy⟩ := at_some (show k < g.es.length by have := (HK.out.1 rfl).1; omega)
        obtain ⟨bx, ox, ex, hbx, d0, d1, d2, d3⟩ := ent_at HR1.out hx
        obtain ⟨by', oy, ey, hby, c0, c1, c2, c3⟩ := ent_at HR2.out hy
        subst ex
        subst ey
        have heq := eqlEnt x y
        have Hx := Lib.hid hx
        have Hy := Lib.hid hy
        have hlti : (k : Int) < (f.es.length : Int) := by omega
        have hltj : (k : Int) < (g.es.length : Int) := by have := (HK.out.1 rfl).1; omega
        have hlt0 : (0 : Int) ≤ (k : Int) := by omega
        have HN := Lib.hid (show (decide (x = y) = true → f.es.length = g.es.length ∧ ∀ j, j < k + 1 → f.es[j]? = g.es[j]?) ∧ (decide (x = y) = false → f.es ≠ g.es) from ⟨fun h => ⟨(HK.out.1 rfl).1, fun j hj => by
          by_cases e : j = k
          · rw [e, Hx.out, Hy.out, of_decide_eq_true h]
          · exact (HK.out.1 rfl).2 j (by omega)⟩, fun h e => by
          have h1 := Hx.out
          rw [e, Hy.out] at h1
          exact of_decide_eq_false h (Option.some.inj h1).symm⟩)
        clear hx hy
        generalize decide (x = y) = q at *
        obtain ⟨xp, xi, xd, xs'⟩ := x
        obtain ⟨yp, yi, yd, ys'⟩ := y
        dsimp only at d0 d1 d2 d3 c0 c1 c2 c3 heq
        go_wp2_with fail
        go_quiet (fail)
        go_wp2_with fail
        go_roundw
        case rel => exact ⟨k + 1, q, by omega, by go_num, rfl, HN, n + nq, by simp⟩
        case measure => simp [RowKit.intOf]; omega
      · cases b with
        | true =>
          have hkl : k = f.es.length := Nat.le_antisymm hk (Nat.not_lt.1 (fun h => hgo ⟨h, rfl⟩))
          have hfg : f.es = g.es := by
            obtain ⟨h1, h2⟩ := HK.out.1 rfl
            rw [hkl] at h2
            exact of_decide_eq_true (same_ok h1 h2)
          have hS := HScan.out.1 hfg
          subst hS
          have hlt8 : ¬ ((k : Int) < (f.es.length : Int)) := by omega
          have hbn := belowDrew hb3w n
          clear hfg hkl hgo
          rw [List.length_nil]
          go_wp2_with fail
          refine (HAW.out _).mono ?_
          rintro e wq ⟨rfl, hbq⟩
          go_wp2_with fail
          go_ret
          exact ⟨rfl, hbn.trans (hbq.mono hbn.size)⟩
        | false =>
          obtain ⟨i, d, hS⟩ := HScan.out.2 (HK.out.2 rfl)
          subst hS
          clear hgo
          by_cases hlt : k < f.es.length
          · have hlti : (k : Int) < (f.es.length : Int) := by omega
            obtain ⟨b4, o4, e4, hbl4, k0, k1, k2, k3, k4⟩ := ch_at (k := 0) (HR4.out.keeps (belowDrew (Below.refl _ w3) (n))) rfl
            dsimp only at k0 k2 k4
            subst e4
            simp only [Nat.zero_mul, Nat.add_zero] at k0 k2 k4
            have hbn := belowDrew hb3w (n)
            generalize w3.drewN (n) = w5 at *
            rw [List.length_cons, List.length_nil]
            go_wp2_with fail
            refine (HAW.out _).mono ?_
            rintro e wq ⟨rfl, hbq⟩
            go_wp2_with fail
            go_ret
            exact ⟨rfl, hbn.trans (hbq.mono hbn.size)⟩
          · have hlti : ¬ ((k : Int) < (f.es.length : Int)) := by omega
            obtain ⟨b4, o4, e4, hbl4, k0, k1, k2, k3, k4⟩ := ch_at (k := 0) (HR4.out.keeps (belowDrew (Below.refl _ w3) (n))) rfl
            dsimp only at k0 k2 k4
            subst e4
            simp only [Nat.zero_mul, Nat.add_zero] at k0 k2 k4
            have hbn := belowDrew hb3w (n)
            generalize w3.drewN (n) = w5 at *
            rw [List.length_cons, List.length_nil]
            go_wp2_with fail
            refine (HAW.out _).mono ?_
            rintro e wq ⟨rfl, hbq⟩
            go_wp2_with fail
            go_ret
            exact ⟨rfl, hbn.trans (hbq.mono hbn.size)⟩
set_option maxRecDepth 100000 in
set_option maxHeartbeats 6400000 in
theorem law_scanEdited (a : Option Addr) (cap : Nat) (xs : List Ask) (p t : ByteArray) (w : World) (_ : xs.length ≤ 140737488351232) (ha : RowsAt askLay w a xs) (hm : MaxAt w) :
    Calls Tryd.prog 11 #[.slice a xs.length cap, .string p, .string t] w fun e w' => e = .returned (.bool true) ∧ Below w.heap.size w w' := by
  have HAW := Lib.hid fun W => awake20_any W
  by_cases hd : t.size ≤ 1000
  · have hd1 : ¬ ((t.size : Int) > 1000) := by omega
    have hal := (Below.refl w.heap.size w).alloc (Nat.le_refl _) (.cells #[.int .i64 1, .string p, .string ⟨#[]⟩, .string t] 30)
    have hlit := OwnRows.lit w askLay w.heap.size w.heap.size 30 #[.int .i64 1, .string p, .string ⟨#[]⟩, .string t] 1 [⟨1, p, ⟨#[]⟩, t⟩] rfl (Nat.le_refl _) (by decide) rfl rfl
    obtain ⟨al0, cl0, hal0, hrl0, _⟩ := hlit.read
    cases hal0
    have HP := Lib.hid (played_any a cap xs (some ⟨w.heap.size, 0, none⟩) 1 [⟨1, p, ⟨#[]⟩, t⟩] _ (ha.keeps hal) hrl0 (hm.keeps hal))
    clear hlit hrl0 ha
    go_enter Tryd.func11, Tryd.ntmps11
    go_wp2_with fail
    refine HP.out.mono ?_
    rintro e w1 ⟨hb1, rfl | ⟨f, g, av, cv, v2, rfl, hf, hfi, hg, hgi, hpf, hpg, hrow, hov⟩⟩
    · have hb1w := hal.trans (hb1.mono hal.size)
      go_wp2_with fail
      refine (HAW.out _).mono ?_
      rintro e wq ⟨rfl, hbq⟩
      go_wp2_with fail
      go_ret
      exact ⟨rfl, hb1w.trans (hbq.mono hb1w.size)⟩
    · have hb1w := hal.trans (hb1.mono hal.size)
      obtain ⟨a2, c2, rfl, hrow2, hc2⟩ := hov.read
      have HScan := Lib.hid (edited_cases hf hfi (p := p) (t := t) (g := g) hpg)
      have HE := Lib.hid (show ∀ x ∈ f.es, x.path.size ≤ 400 from fun x hx => path_size (hf.path x hx))
      have HE2 := Lib.hid (show ∀ x ∈ g.es, x.path.size ≤ 400 from fun x hx => path_size (hg.path x hx))
      have hl1 : f.es.length ≤ 300 := hf.few
      have hl2 : g.es.length ≤ 300 := hg.few
      have HLn := Lib.hid (learn_any av cv f.es w1 (by omega) hrow)
      clear hf hfi hg hgi hpf hpg hov HP
      go_wp2_with fail
      refine HLn.out.mono ?_
      rintro e w2 ⟨v3, rfl, hov3, hb2⟩
      obtain ⟨a3, c3, rfl, hrow3, hc3⟩ := hov3.read
      have hb2w := hb1w.trans (hb2.mono hb1w.size)
      have hr1 := hrow.keeps hb2
      have hr2 := hrow2.keeps hb2
      have hml : (f.es.map toK).length = f.es.length := List.length_map _
      have HDf := (diff_any a3 a2 c3 c2 (f.es.map toK) g.es w2 (by rw [List.length_map]; omega) (by omega) (fun y hy => by
        obtain ⟨u, hu, rfl⟩ := List.mem_map.1 hy
        have := HE.out u hu
        show u.path.size ≤ _
        omega) (fun y hy => by have := HE2.out y hy; omega) hrow3 hr2)
      rw [hml] at HDf ⊢
      replace HDf := Lib.hid HDf
      clear hrow hrow2 hov3 hrow3 HLn hml
      go_wp2_with fail
      refine HDf.out.mono ?_
      rintro e w3 ⟨v4, rfl, hov4, hb3⟩
      have hb3w := hb2w.trans (hb3.mono hb2w.size)
      have HR1 := Lib.hid (hr1.keeps hb3)
      have HR2 := Lib.hid (hr2.keeps hb3)
      obtain ⟨S, hS⟩ : ∃ S, scanK (f.es.map toK) g.es = S := ⟨_, rfl⟩
      rw [hS] at hov4 HScan
      obtain ⟨a4, c4, rfl, hrow4, hc4⟩ := hov4.read
      have HR4 := Lib.hid hrow4
      clear hS hov4 hrow4 hr1 hr2 HDf hb3 hb2
      by_cases hle : f.es.length = g.es.length
      · have hq : ((f.es.length : Int) != (g.es.length : Int)) = false := by rw [hle]; simp
        have Hle := Lib.hid hle
        clear hle
        go_wp2_with fail
        go_loopw [11] (fun i wr => ∃ k : Nat, k ≤ f.es.length ∧ i = .int .i64 k ∧ Hid (∀ j, j < k → f.es[j]? = g.es[j]?) ∧ ∃ n, wr = w3.drewN n) (fun i _ => f.es.length - (RowKit.intOf i).toNat)
        case atStart => exact ⟨0, Nat.zero_le _, rfl, Lib.hid (fun j hj => absurd hj (Nat.not_lt_zero _)), Drawn.refl _⟩
        case round =>
          obtain ⟨k, hk, rfl, HK, n, rfl⟩ := hrel
          by_cases hlt : k < f.es.length
          · obtain ⟨x, hx⟩ := at_some hlt
            obtain ⟨y, hy⟩ := at_some (show k < g.es.length by have := Hle.out; omega)
            obtain ⟨bx, ox, ex, hbx, d0, d1, d2, d3⟩ := ent_at HR1.out hx
            obtain ⟨by', oy, ey, hby, c0, c1, c2, c3⟩ := ent_at HR2.out hy
            subst ex
            subst ey
            have heq := neqEnt x y
            have Hx := Lib.hid hx
            have Hy := Lib.hid hy
            have hlti : (k : Int) < (f.es.length : Int) := by omega
            have hltj : (k : Int) < (g.es.length : Int) := by have := Hle.out; omega
            have hlt0 : (0 : Int) ≤ (k : Int) := by omega
            clear hx hy
            by_cases hxy : x = y
            · rw [show (!decide (x = y)) = false by rw [decide_eq_true hxy]; rfl] at heq
              have Hxy := Lib.hid hxy
              clear hxy
              obtain ⟨xp, xi, xd, xs'⟩ := x
              obtain ⟨yp, yi, yd, ys'⟩ := y
              dsimp only at d0 d1 d2 d3 c0 c1 c2 c3 heq
              go_wp2_with fail
              go_quiet (fail)
              go_wp2_with fail
              go_roundw
              case rel =>
                refine ⟨k + 1, by omega, by go_num, Lib.hid (fun j hj => ?_), n + nq, by simp⟩
                by_cases e : j = k
                · rw [e, Hx.out, Hy.out, Hxy.out]
                · exact HK.out j (by omega)
              case measure => simp [RowKit.intOf]; omega
            · rw [show (!decide (x = y)) = true by rw [decide_eq_false hxy]; rfl] at heq
              have hne : f.es ≠ g.es := fun e => by
                have h1 := Hx.out
                rw [e, Hy.out] at h1
                exact hxy (Option.some.inj h1).symm
              obtain ⟨i, hS⟩ := HScan.out.2.1 Hle.out hne
              subst hS
              clear hxy hne
              obtain ⟨xp, xi, xd, xs'⟩ := x
              obtain ⟨yp, yi, yd, ys'⟩ := y
              dsimp only at d0 d1 d2 d3 c0 c1 c2 c3 heq
              go_wp2_with fail
              go_quiet (fail)
              clear d0 d1 d2 d3 c0 c1 c2 c3 heq
              have hdd : (w3.drewN n).drewN nq = w3.drewN (n + nq) := by simp
              try rw [hdd]
              clear hdd
              obtain ⟨b4, o4, e4, hbl4, k0, k1, k2, k3, k4⟩ := ch_at (k := 0) (HR4.out.keeps (belowDrew (Below.refl _ w3) (n + nq))) rfl
              dsimp only at k0 k2 k4
              subst e4
              simp only [Nat.zero_mul, Nat.add_zero] at k0 k2 k4
              have hbn := belowDrew hb3w (n + nq)
              generalize w3.drewN (n + nq) = w5 at *
              rw [List.length_cons, List.length_nil]
              go_wp2_with fail
              refine (HAW.out _).mono ?_
              rintro e wq ⟨rfl, hbq⟩
              go_wp2_with fail
              go_ret
              exact ⟨rfl, hbn.trans (hbq.mono hbn.size)⟩
          · obtain rfl : k = f.es.length := by omega
            have hS := HScan.out.1 (of_decide_eq_true (same_ok Hle.out HK.out))
            subst hS
            have hbn := belowDrew hb3w n
            rw [List.length_nil]
            go_wp2_with fail
            refine (HAW.out _).mono ?_
            rintro e wq ⟨rfl, hbq⟩
            go_wp2_with fail
            go_ret
            exact ⟨rfl, hbn.trans (hbq.mono hbn.size)⟩
      · have hq : ((f.es.length : Int) != (g.es.length : Int)) = true := by rw [bne_iff_ne]; omega
        obtain ⟨i, hS⟩ := HScan.out.2.2 hle
        subst hS
        clear hle
        have hw0 : w3 = w3.drewN 0 := (World.drewN_zero w3).symm
        rw [hw0]
        clear hw0
        obtain ⟨b4, o4, e4, hbl4, k0, k1, k2, k3, k4⟩ := ch_at (k := 0) (HR4.out.keeps (belowDrew (Below.refl _ w3) (0))) rfl
        dsimp only at k0 k2 k4
        subst e4
        simp only [Nat.zero_mul, Nat.add_zero] at k0 k2 k4
        have hbn := belowDrew hb3w (0)
        generalize w3.drewN (0) = w5 at *
        rw [List.length_cons, List.length_nil]
        go_wp2_with fail
        refine (HAW.out _).mono ?_
        rintro e wq ⟨rfl, hbq⟩
        go_wp2_with fail
        go_ret
        exact ⟨rfl, hbn.trans (hbq.mono hbn.size)⟩
  · have hd1 : (t.size : Int) > 1000 := by omega
    have hb0 := Below.refl w.heap.size w
    go_enter Tryd.func11, Tryd.ntmps11
    go_wp2_with fail
    refine (HAW.out _).mono ?_
    rintro e wq ⟨rfl, hbq⟩
    go_wp2_with fail
    go_ret
    exact ⟨rfl, hb0.trans (hbq.mono hb0.size)⟩
end Go.Proofs.YtgjgeojhhglidaaDoor
