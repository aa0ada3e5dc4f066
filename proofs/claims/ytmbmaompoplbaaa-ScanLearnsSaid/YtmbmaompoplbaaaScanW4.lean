import Derived.Test.YtmbmaompoplbaaaScanW3
import Derived.Test.YtmbmaompoplbaaaAppends
namespace Go.Proofs.Ytmbmaompoplbaaa
open Go.RowKit Go.Lib

theorem chInfo : (Try.prog.info? 50).map (fun i => (i.zero, i.size, i.bytes)) = some (some (.agg #[.int .i64 0, .int .i64 0, .string ⟨#[]⟩, .bool false, .string ⟨#[]⟩]), 5, 56) := by kernel_rfl
theorem chgs_def (old now : List KEnt) (x y : KEnt) (so sn : Int × ByteArray) (hk : keptK old now x.id = true) (hy : (getK old x.id).getD noK = y) (ho : seatK old y = so) (hn : seatK now x = sn) :
    chgsK old now x = (if so.1 ≠ sn.1 ∨ so.2 ≠ sn.2 then [⟨2, x.id, x.path, x.dir, ⟨#[]⟩⟩] else []) ++ (if !x.dir && decide (x.data ≠ y.data) then [⟨3, x.id, x.path, false, x.data⟩] else []) := by
  unfold chgsK
  rw [hk]
  subst hy ho hn
  simp

set_option maxRecDepth 100000 in
set_option maxHeartbeats 3200000 in
theorem changes_any (g h : Nat) (old now : List KEnt) (x : KEnt) (w : World) (hpx : x.path.size ≤ 100000) (hpo : ∀ y ∈ old, y.path.size ≤ 100000) (hs : SheetAt w g old) (ht : SheetAt w h now) :
    Calls Try.prog 21 #[.pointer (some ⟨g, 0, none⟩), .pointer (some ⟨h, 0, none⟩), .agg #[.int .i64 x.id, .string x.path, .bool x.dir, .string x.data]] w fun e w' => ∃ v, e = .returned v ∧ OwnRows chLay w' w.heap.size 50 v (chgsK old now x) ∧ Below w.heap.size w w' := by
  have HK := Lib.hid fun W (hb : Below w.heap.size w W) => kept_any g h old now x.id W (hs.keeps hb) (ht.keeps hb)
  have HG := Lib.hid fun W (hb : Below w.heap.size w W) => get_any g old x.id W (hs.keeps hb)
  have HX := Lib.hid fun W (hb : Below w.heap.size w W) => seat_any h now x W hpx (ht.keeps hb)
  have HY := Lib.hid fun y W (hy : y.path.size ≤ 100000) (hb : Below w.heap.size w W) => seat_any g old y W hy (hs.keeps hb)
  have hb1 := (Below.refl w.heap.size w).alloc (Nat.le_refl _) (.cells #[.int .i64 x.id, .string x.path, .bool x.dir, .string x.data] 34)
  have hpy : ((getK old x.id).getD noK).path.size ≤ 100000 := by
    cases hg : getK old x.id with
    | none => decide
    | some y => exact hpo y (List.mem_of_find?_eq_some hg)
  obtain ⟨i0, hi, hz0, hz1, hz2⟩ := info_parts chInfo
  have Hi := Lib.hid hi
  have Hz0 := Lib.hid hz0
  have Hz1 := Lib.hid hz1
  have Hz2 := Lib.hid hz2
  clear hi hz0 hz1 hz2 hs ht hpo
  cases hk : keptK old now x.id with
  | false =>
    have hst : chgsK old now x = [⟨1, x.id, x.path, x.dir, x.data⟩] := by unfold chgsK; rw [hk]; rfl
    have Hst := Lib.hid hst
    rw [hk] at HK
    obtain ⟨xi, xp, xd, xt⟩ := x
    dsimp only at HK hb1 Hst ⊢
    clear hk hst HG HX HY hpy
    go_enter Try.func21, Try.ntmps21
    go_wp2_with fail
    refine (HK.out _ hb1).mono ?_
    rintro e w1 ⟨rfl, hb2⟩
    obtain ⟨f1, f2, f3⟩ := after_box hb2
    have hb3 := hb1.trans (hb2.mono (by simp))
    have hl := OwnRows.lit w1 chLay w1.heap.size w.heap.size 50 #[.int .i64 1, .int .i64 xi, .string xp, .bool xd, .string xt] 1 [⟨1, xi, xp, xd, xt⟩] rfl hb3.size (by decide) rfl rfl
    have hb4 := hb3.alloc hb3.size (.cells #[.int .i64 1, .int .i64 xi, .string xp, .bool xd, .string xt] 50)
    go_wp2_with fail
    go_ret
    rw [Hst.out]
    exact ⟨_, rfl, hl, hb4⟩
  | true =>
    obtain ⟨y, hy⟩ : ∃ y, (getK old x.id).getD noK = y := ⟨_, rfl⟩
    rw [hy] at hpy
    have HY' := HY.out y
    obtain ⟨so, hso⟩ : ∃ so, seatK old y = so := ⟨_, rfl⟩
    obtain ⟨sn, hsn⟩ : ∃ sn, seatK now x = sn := ⟨_, rfl⟩
    have hst := chgs_def old now x y so sn hk hy hso hsn
    rw [hso] at HY'
    rw [hk] at HK
    rw [hy] at HG
    rw [hsn] at HX
    have HY := Lib.hid fun W hb => HY' W hpy hb
    have Hst := Lib.hid hst
    clear hk hst HY' hso hsn hy hpy
    generalize chgsK old now x = res at *
    generalize (getK old x.id).isSome = got at *
    obtain ⟨o1, o2⟩ := so
    obtain ⟨n1, n2⟩ := sn
    obtain ⟨xi, xp, xd, xt⟩ := x
    obtain ⟨yi, yp, yd, yt⟩ := y
    unfold KEnt.val at HG
    dsimp only at HK HG HX HY hb1 Hst ⊢
    go_enter Try.func21, Try.ntmps21
    go_wp2_with fail
    refine (HK.out _ hb1).mono ?_
    rintro e w1 ⟨rfl, hx1⟩
    obtain ⟨f1, f2, f3⟩ := after_box hx1
    have hb2 := hb1.trans (hx1.mono (by simp))
    go_wp2_with fail
    refine (HG.out _ hb2).mono ?_
    rintro e w2 ⟨rfl, hx2⟩
    have hb3 := hb2.trans (hx2.mono hb2.size)
    have hx3 := hx1.trans (hx2.mono hx1.size)
    clear f1 f2 f3 hx1 hx2 hb2
    obtain ⟨f1, f2, f3⟩ := after_box hx3
    have hb4 := hb3.alloc hb3.size (.cells #[.int .i64 yi, .string yp, .bool yd, .string yt] 34)
    go_wp2_with fail
    refine (HX.out _ hb4).mono ?_
    rintro e w3 ⟨rfl, hy1⟩
    obtain ⟨g1, g2, g3⟩ := after_box hy1
    have hb5 := hb4.trans (hy1.mono hb4.size)
    have hx4 := (hx3.alloc hx3.size (.cells #[.int .i64 yi, .string yp, .bool yd, .string yt] 34)).trans (hy1.mono (by have := hx3.size; simp at this ⊢; omega))
    clear f1 f2 f3
    obtain ⟨f1, f2, f3⟩ := after_box hx4
    go_wp2_with fail
    refine (HY.out _ hb5).mono ?_
    rintro e w4 ⟨rfl, hy2⟩
    have hy3 := hy1.trans (hy2.mono hy1.size)
    have hx5 := hx4.trans (hy2.mono hx4.size)
    have hb6 := hb5.trans (hy2.mono hb5.size)
    clear f1 f2 f3 g1 g2 g3 hy1 hy2 hx4 hb5 hb4 hx3 hb3
    obtain ⟨f1, f2, f3⟩ := after_box hx5
    obtain ⟨g1, g2, g3⟩ := after_box hy3
    have hn0 := OwnRows.nil chLay w4 w.heap.size 50
    by_cases h1 : o1 = n1
    · have e1 : (o1 != n1) = false := by rw [h1]; simp
      by_cases h2 : o2 = n2
      · have e3 := str_eq h2
        have Ht := Lib.hid (show ¬ (o1 ≠ n1 ∨ o2 ≠ n2) by rw [h1, h2]; simp)
        clear h1 h2
        cases xd with
        | true =>
          go_wp2_with fail
          go_ret
          rw [Hst.out]
          exact ⟨_, rfl, by simpa [Ht.out] using hn0, hb6⟩
        | false =>
          by_cases hd : xt = yt
          · have e2 := str_eq hd
            have Hd := Lib.hid hd
            clear hd
            go_wp2_with fail
            go_ret
            rw [Hst.out]
            exact ⟨_, rfl, by simpa [Ht.out, Hd.out] using hn0, hb6⟩
          · have e2 := str_ne hd
            have Hd := Lib.hid hd
            clear hd
            go_wp2_with (at_builtin; refine wpList_append_rows _ rfl _ _ 47 rfl chLay w.heap.size 50 i0 (.agg #[.int .i64 0, .int .i64 0, .string ⟨#[]⟩, .bool false, .string ⟨#[]⟩]) 56 Try.underlying47 Hi.out Hz0.out Hz1.out Hz2.out rfl (by decide) _ _ rfl (hn0.alloc _) ⟨w4.heap.size, 0, none⟩ 1 ⟨3, xi, xp, false, xt⟩ rfl (cells_new_at w4 w4.heap.size #[.int .i64 3, .int .i64 xi, .string xp, .bool false, .string xt] 50 rfl) (by simp [maxLen]) (by simp) (by have := hb6.size; simp; omega) ?_)
            intro vb w9 hob hg9 _
            have hb9 := (hb6.alloc hb6.size (.cells #[.int .i64 3, .int .i64 xi, .string xp, .bool false, .string xt] 50)).grown hg9 (by have := hb6.size; simp; omega) (fun j ej => (hn0.lt ej).1)
            clear hg9
            go_wp2_with fail
            go_ret
            rw [Hst.out]
            exact ⟨_, rfl, by simpa [Ht.out, Hd.out] using hob, hb9⟩
      · have e3 := str_ne h2
        have Ht := Lib.hid (show (o1 ≠ n1 ∨ o2 ≠ n2) from .inr h2)
        clear h1 h2
        go_wp2_with (at_builtin; refine wpList_append_rows _ rfl _ _ 47 rfl chLay w.heap.size 50 i0 (.agg #[.int .i64 0, .int .i64 0, .string ⟨#[]⟩, .bool false, .string ⟨#[]⟩]) 56 Try.underlying47 Hi.out Hz0.out Hz1.out Hz2.out rfl (by decide) _ _ rfl (hn0.alloc _) ⟨w4.heap.size, 0, none⟩ 1 ⟨2, xi, xp, xd, ⟨#[]⟩⟩ rfl (cells_new_at w4 w4.heap.size #[.int .i64 2, .int .i64 xi, .string xp, .bool xd, .string ⟨#[]⟩] 50 rfl) (by simp [maxLen]) (by simp) (by have := hb6.size; simp; omega) ?_)
        intro va w6 hoa hg6 _
        have hb7 := (hb6.alloc hb6.size (.cells #[.int .i64 2, .int .i64 xi, .string xp, .bool xd, .string ⟨#[]⟩] 50)).grown hg6 (by have := hb6.size; simp; omega) (fun j ej => (hn0.lt ej).1)
        have hx6 : Below (w.heap.size + 1) (w.alloc (.cells #[.int .i64 xi, .string xp, .bool xd, .string xt] 34)) w6 := ((hx5.alloc hx5.size (.cells #[.int .i64 2, .int .i64 xi, .string xp, .bool xd, .string ⟨#[]⟩] 50)).grown hg6 (by have := hx5.size; simp at this ⊢; omega) (fun j ej => by cases ej)).mono (by simp)
        have hy6 := ((hy3.alloc hy3.size (.cells #[.int .i64 2, .int .i64 xi, .string xp, .bool xd, .string ⟨#[]⟩] 50)).grown hg6 (by have := hy3.size; simp at this ⊢; omega) (fun j ej => by cases ej))
        clear f1 f2 f3 g1 g2 g3 hg6
        obtain ⟨f1, f2, f3⟩ := after_box (hx6.mono (by simp))
        obtain ⟨g1, g2, g3⟩ := after_box hy6
        cases xd with
        | true =>
          go_wp2_with fail
          go_ret
          rw [Hst.out]
          exact ⟨_, rfl, by simpa [Ht.out] using hoa, hb7⟩
        | false =>
          by_cases hd : xt = yt
          · have e2 := str_eq hd
            have Hd := Lib.hid hd
            clear hd
            go_wp2_with fail
            go_ret
            rw [Hst.out]
            exact ⟨_, rfl, by simpa [Ht.out, Hd.out] using hoa, hb7⟩
          · have e2 := str_ne hd
            have Hd := Lib.hid hd
            clear hd
            go_wp2_with (at_builtin; refine wpList_append_rows _ rfl _ _ 47 rfl chLay w.heap.size 50 i0 (.agg #[.int .i64 0, .int .i64 0, .string ⟨#[]⟩, .bool false, .string ⟨#[]⟩]) 56 Try.underlying47 Hi.out Hz0.out Hz1.out Hz2.out rfl (by decide) _ _ rfl (hoa.alloc _) ⟨w6.heap.size, 0, none⟩ 1 ⟨3, xi, xp, false, xt⟩ rfl (cells_new_at w6 w6.heap.size #[.int .i64 3, .int .i64 xi, .string xp, .bool false, .string xt] 50 rfl) (by simp [maxLen]) (by simp) (by have := hb7.size; simp; omega) ?_)
            intro vb w9 hob hg9 _
            have hb9 := (hb7.alloc hb7.size (.cells #[.int .i64 3, .int .i64 xi, .string xp, .bool false, .string xt] 50)).grown hg9 (by have := hb7.size; simp; omega) (fun j ej => (hoa.lt ej).1)
            clear hg9
            go_wp2_with fail
            go_ret
            rw [Hst.out]
            exact ⟨_, rfl, by simpa [Ht.out, Hd.out] using hob, hb9⟩
    · have e1 : (o1 != n1) = true := by rw [bne_iff_ne]; exact h1
      have Ht := Lib.hid (show (o1 ≠ n1 ∨ o2 ≠ n2) from .inl h1)
      clear h1
      go_wp2_with (at_builtin; refine wpList_append_rows _ rfl _ _ 47 rfl chLay w.heap.size 50 i0 (.agg #[.int .i64 0, .int .i64 0, .string ⟨#[]⟩, .bool false, .string ⟨#[]⟩]) 56 Try.underlying47 Hi.out Hz0.out Hz1.out Hz2.out rfl (by decide) _ _ rfl (hn0.alloc _) ⟨w4.heap.size, 0, none⟩ 1 ⟨2, xi, xp, xd, ⟨#[]⟩⟩ rfl (cells_new_at w4 w4.heap.size #[.int .i64 2, .int .i64 xi, .string xp, .bool xd, .string ⟨#[]⟩] 50 rfl) (by simp [maxLen]) (by simp) (by have := hb6.size; simp; omega) ?_)
      intro va w6 hoa hg6 _
      have hb7 := (hb6.alloc hb6.size (.cells #[.int .i64 2, .int .i64 xi, .string xp, .bool xd, .string ⟨#[]⟩] 50)).grown hg6 (by have := hb6.size; simp; omega) (fun j ej => (hn0.lt ej).1)
      have hx6 : Below (w.heap.size + 1) (w.alloc (.cells #[.int .i64 xi, .string xp, .bool xd, .string xt] 34)) w6 := ((hx5.alloc hx5.size (.cells #[.int .i64 2, .int .i64 xi, .string xp, .bool xd, .string ⟨#[]⟩] 50)).grown hg6 (by have := hx5.size; simp at this ⊢; omega) (fun j ej => by cases ej)).mono (by simp)
      have hy6 := ((hy3.alloc hy3.size (.cells #[.int .i64 2, .int .i64 xi, .string xp, .bool xd, .string ⟨#[]⟩] 50)).grown hg6 (by have := hy3.size; simp at this ⊢; omega) (fun j ej => by cases ej))
      clear f1 f2 f3 g1 g2 g3 hg6
      obtain ⟨f1, f2, f3⟩ := after_box (hx6.mono (by simp))
      obtain ⟨g1, g2, g3⟩ := after_box hy6
      cases xd with
      | true =>
        go_wp2_with fail
        go_ret
        rw [Hst.out]
        exact ⟨_, rfl, by simpa [Ht.out] using hoa, hb7⟩
      | false =>
        by_cases hd : xt = yt
        · have e2 := str_eq hd
          have Hd := Lib.hid hd
          clear hd
          go_wp2_with fail
          go_ret
          rw [Hst.out]
          exact ⟨_, rfl, by simpa [Ht.out, Hd.out] using hoa, hb7⟩
        · have e2 := str_ne hd
          have Hd := Lib.hid hd
          clear hd
          go_wp2_with (at_builtin; refine wpList_append_rows _ rfl _ _ 47 rfl chLay w.heap.size 50 i0 (.agg #[.int .i64 0, .int .i64 0, .string ⟨#[]⟩, .bool false, .string ⟨#[]⟩]) 56 Try.underlying47 Hi.out Hz0.out Hz1.out Hz2.out rfl (by decide) _ _ rfl (hoa.alloc _) ⟨w6.heap.size, 0, none⟩ 1 ⟨3, xi, xp, false, xt⟩ rfl (cells_new_at w6 w6.heap.size #[.int .i64 3, .int .i64 xi, .string xp, .bool false, .string xt] 50 rfl) (by simp [maxLen]) (by simp) (by have := hb7.size; simp; omega) ?_)
          intro vb w9 hob hg9 _
          have hb9 := (hb7.alloc hb7.size (.cells #[.int .i64 3, .int .i64 xi, .string xp, .bool false, .string xt] 50)).grown hg9 (by have := hb7.size; simp; omega) (fun j ej => (hoa.lt ej).1)
          clear hg9
          go_wp2_with fail
          go_ret
          rw [Hst.out]
          exact ⟨_, rfl, by simpa [Ht.out, Hd.out] using hob, hb9⟩
end Go.Proofs.Ytmbmaompoplbaaa
