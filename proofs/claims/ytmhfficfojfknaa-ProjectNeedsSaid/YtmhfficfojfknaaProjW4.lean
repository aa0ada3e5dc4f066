import Derived.Test.YtmhfficfojfknaaProjW3
namespace Go.Proofs.Ytmhfficfojfknaa
open Go Go.RowKit Go.Lib

theorem over_more {l : List Rul} {xs : List Itm} {m : Nat} {d : ByteArray} (h : overG l xs m d = true) : overG l xs xs.length d = true := by
  rw [overG_all]
  unfold overG at h
  rw [List.any_eq_true] at h ⊢
  obtain ⟨y, hy, e⟩ := h
  exact ⟨y, List.mem_of_mem_take hy, e⟩
theorem keep7 {W w1 w2 : World} {p0 p1 p2 p3 p4 p5 p6 : Addr} {v0 v1 v2 v3 v4 v5 v6 : Value} (hb : Below W.heap.size W w1) (h : Below w1.heap.size w1 w2)
    (c0 : W.cell? p0 = some v0) (c1 : W.cell? p1 = some v1) (c2 : W.cell? p2 = some v2) (c3 : W.cell? p3 = some v3) (c4 : W.cell? p4 = some v4) (c5 : W.cell? p5 = some v5) (c6 : W.cell? p6 = some v6)
    (l0 : p0.block < W.heap.size) (l1 : p1.block < W.heap.size) (l2 : p2.block < W.heap.size) (l3 : p3.block < W.heap.size) (l4 : p4.block < W.heap.size) (l5 : p5.block < W.heap.size) (l6 : p6.block < W.heap.size) :
    Below W.heap.size W w2 ∧ w2.cell? p0 = some v0 ∧ w2.cell? p1 = some v1 ∧ w2.cell? p2 = some v2 ∧ w2.cell? p3 = some v3 ∧ w2.cell? p4 = some v4 ∧ w2.cell? p5 = some v5 ∧ w2.cell? p6 = some v6 := by
  have hb2 := hb.trans (h.mono hb.size)
  exact ⟨hb2, (hb2.cell l0).trans c0, (hb2.cell l1).trans c1, (hb2.cell l2).trans c2, (hb2.cell l3).trans c3, (hb2.cell l4).trans c4, (hb2.cell l5).trans c5, (hb2.cell l6).trans c6⟩

/-- The variable x of arbourref12.Project, as it lies in memory. -/
def BoxIs (W : World) (b : Nat) (x : Itm) : Prop := W.cell? ⟨b, 0, none⟩ = some (.string x.path) ∧ W.cell? ⟨b, 1, none⟩ = some (.int .i64 x.cnt) ∧ W.cell? ⟨b, 2, none⟩ = some (.int .i64 x.who) ∧ W.cell? ⟨b, 3, none⟩ = some (.bool x.dir) ∧
  W.cell? ⟨b, 4, none⟩ = some (.bool x.ghost) ∧ W.cell? ⟨b, 5, none⟩ = some (.string x.man) ∧ ∀ i, W.frozen? ⟨b, i, none⟩ = false
theorem BoxIs.new (W : World) (x : Itm) : BoxIs (W.alloc (.cells #[.string x.path, .int .i64 x.cnt, .int .i64 x.who, .bool x.dir, .bool x.ghost, .string x.man] 36)) W.heap.size x := by
  refine ⟨?_, ?_, ?_, ?_, ?_, ?_, fun i => ?_⟩ <;> simp
theorem BoxIs.keeps {W W' : World} {b : Nat} {x : Itm} (h : BoxIs W b x) {B : Nat} (hb : Below B W W') (hlt : b < B) : BoxIs W' b x := by
  obtain ⟨h0, h1, h2, h3, h4, h5, hf⟩ := h
  exact ⟨(hb.cell (p := ⟨b, 0, none⟩) hlt).trans h0, (hb.cell (p := ⟨b, 1, none⟩) hlt).trans h1, (hb.cell (p := ⟨b, 2, none⟩) hlt).trans h2, (hb.cell (p := ⟨b, 3, none⟩) hlt).trans h3, (hb.cell (p := ⟨b, 4, none⟩) hlt).trans h4, (hb.cell (p := ⟨b, 5, none⟩) hlt).trans h5, fun i => (hb.frozen (p := ⟨b, i, none⟩) hlt).trans (hf i)⟩

set_option maxRecDepth 100000 in
set_option maxHeartbeats 3200000 in
theorem rproject_any (a a' : Option Addr) (cap cap' : Nat) (xs : List Itm) (l : List Rul) (w : World) (hxs : ∀ x ∈ xs, x.path.size ≤ 100000) (hlx : xs.length ≤ 100000) (hsz : ∀ x ∈ l, x.text.size ≤ 100000) (hl : l.length ≤ 1000)
    (ha : RowsAt itmLay w a xs) (ha' : RowsAt rulLay w a' l) :
    Calls Try.prog 9 #[.slice a xs.length cap, .slice a' l.length cap'] w fun e w' => ∃ v, e = .returned v ∧ OwnRows itmLay w' w.heap.size 36 v (projG l xs xs.length) ∧ Below w.heap.size w w' := by
  obtain ⟨i0, hi, hz0, hz1, hz2⟩ := info_parts itmInfo
  have Hi := Lib.hid hi
  have Hz0 := Lib.hid hz0
  have Hz1 := Lib.hid hz1
  have Hz2 := Lib.hid hz2
  have HA := Lib.hid ha
  have HIN := Lib.hid fun (x : Itm) W (hx : x.path.size ≤ 100000) (hb : Below w.heap.size w W) => in12_any a' cap' x l W hx hsz hl (ha'.keeps hb)
  have Hxs := Lib.hid hxs
  clear hi hz0 hz1 hz2 ha ha' hsz hxs hl
  go_enter Try.func9, Try.ntmps9
  go_wp2_with fail
  go_loopw [5, 6] (fun va i wr => ∃ k : Nat, k ≤ xs.length ∧ i = .int .i64 k ∧ OwnRows itmLay wr w.heap.size 36 va (projG l xs k) ∧ Below w.heap.size w wr) (fun _ i _ => xs.length - (RowKit.intOf i).toNat)
  case atStart => exact ⟨0, Nat.zero_le _, rfl, OwnRows.nil _ _ _ _, Below.refl _ _⟩
  case round =>
    obtain ⟨k, hk, rfl, hoa, hb⟩ := hrel
    have hbs := hb.size
    by_cases hlt : k < xs.length
    · obtain ⟨x, hx⟩ := at_some hlt
      obtain ⟨b, off, rfl, hbl, c0, c1, c2, c3, c4, c5⟩ := itm_at (HA.out.keeps hb) hx
      have hpx := Hxs.out x (List.mem_of_getElem? hx)
      have Hst := Lib.hid (projG_step (l := l) hx)
      have hplen := projG_len l xs k
      have hbox := BoxIs.new wr x
      have hb0 := (Below.refl wr.heap.size wr).alloc (Nat.le_refl _) (.cells #[.string x.path, .int .i64 x.cnt, .int .i64 x.who, .bool x.dir, .bool x.ghost, .string x.man] 36)
      have hlb : wr.heap.size < (wr.alloc (.cells #[.string x.path, .int .i64 x.cnt, .int .i64 x.who, .bool x.dir, .bool x.ghost, .string x.man] 36)).heap.size := by simp
      have HC := Lib.hid (HIN.out x _ hpx (hb.trans (hb0.mono hbs)))
      have Hx := Lib.hid hx
      generalize hix : inG l x = ix at *
      obtain ⟨xp, xc, xw, xd, xg, xm⟩ := x
      dsimp only at c0 c1 c2 c3 c4 c5 hpx hbox hb0 hlb HC
      clear hx
      go_wp2_with fail
      refine HC.out.mono ?_
      rintro e w2 ⟨rfl, hb2⟩
      have hbox2 := hbox.keeps hb2 hlb
      have hlb2 := Nat.lt_of_lt_of_le hlb hb2.size
      have hb3 := hb0.trans (hb2.mono hb0.size)
      obtain ⟨q0, q1, q2, q3, q4, q5, qf⟩ := hbox2
      dsimp only at q0 q1 q2 q3 q4 q5
      clear hbox hb0 hlb HC hb2 c0 c1 c2 c3 c4 c5
      cases ix with
      | true =>
        have Hsh := Lib.hid (show_in (xs := xs) hix)
        dsimp only at Hsh
        have hb4 := hb3.setCell (p := ⟨wr.heap.size, 4, none⟩) (Nat.le_refl _) (.bool false)
        have hoa4 := hoa.below hb4
        have hs4 : wr.heap.size < (w2.setCell ⟨wr.heap.size, 4, none⟩ (.bool false)).heap.size := by simp; omega
        have hb5 := hb.trans (hb4.mono hbs)
        generalize projG l xs k = out at *
        clear hix hoa hb3 hb4
        go_wp2_with (at_builtin; refine wpList_append_rows _ rfl _ _ 22 rfl itmLay w.heap.size 36 i0 (.agg #[.string ⟨#[]⟩, .int .i64 0, .int .i64 0, .bool false, .bool false, .string ⟨#[]⟩]) 56 Try.underlying22 Hi.out Hz0.out Hz1.out Hz2.out rfl (by decide) _ _ rfl (hoa4.alloc _) ⟨w2.heap.size, 0, none⟩ 1 ⟨xp, xc, xw, xd, false, xm⟩ rfl (cells_new_at _ w2.heap.size #[.string xp, .int .i64 xc, .int .i64 xw, .bool xd, .bool false, .string xm] 36 (by simp)) (by unfold maxLen; omega) (by omega) (by simp; omega) ?_)
        intro va w4 hoa5 hg4 _
        have hb6 := (hb5.alloc (by omega) (.cells #[.string xp, .int .i64 xc, .int .i64 xw, .bool xd, .bool false, .string xm] 36)).grown hg4 (by simp; omega) (fun j ej => (hoa4.lt ej).1)
        clear hg4 hoa4
        go_wp2_with fail
        go_roundw
        case rel =>
          refine ⟨k + 1, by omega, by go_num, ?_, hb6⟩
          rw [Hst.out, Hsh.out]
          exact hoa5
        case measure => simp [RowKit.intOf]; omega
      | false =>
        have Hng := Lib.hid hix
        clear hix
        have hbb : BoxIs w2 wr.heap.size ⟨xp, xc, xw, xd, xg, xm⟩ := ⟨q0, q1, q2, q3, q4, q5, qf⟩
        clear q0 q1 q2 q4 q5 qf
        generalize hwo : wr = wo at *
        clear hwo wr
        go_wp2_with fail
        go_loopw [8, 9] (fun g j wr => ∃ m : Nat, m ≤ xs.length ∧ j = .int .i64 m ∧ g = .bool (xd && overG l xs m xp) ∧ (xd = false → m = 0) ∧ BoxIs wr wo.heap.size ⟨xp, xc, xw, xd, xg, xm⟩ ∧ Below wo.heap.size wo wr ∧ wo.heap.size < wr.heap.size) (fun g j _ => xs.length - (RowKit.intOf j).toNat)
        case atStart => exact ⟨0, Nat.zero_le _, rfl, by simp [overG], fun _ => rfl, hbb, hb3, hlb2⟩
        case round =>
          clear q3 hb3 hlb2 hbb
          obtain ⟨m, hm, rfl, rfl, hd0, hbb, hb3, hlb2⟩ := hrel
          have hbt := hb.trans (hb3.mono hbs)
          cases xd with
          | false =>
            obtain rfl := hd0 rfl
            have h0 : (0 : Int) < xs.length := by omega
            have q3 := hbb.2.2.2.1
            have Hsh := Lib.hid (show_none (l := l) (xs := xs) (x := ⟨xp, xc, xw, false, xg, xm⟩) Hng.out rfl)
            have hoa4 := hoa.below hb3
            generalize projG l xs k = out at *
            clear hbb hoa
            go_wp2_with fail
            go_roundw
            case rel => exact ⟨k + 1, by omega, by go_num, by rw [Hst.out, Hsh.out]; simpa using hoa4, hbt⟩
            case measure => simp [RowKit.intOf]; omega
          | true =>
            clear hd0
            generalize hov : overG l xs m xp = ov at *
            cases ov with
            | true =>
              have Hsh := Lib.hid (show_ghost (l := l) (xs := xs) (x := ⟨xp, xc, xw, true, xg, xm⟩) Hng.out (by rw [over_more hov]; rfl))
              dsimp only at Hsh
              obtain ⟨q0, q1, q2, q3, q4, q5, qf⟩ := hbb
              dsimp only at q0 q1 q2 q3 q4 q5
              have hb4 := (hb3.setCell (p := ⟨wo.heap.size, 4, none⟩) (Nat.le_refl _) (.bool true)).setCell (p := ⟨wo.heap.size, 5, none⟩) (Nat.le_refl _) (.string ⟨#[]⟩)
              have hoa4 := hoa.below hb4
              have hs4 : wo.heap.size < ((wr.setCell ⟨wo.heap.size, 4, none⟩ (.bool true)).setCell ⟨wo.heap.size, 5, none⟩ (.string ⟨#[]⟩)).heap.size := by simp; omega
              have hb5 := hb.trans (hb4.mono hbs)
              generalize projG l xs k = out at *
              clear hoa hb3 hb4 hov hbt
              have hml : m < xs.length ∨ ¬ m < xs.length := Nat.lt_or_ge m xs.length |>.imp_right Nat.not_lt_of_ge
              go_wp2_with (at_builtin; refine wpList_append_rows _ rfl _ _ 22 rfl itmLay w.heap.size 36 i0 (.agg #[.string ⟨#[]⟩, .int .i64 0, .int .i64 0, .bool false, .bool false, .string ⟨#[]⟩]) 56 Try.underlying22 Hi.out Hz0.out Hz1.out Hz2.out rfl (by decide) _ _ rfl (hoa4.alloc _) ⟨wr.heap.size, 0, none⟩ 1 ⟨xp, xc, xw, true, true, ⟨#[]⟩⟩ rfl (cells_new_at _ wr.heap.size #[.string xp, .int .i64 xc, .int .i64 xw, .bool true, .bool true, .string ⟨#[]⟩] 36 (by simp)) (by unfold maxLen; omega) (by omega) (by simp; omega) ?_)
              all_goals
                intro va w4 hoa5 hg4 _
                have hb6 := (hb5.alloc (by omega) (.cells #[.string xp, .int .i64 xc, .int .i64 xw, .bool true, .bool true, .string ⟨#[]⟩] 36)).grown hg4 (by simp; omega) (fun j ej => (hoa4.lt ej).1)
                clear hg4 hoa4
                go_wp2_with fail
                go_roundw
                case rel =>
                  refine ⟨k + 1, by omega, by go_num, ?_, hb6⟩
                  rw [Hst.out, Hsh.out]
                  exact hoa5
                case measure => simp [RowKit.intOf]; omega
            | false =>
              by_cases hml : m < xs.length
              · obtain ⟨y, hy⟩ := at_some hml
                obtain ⟨_, _, he, hbl2, d0, d1, d2, d3, d4, d5⟩ := itm_at (HA.out.keeps hbt) hy
                cases he
                have hpy := Hxs.out y (List.mem_of_getElem? hy)
                have Hov := Lib.hid (overG_step (l := l) hy xp)
                rw [hov] at Hov
                have HIY := Lib.hid fun W (hW : Below wr.heap.size wr W) => HIN.out y W hpy (hbt.trans (hW.mono hbt.size))
                have HAB := Lib.hid fun W => above_any xp y.path W hpx
                have hbk := fun W (hW : Below wr.heap.size wr W) => hbb.keeps hW hlb2
                have q0 := hbb.1
                have q3 := hbb.2.2.2.1
                have hbsz := hb3.size
                generalize hu : underB y.path xp = u at *
                generalize hiy : inG l y = iy at *
                obtain ⟨yp, yc, yw, yd, yg, ym⟩ := y
                dsimp only at d0 d1 d2 d3 d4 d5 hpy Hov HIY HAB q0 q3
                clear hu hiy hy
                have hlo : b < wr.heap.size := hbl2
                clear hbb
                go_wp2_with fail
                have hkk := keep7 (Below.refl wr.heap.size wr) (Below.refl wr.heap.size wr).drew q0 d0 d1 d2 d3 d4 d5 hlb2 hlo hlo hlo hlo hlo hlo
                cases u with
                | false =>
                  go_quiet ((go_at_call 15; exact Calls.quiet_of_same ((HAB.out _).mono fun _ _ h => ⟨h.1, h.2.symm⟩)))
                  have hbz : Below wr.heap.size wr (wr.drewN nq) := ⟨rfl, rfl, rfl, Nat.le_refl _, fun _ _ => rfl⟩
                  clear hkk HAB HIY q0 q3 d0 d1 d2 d3 d4 d5
                  go_wp2_with fail
                  go_roundw
                  case rel => exact ⟨m + 1, by omega, by go_num, by rw [Hov.out]; simp, by simp, hbk _ hbz, hb3.trans (hbz.mono hbsz), by simpa using hlb2⟩
                  case measure => simp [RowKit.intOf]; omega
                | true =>
                  go_region_held3 (fun w' => Below wr.heap.size wr w' ∧ w'.cell? ⟨wo.heap.size, 0, none⟩ = some (.string xp) ∧ w'.cell? ⟨b, off + m * 6, none⟩ = some (.string yp) ∧ w'.cell? ⟨b, off + m * 6 + 1, none⟩ = some (.int .i64 yc) ∧ w'.cell? ⟨b, off + m * 6 + 2, none⟩ = some (.int .i64 yw) ∧ w'.cell? ⟨b, off + m * 6 + 3, none⟩ = some (.bool yd) ∧ w'.cell? ⟨b, off + m * 6 + 4, none⟩ = some (.bool yg) ∧ w'.cell? ⟨b, off + m * 6 + 5, none⟩ = some (.string ym))
                    (first | go_keep | (go_split_ands; exact keep7 (by assumption) hbz q0 d0 d1 d2 d3 d4 d5 hlb2 hlo hlo hlo hlo hlo hlo) | exact hkk)
                    (first | (go_at_call_of 15 (Value.string xp); refine (HAB.out _).mono ?_; rintro e w' ⟨rfl, rfl⟩) | (go_at_call_of 14 (Value.agg #[.string yp, .int .i64 yc, .int .i64 yw, .bool yd, .bool yg, .string ym]); refine (HIY.out _ (by go_split_ands; assumption)).mono ?_; rintro e w' ⟨rfl, hbz⟩))
                  rename_i hH
                  have hbz := hH.1
                  clear hH hkk HAB HIY q0 q3 d0 d1 d2 d3 d4 d5
                  have hbzs := hbz.size
                  go_wp2_with fail
                  go_roundw
                  case rel => exact ⟨m + 1, by omega, by go_num, by rw [Hov.out]; simp, by simp, hbk _ hbz, hb3.trans (hbz.mono hbsz), by omega⟩
                  case measure => simp [RowKit.intOf]; omega
              · obtain rfl : m = xs.length := by omega
                have Hsh := Lib.hid (show_none (l := l) (xs := xs) (x := ⟨xp, xc, xw, true, xg, xm⟩) Hng.out (by rw [hov]; rfl))
                have hoa4 := hoa.below hb3
                generalize projG l xs k = out at *
                clear hbb hoa
                go_wp2_with fail
                go_roundw
                case rel => exact ⟨k + 1, by omega, by go_num, by rw [Hst.out, Hsh.out]; simpa using hoa4, hbt⟩
                case measure => simp [RowKit.intOf]; omega
    · obtain rfl : k = xs.length := by omega
      go_wp2_with fail
      go_ret
      exact ⟨_, rfl, hoa, hb⟩
end Go.Proofs.Ytmhfficfojfknaa
