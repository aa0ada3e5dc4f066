/-
  The nodes of a parent, as the document has them; what nodes are called; the comparison that items are sorted by.
-/
import Derived.Test.YtfbdbjookkogjaaDoorViewW1
import Derived.BigQuiet
namespace Go.Proofs.YtfbdbjookkogjaaDoor
open Go Go.RowKit Go.Lib

set_option maxRecDepth 100000 in
set_option maxHeartbeats 1600000 in
theorem rchildren_any (a : Option Addr) (cap : Nat) (l : List Nd) (c q : Int) (w : World) (hl : l.length ≤ 1000) (ha : RowsAt ndLay w a l) :
    Calls Tryd.prog 46 #[.slice a l.length cap, .agg #[.int .i64 c, .int .i64 q]] w fun e w' => ∃ v, e = .returned v ∧ OwnRows ndLay w' w.heap.size 46 v (childF l c q) ∧ Below w.heap.size w w' := by
  obtain ⟨i0, hi, hz0, hz1, hz2⟩ := info_parts ndInfo
  have Hi := Lib.hid hi
  have Hz0 := Lib.hid hz0
  have Hz1 := Lib.hid hz1
  have Hz2 := Lib.hid hz2
  have hal := (Below.refl w.heap.size w).alloc (Nat.le_refl _) (.cells #[.int .i64 c, .int .i64 q] 32)
  have HA := Lib.hid (ha.keeps hal)
  have hV := VarAt.new w #[.int .i64 c, .int .i64 q] 32
  obtain ⟨sb, hsb⟩ : ∃ sb, sb = w.heap.size := ⟨_, rfl⟩
  rw [← hsb] at hV
  have Hsb := Lib.hid hsb
  clear hi hz0 hz1 hz2 ha hsb
  go_enter Tryd.func46, Tryd.ntmps46
  go_wp2_with fail
  rw [← Hsb.out]
  generalize w.alloc (.cells #[.int .i64 c, .int .i64 q] 32) = W1 at *
  go_loopw [5, 6] (fun va i wr => ∃ k : Nat, k ≤ l.length ∧ i = .int .i64 k ∧ OwnRows ndLay wr W1.heap.size 46 va (childF (l.take k) c q) ∧ Below W1.heap.size W1 wr) (fun _ i _ => l.length - (RowKit.intOf i).toNat)
  case atStart => exact ⟨0, Nat.zero_le _, rfl, OwnRows.nil _ _ _ _, Below.refl _ _⟩
  case round =>
    obtain ⟨k, hk, rfl, hoa, hb⟩ := hrel
    by_cases hlt : k < l.length
    · obtain ⟨x, hx⟩ := at_some hlt
      obtain ⟨b, off, hae, hbl, c0, c1, c2, c3, c4, c5, c6⟩ := nd_at (HA.out.keeps hb) hx
      subst hae
      have Hst := Lib.hid (child_step (c := c) (q := q) hx)
      have hsl := child_len l c q k
      have hlti : (k : Int) < (l.length : Int) := by omega
      have hlt0 : (0 : Int) ≤ (k : Int) := by omega
      obtain ⟨xc, xw, xd, xp, xq, xn, xm⟩ := x
      dsimp only at c0 c1 c2 c3 c4 c5 c6 Hst
      clear hx
      have s0 := (hb.cell (p := ⟨sb, 0, none⟩) hV.1).trans (hV.2.2 0 _ rfl)
      have s1 := (hb.cell (p := ⟨sb, 1, none⟩) hV.1).trans (hV.2.2 1 _ rfl)
      generalize childF (l.take k) c q = acts at *
      have heq := eqlSt xp xq c q
      cases hd : decide (xp = c ∧ xq = q) with
      | true =>
        rw [hd] at heq Hst
        clear hd
        go_wp2_with fail
        go_quiet (fail)
        have hoa2 := (hoa.drewN nq).alloc (.cells #[.int .i64 xc, .int .i64 xw, .bool xd, .int .i64 xp, .int .i64 xq, .string xn, .string xm] 46)
        have hb2 := (belowDrew hb nq).alloc hb.size (.cells #[.int .i64 xc, .int .i64 xw, .bool xd, .int .i64 xp, .int .i64 xq, .string xn, .string xm] 46)
        go_wp2_with (at_builtin; refine wpList_append_rows _ rfl _ _ 22 rfl ndLay W1.heap.size 46 i0 (.agg #[.int .i64 0, .int .i64 0, .bool false, .int .i64 0, .int .i64 0, .string ⟨#[]⟩, .string ⟨#[]⟩]) 72 Tryd.underlying22 Hi.out Hz0.out Hz1.out Hz2.out rfl (by decide) _ _ rfl hoa2 ⟨wr.heap.size, 0, none⟩ 1 ⟨xc, xw, xd, xp, xq, xn, xm⟩ rfl (cells_new_at (wr.drewN nq) wr.heap.size #[.int .i64 xc, .int .i64 xw, .bool xd, .int .i64 xp, .int .i64 xq, .string xn, .string xm] 46 (by simp)) (by unfold maxLen; omega) (by omega) (by have := hb.size; simp; omega) ?_)
        intro va w4 hoa4 hg4 _
        have hb4 := hb2.grown hg4 hb2.size (fun j ej => (hoa2.lt ej).1)
        clear hg4 hoa2 hb2 hoa
        go_wp2_with fail
        go_roundw
        case rel =>
          refine ⟨k + 1, by omega, by go_num, ?_, hb4⟩
          rw [Hst.out]
          exact hoa4
        case measure => simp [RowKit.intOf]; omega
      | false =>
        rw [hd] at heq Hst
        clear hd
        go_wp2_with fail
        go_quiet (fail)
        go_wp2_with fail
        go_roundw
        case rel =>
          refine ⟨k + 1, by omega, by go_num, ?_, belowDrew hb nq⟩
          rw [Hst.out]
          exact hoa.drewN nq
        case measure => simp [RowKit.intOf]; omega
    · obtain rfl : k = l.length := by omega
      rw [List.take_length] at hoa
      go_wp2_with fail
      go_ret
      have hz : w.heap.size ≤ W1.heap.size := hal.size
      exact ⟨_, rfl, hoa.lower hz, hal.trans (hb.mono hz)⟩
theorem names_at {w : World} {base : Nat} {e : TypeId} {v : Value} {ss : List ByteArray} (h : OwnRows strLay w base e v ss) : ∃ a cap, v = .slice a ss.length cap ∧ StrsAt w a ss ∧ ss.length ≤ cap := by
  obtain ⟨a, cap, rfl, hr, hc⟩ := h.read
  refine ⟨a, cap, rfl, fun j hj => ?_, hc⟩
  obtain ⟨b, off, e, hlt, hcell⟩ := hr j ss[j] (List.getElem?_eq_getElem hj)
  refine ⟨b, off, e, hlt, ?_⟩
  have h1 := hcell 0 _ rfl
  rw [List.getD_eq_getElem?_getD, List.getElem?_eq_getElem hj]
  simpa [strLay] using h1
theorem strInfo' : (Tryd.prog.info? 9).map (fun i => (i.zero, i.size, i.bytes)) = some (some (.string ⟨#[]⟩), 1, 16) := by kernel_rfl
theorem tab_keeps {w w' : World} (h : Tab w) (hb : Below w.heap.size w w') : Tab w' := var?_keeps hb h
set_option maxRecDepth 100000 in
set_option maxHeartbeats 1600000 in
theorem named_any (a : Option Addr) (cap : Nat) (l : List Nd) (w : World) (hl : l.length ≤ 1000) (hsz : ∀ x ∈ l, x.name.size ≤ 140737488351232) (ha : RowsAt ndLay w a l) (hT : Tab w) :
    Calls Tryd.prog 29 #[.slice a l.length cap] w fun e w' => ∃ v cap' : _, e = .returned (.tuple #[.slice v (uniqueL (l.map (·.name))).length cap', .int .i64 (uniqueN (l.map (·.name)))]) ∧ StrsAt w' v (uniqueL (l.map (·.name))) ∧ Below w.heap.size w w' ∧ ∀ ad, v = some ad → w.heap.size ≤ ad.block := by
  obtain ⟨i0, hi, hz0, hz1, hz2⟩ := info_parts strInfo'
  have Hi := Lib.hid hi
  have Hz0 := Lib.hid hz0
  have Hz1 := Lib.hid hz1
  have Hz2 := Lib.hid hz2
  have HA := Lib.hid ha
  have HS := Lib.hid hsz
  have HT := Lib.hid hT
  clear hi hz0 hz1 hz2 ha hsz hT
  go_enter Tryd.func29, Tryd.ntmps29
  go_wp2_with fail
  go_loopw [4, 9] (fun va i wr => ∃ k : Nat, k ≤ l.length ∧ i = .int .i64 k ∧ OwnRows strLay wr w.heap.size 9 va ((l.take k).map (·.name)) ∧ Below w.heap.size w wr) (fun _ i _ => l.length - (RowKit.intOf i).toNat)
  case atStart => exact ⟨0, Nat.zero_le _, rfl, OwnRows.nil _ _ _ _, Below.refl _ _⟩
  case round =>
    obtain ⟨k, hk, rfl, hoa, hb⟩ := hrel
    by_cases hlt : k < l.length
    · obtain ⟨x, hx⟩ := at_some hlt
      obtain ⟨b, off, hae, hbl, c0, c1, c2, c3, c4, c5, c6⟩ := nd_at (HA.out.keeps hb) hx
      subst hae
      have hst : (l.take (k + 1)).map (·.name) = (l.take k).map (·.name) ++ [x.name] := by rw [List.take_add_one, hx]; simp
      have Hst := Lib.hid hst
      have hsl : ((l.take k).map (·.name)).length ≤ 1000 := by simp; omega
      have hlti : (k : Int) < (l.length : Int) := by omega
      have hlt0 : (0 : Int) ≤ (k : Int) := by omega
      obtain ⟨xc, xw, xd, xp, xq, xn, xm⟩ := x
      dsimp only at c0 c1 c2 c3 c4 c5 c6 Hst
      clear hx hst
      generalize (l.take k).map (·.name) = acts at *
      have hoa2 := hoa.alloc (.cells #[.int .i64 xc, .int .i64 xw, .bool xd, .int .i64 xp, .int .i64 xq, .string xn, .string xm] 46)
      have hb2 := hb.alloc hb.size (.cells #[.int .i64 xc, .int .i64 xw, .bool xd, .int .i64 xp, .int .i64 xq, .string xn, .string xm] 46)
      clear hoa
      go_wp2_with (at_builtin; refine wpList_append_rows _ rfl _ _ 63 rfl strLay w.heap.size 9 i0 (.string ⟨#[]⟩) 16 Tryd.underlying63 Hi.out Hz0.out Hz1.out Hz2.out rfl (by decide) _ _ rfl (hoa2.alloc _) ⟨wr.heap.size + 1, 0, none⟩ 1 xn rfl (cells_new_at (wr.alloc (.cells #[.int .i64 xc, .int .i64 xw, .bool xd, .int .i64 xp, .int .i64 xq, .string xn, .string xm] 46)) (wr.heap.size + 1) #[.string xn] 9 (by simp)) (by unfold maxLen; omega) (by omega) (by have := hb.size; simp; omega) ?_)
      intro va w4 hoa4 hg4 _
      have hb4 := (hb2.alloc hb2.size (.cells #[.string xn] 9)).grown hg4 (by have := hb.size; simp; omega) (fun j ej => (hoa2.lt ej).1)
      clear hg4 hoa2 hb2
      go_wp2_with fail
      go_roundw
      case rel =>
        refine ⟨k + 1, by omega, by go_num, ?_, hb4⟩
        rw [Hst.out]
        exact hoa4
      case measure => simp [RowKit.intOf]; omega
    · obtain rfl : k = l.length := by omega
      rw [List.take_length] at hoa
      obtain ⟨an, cn, hve, hsn, hcn⟩ := names_at hoa
      have hml : (l.map (·.name)).length = l.length := List.length_map _
      have HU := unique_new an cn (l.map (·.name)) wr (by omega) hsn (fun j hj => by
        rw [List.getD_eq_getElem?_getD, List.getElem?_eq_getElem hj, Option.getD_some, List.getElem_map]
        have := HS.out _ (List.getElem_mem (by omega : j < l.length))
        omega) (tab_keeps HT.out hb)
      subst hve
      rw [hml] at HU ⊢
      replace HU := Lib.hid HU
      clear hml
      clear hoa hsn
      go_wp2_with fail
      refine HU.out.mono ?_
      rintro e w2 ⟨v, cap', rfl, hs2, hb2, hlo⟩
      go_wp2_with fail
      refine bodyPost_ret (v := .tuple #[.slice v (uniqueL (l.map (·.name))).length cap', .int .i64 (uniqueN (l.map (·.name)))]) (by simp [results, Tryd.results29, go_sem]) rfl ⟨v, cap', rfl, hs2, hb.trans (hb2.mono hb.size), fun ad e => Nat.le_trans hb.size (hlo ad e)⟩

/-! ### the comparison -/
def cmpB (x y : ByteArray) : Int := if Op.bytesLess x.toList y.toList then -1 else if x.toList == y.toList then 0 else 1
def cmpI (x y : Itm) : Int := cmpB x.path y.path
theorem isNaN_any (x : ByteArray) (w : World) : Calls Tryd.prog 45 #[.string x] w fun e w' => e = .returned (.bool false) ∧ w = w' := by
  have h := beq_self_eq_true x.toList
  go_enter Tryd.func45, Tryd.ntmps45
  go_wp2_with fail
  go_ret
  first | exact ⟨rfl, rfl⟩ | simp
theorem compare_any (x y : ByteArray) (w : World) : Calls Tryd.prog 32 #[.string x, .string y] w fun e w' => e = .returned (.int .i64 (cmpB x y)) ∧ w = w' := by
  have H1 := Lib.hid (isNaN_any x w)
  have H2 := Lib.hid (isNaN_any y w)
  cases h1 : Op.bytesLess x.toList y.toList with
  | true =>
    have Hr := Lib.hid (show cmpB x y = -1 by unfold cmpB; rw [h1]; rfl)
    go_enter Tryd.func32, Tryd.ntmps32
    go_wp2_with fail
    refine H1.out.mono ?_
    rintro e w1 ⟨rfl, rfl⟩
    go_wp2_with fail
    refine H2.out.mono ?_
    rintro e w1 ⟨rfl, rfl⟩
    go_wp2_with fail
    go_ret
    exact ⟨by rw [Hr.out]; rfl, rfl⟩
  | false =>
    cases h2 : x.toList == y.toList with
    | true =>
      have Hr := Lib.hid (show cmpB x y = 0 by unfold cmpB; rw [h1, h2]; rfl)
      go_enter Tryd.func32, Tryd.ntmps32
      go_wp2_with fail
      refine H1.out.mono ?_
      rintro e w1 ⟨rfl, rfl⟩
      go_wp2_with fail
      refine H2.out.mono ?_
      rintro e w1 ⟨rfl, rfl⟩
      go_wp2_with fail
      go_ret
      exact ⟨by rw [Hr.out]; rfl, rfl⟩
    | false =>
      have Hr := Lib.hid (show cmpB x y = 1 by unfold cmpB; rw [h1, h2]; rfl)
      go_enter Tryd.func32, Tryd.ntmps32
      go_wp2_with fail
      refine H1.out.mono ?_
      rintro e w1 ⟨rfl, rfl⟩
      go_wp2_with fail
      refine H2.out.mono ?_
      rintro e w1 ⟨rfl, rfl⟩
      go_wp2_with fail
      go_ret
      exact ⟨by rw [Hr.out]; rfl, rfl⟩
theorem byPath2_any (x y : Itm) (W : World) : Calls Tryd.prog 31 #[.agg (Itm.cells x).toArray, .agg (Itm.cells y).toArray] W fun e w' => e = .returned (.int .i64 (cmpI x y)) ∧ ∃ q os', w' = «Sort».grow (W.drewN q) os' := by
  obtain ⟨xp, xc, xw, xd, xg, xm⟩ := x
  obtain ⟨yp, yc, yw, yd, yg, ym⟩ := y
  have HC := Lib.hid fun w => compare_any xp yp w
  show Calls Tryd.prog 31 #[.agg #[.string xp, .int .i64 xc, .int .i64 xw, .bool xd, .bool xg, .string xm], .agg #[.string yp, .int .i64 yc, .int .i64 yw, .bool yd, .bool yg, .string ym]] W fun e w' => e = .returned (.int .i64 (cmpB xp yp)) ∧ ∃ q os', w' = «Sort».grow (W.drewN q) os'
  go_enter Tryd.func31, Tryd.ntmps31
  go_wp2_with fail
  refine (HC.out _).mono ?_
  rintro e w1 ⟨rfl, rfl⟩
  go_wp2_with fail
  go_ret
  refine ⟨rfl, 0, #[.cells #[.string xp, .int .i64 xc, .int .i64 xw, .bool xd, .bool xg, .string xm] 34, .cells #[.string yp, .int .i64 yc, .int .i64 yw, .bool yd, .bool yg, .string ym] 34], ?_⟩
  rw [World.drewN_zero, «Sort».alloc_eq_grow, «Sort».alloc_eq_grow, «Sort».grow_grow]
  rfl
end Go.Proofs.YtfbdbjookkogjaaDoor
