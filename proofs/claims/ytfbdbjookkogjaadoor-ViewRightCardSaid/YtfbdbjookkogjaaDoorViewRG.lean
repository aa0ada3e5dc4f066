/-
  The document's walk down a tree: the state. The document's walk down a tree: one step. Items by rising paths, as the document has them. The document's items of a tree. Which items a tree has: the law.
-/
import Derived.Test.YtfbdbjookkogjaaDoorViewW4
import Derived.Test.YtfbdbjookkogjaaDoorViewG
import Derived.Test.YtfbdbjookkogjaaDoorNamesG
import Derived.Test.YtfbdbjookkogjaaDoorPut
import Derived.Test.YtfbdbjookkogjaaDoorSliced
import Derived.Test.YtfbdbjookkogjaaDoorProjW1
namespace Go.Proofs.YtfbdbjookkogjaaDoor
open Go Go.RowKit Go.Lib

theorem downV_eq (nodes : List Nd) (f : Nat) (c q : Int) (ahead : ByteArray) (out : List Itm) : downV nodes f c q ahead out = if uniqueN ((childF nodes c q).map (·.name)) ≠ 0 then (out, uniqueN ((childF nodes c q).map (·.name))) else
    if (addV ahead (decide (f = 0)) (given nodes c q) out).2 = 0 then subV (downV nodes (f - 1)) ahead (given nodes c q) (addV ahead (decide (f = 0)) (given nodes c q) out).1 else addV ahead (decide (f = 0)) (given nodes c q) out := by
  cases f with
  | succ f =>
    rw [show decide (f + 1 = 0) = false from by simp]
    conv => lhs; unfold downV
    rfl
  | zero =>
    rw [show decide (0 = 0) = true from by simp]
    conv => lhs; unfold downV
    generalize given nodes c q = l
    split
    · rfl
    · cases l with
      | nil => rfl
      | cons p r =>
        obtain ⟨n, g⟩ := p
        unfold addV
        rw [if_pos (by simp), if_neg (by simp)]
theorem addV_full {ahead : ByteArray} {l : List (Nd × ByteArray)} {out o : List Itm} (h : addV ahead true l out = (o, 0)) : l = [] := by
  cases l with
  | nil => rfl
  | cons p r =>
    obtain ⟨n, g⟩ := p
    unfold addV at h
    rw [if_pos (by simp)] at h
    cases h
theorem hasI_not {out : List Itm} {c q : Int} (h : ∀ (m : Nat) (y : Itm), m < out.length → out[m]? = some y → ¬ (y.cnt = c ∧ y.who = q)) : hasI out c q = false := by
  unfold hasI
  rw [List.any_eq_false]
  intro x hx
  obtain ⟨m, hm, e⟩ := List.mem_iff_getElem.1 hx
  simpa using h m x hm (by rw [List.getElem?_eq_getElem hm, e])
theorem hasI_yes {out : List Itm} {c q : Int} {m : Nat} {y : Itm} (h : out[m]? = some y) (e : y.cnt = c ∧ y.who = q) : hasI out c q = true := by
  unfold hasI
  exact List.any_eq_true.2 ⟨y, List.mem_of_getElem? h, decide_eq_true e⟩
def SR (wb : Nat) (v : Value) : Nat → Prop := fun j => j = wb ∨ v.ownBlock = some j
structure RSt (wE : World) (wb B : Nat) (av : Option Addr) (cv : Nat) (nodes : List Nd) (w : World) (out : List Itm) (v : Value) : Prop where
  bel : Below wb wE w
  var : VarAt w wb [.slice av nodes.length cv, v]
  rows : OwnRows itmLay w B 34 v out
  sz : B ≤ w.heap.size
theorem RSt.below {wE : World} {wb B : Nat} {av : Option Addr} {cv : Nat} {nodes : List Nd} {w w' : World} {out : List Itm} {v : Value} (h : RSt wE wb B av cv nodes w out v) (hk : wb < B) (hb : Below w.heap.size w w') : RSt wE wb B av cv nodes w' out v := by
  have hz := h.sz
  exact ⟨h.bel.trans (hb.mono (by omega)), h.var.keeps hb h.var.1, h.rows.below hb, Nat.le_trans hz hb.size⟩
/-- What a call of it is answered, and what it leaves. -/
def RDownP (wE : World) (wb B : Nat) (av : Option Addr) (cv : Nat) (nodes : List Nd) (W : World) (v : Value) (r : List Itm × Int) : Ending → World → Prop := fun e w' => e = .returned (.int .i64 r.2) ∧ ∃ v', RSt wE wb B av cv nodes w' r.1 v' ∧ OutOK nodes r.1 ∧ (∀ j, v'.ownBlock = some j → v.ownBlock = some j ∨ W.heap.size ≤ j) ∧ Turned (SR wb v) W.heap.size W w'
end Go.Proofs.YtfbdbjookkogjaaDoor

namespace Go.Proofs.YtfbdbjookkogjaaDoor
open Go Go.RowKit Go.Lib
section
variable {wE : World} {wb B : Nat} {av : Option Addr} {cv : Nat} {nodes : List Nd}
set_option maxRecDepth 100000 in
set_option maxHeartbeats 12800000 in
theorem rdown_step (f : Nat) (hk : wE.heap.size ≤ wb ∧ wb < B) (hr : RowsAt ndLay wE av nodes) (hok : NdsOK nodes)
    (ih : ∀ (f' : Nat), f = f' + 1 → ∀ (dp' : Nat) (c q : Int) (ahead : ByteArray) (out : List Itm) (v : Value) (W : World), dp' + f' = 16 → ahead.size + 30 * (f' + 1) ≤ 1000000 → RSt wE wb B av cv nodes W out v → OutOK nodes out → Calls Tryd.prog 33 #[.pointer (some ⟨wb, 0, none⟩), .agg #[.int .i64 c, .int .i64 q], .string ahead, .int .i64 dp'] W (RDownP wE wb B av cv nodes W v (downV nodes f' c q ahead out))) (dp : Nat) (c q : Int) (ahead : ByteArray) (out : List Itm) (v : Value) (W : World) (hdf : dp + f = 16) (hah : ahead.size + 30 * (f + 1) ≤ 1000000) (hst : RSt wE wb B av cv nodes W out v) (hout : OutOK nodes out) :
    Calls Tryd.prog 33 #[.pointer (some ⟨wb, 0, none⟩), .agg #[.int .i64 c, .int .i64 q], .string ahead, .int .i64 dp] W (RDownP wE wb B av cv nodes W v (downV nodes f c q ahead out)) := by
  obtain ⟨i0, hi, hz0, hz1', hz2⟩ := info_parts vitInfo
  have Hi := Lib.hid hi
  have Hz0 := Lib.hid hz0
  have Hz1 := Lib.hid hz1'
  have Hz2 := Lib.hid hz2
  clear hi hz0 hz1' hz2
  obtain ⟨s0i, hi, hz0, hz1', hz2⟩ := info_parts strInfo'
  have Si := Lib.hid hi
  have Sz0 := Lib.hid hz0
  have Sz1 := Lib.hid hz1'
  have Sz2 := Lib.hid hz2
  clear hi hz0 hz1' hz2
  obtain ⟨k1, k2⟩ := hk
  have HK := Lib.hid k2
  have HR := Lib.hid fun W (h : Below wb wE W) => (show RowsAt ndLay W av nodes from hr.keeps (h.mono k1))
  have hvB : ∀ j, v.ownBlock = some j → B ≤ j ∧ j < W.heap.size := fun j hj => hst.rows.lt hj
  have HvB := Lib.hid hvB
  have hWB := hst.sz
  have hal := (Below.refl W.heap.size W).alloc (Nat.le_refl _) (.cells #[.int .i64 c, .int .i64 q] 32)
  have hst1 := hst.below k2 hal
  have hV1 := VarAt.new W #[.int .i64 c, .int .i64 q] 32
  obtain ⟨sb, hsb⟩ : ∃ sb, sb = W.heap.size := ⟨_, rfl⟩
  rw [← hsb] at hV1
  have hz1 : W.heap.size ≤ (W.alloc (.cells #[.int .i64 c, .int .i64 q] 32)).heap.size := hal.size
  have Hsb := Lib.hid hsb
  have hlen := hok.len
  have Hok := Lib.hid hok
  have Hdf := Lib.hid hdf
  have HIH := Lib.hid ih
  have HDQ := Lib.hid (downV_eq nodes f c q ahead out)
  clear hr hvB hsb hok ih hdf
  obtain ⟨dn, hdn⟩ : ∃ dn, downV nodes f c q ahead out = dn := ⟨_, rfl⟩
  rw [hdn] at HDQ ⊢
  clear hdn
  go_enter Tryd.func33, Tryd.ntmps33
  go_upto_region 1 with fail
  rw [← Hsb.out]
  generalize W.alloc (.cells #[.int .i64 c, .int .i64 q] 32) = W1 at *
  have HC := Lib.hid (rchildren_any av cv nodes c q W1.drew hlen (HR.out _ (belowDrew hst1.bel 1)))
  have m0 : W1.drew.cell? ⟨wb, 0, none⟩ = some (.slice av nodes.length cv) := hst1.var.2.2 0 _ rfl
  have s0 : W1.drew.cell? ⟨sb, 0, none⟩ = some (.int .i64 c) := hV1.2.2 0 _ rfl
  have s1 : W1.drew.cell? ⟨sb, 1, none⟩ = some (.int .i64 q) := hV1.2.2 1 _ rfl
  have l0 : wb < W1.drew.heap.size := hst1.var.1
  have l1 : sb < W1.drew.heap.size := hV1.1
  go_wp2_with fail
  go_region_held3 (fun w' => w'.cell? ⟨wb, 0, none⟩ = some (.slice av nodes.length cv) ∧ w'.cell? ⟨sb, 0, none⟩ = some (.int .i64 c) ∧ w'.cell? ⟨sb, 1, none⟩ = some (.int .i64 q))
    (first | exact ⟨m0, s0, s1⟩ | exact ⟨(hb2.cell (p := ⟨wb, 0, none⟩) l0).trans m0, (hb2.cell (p := ⟨sb, 0, none⟩) l1).trans s0, (hb2.cell (p := ⟨sb, 1, none⟩) l1).trans s1⟩)
    ((go_at_call 46; refine HC.out.mono ?_; rintro e w2 ⟨vi, rfl, hoi, hb2⟩))
  clear m0 s0 s1 l0 l1 HC
  obtain ⟨ai, ci, rfl, hri, hci, hli⟩ := own_low9 hoi
  have hb2' : Below W1.heap.size W1 w2 := (belowDrew (Below.refl _ W1) 1).trans hb2
  have hst2 := hst1.below HK.out hb2'
  obtain ⟨il, hil⟩ : ∃ il, childF nodes c q = il := ⟨_, rfl⟩
  rw [hil] at hri hci ⊢
  have hill : il.length ≤ nodes.length := by rw [← hil]; exact List.length_filter_le _ _
  have hilm : ∀ x ∈ il, x ∈ nodes := fun x hx => by rw [← hil] at hx; exact (List.mem_filter.1 hx).1
  have Hil := Lib.hid hil
  have Hilm := Lib.hid hilm
  have HI2 := Lib.hid fun W (h : Below w2.heap.size w2 W) => hri.keeps h
  have Hb2 := Lib.hid hb2'
  have Hli := Lib.hid hli
  clear hoi hst1 hil hilm hri hli hb2 hb2'
  go_wp2_with fail
  go_loopw [10, 11] (fun va i wr => ∃ k : Nat, k ≤ il.length ∧ i = .int .i64 k ∧ OwnRows strLay wr w2.heap.size 9 va ((il.take k).map (·.name)) ∧ Below w2.heap.size w2 wr) (fun _ i _ => il.length - (RowKit.intOf i).toNat)
  case atStart => exact ⟨0, Nat.zero_le _, rfl, OwnRows.nil _ _ _ _, Below.refl _ _⟩
  case round =>
    obtain ⟨k, hk, rfl, hoa, hb⟩ := hrel
    by_cases hlt : k < il.length
    · obtain ⟨x, hx⟩ := at_some hlt
      obtain ⟨b, off, hae, hbl, c0, c1, c2, c3, c4, c5, c6⟩ := nd_at (HI2.out _ hb) hx
      subst hae
      have hst : (il.take (k + 1)).map (·.name) = (il.take k).map (·.name) ++ [x.name] := by rw [List.take_add_one, hx]; simp
      have Hst := Lib.hid hst
      have hsl : ((il.take k).map (·.name)).length ≤ 1000 := by simp; omega
      have hlti : (k : Int) < (il.length : Int) := by omega
      have hlt0 : (0 : Int) ≤ (k : Int) := by omega
      obtain ⟨xc, xw, xd, xp, xq, xn, xm⟩ := x
      dsimp only at c0 c1 c2 c3 c4 c5 c6 Hst
      clear hx hst
      generalize (il.take k).map (·.name) = acts at *
      go_wp2_with (at_builtin; refine wpList_append_rows _ rfl _ _ 63 rfl strLay w2.heap.size 9 s0i (.string ⟨#[]⟩) 16 Tryd.underlying63 Si.out Sz0.out Sz1.out Sz2.out rfl (by decide) _ _ rfl (hoa.alloc _) ⟨wr.heap.size, 0, none⟩ 1 xn rfl (cells_new_at wr wr.heap.size #[.string xn] 9 rfl) (by unfold maxLen; omega) (by omega) (by have := hb.size; simp; omega) ?_)
      intro va w4 hoa4 hg4 _
      have hb4 := (hb.alloc hb.size (.cells #[.string xn] 9)).grown hg4 (by have := hb.size; simp; omega) (fun j ej => (hoa.lt ej).1)
      clear hg4
      go_wp2_with fail
      go_roundw
      case rel =>
        refine ⟨k + 1, by omega, by go_num, ?_, hb4⟩
        rw [Hst.out]
        exact hoa4
      case measure => simp [RowKit.intOf]; omega
    · obtain rfl : k = il.length := by omega
      obtain ⟨wN, hwN⟩ : ∃ wN, wN = wr := ⟨_, rfl⟩
      rw [← hwN] at hoa hb ⊢
      clear hwN
      rw [List.take_length] at hoa
      obtain ⟨an, cn, hve, hsn, hcn⟩ := names_at hoa
      have hml : (il.map (·.name)).length = il.length := List.length_map _
      have HU := runique_new an cn (il.map (·.name)) wN (by omega) hcn hsn (fun j hj => by
        rw [List.getD_eq_getElem?_getD, List.getElem?_eq_getElem hj, Option.getD_some, List.getElem_map]
        have := Hok.out.name _ (Hilm.out _ (List.getElem_mem (by omega : j < il.length)))
        omega)
      subst hve
      rw [hml] at HU ⊢
      replace HU := Lib.hid HU
      have hst3 := hst2.below HK.out hb
      clear hml hoa hsn hst2
      go_wp2_with fail
      refine HU.out.mono ?_
      rintro e w3 ⟨vg, cg, rfl, hsg, hb3, hlg⟩
      replace hst3 := hst3.below HK.out hb3
      have hb23 := hb.trans (hb3.mono hb.size)
      have hri3 := HI2.out _ hb23
      have hb13 := hal.trans ((Hb2.out.trans (hb23.mono Hb2.out.size)).mono hz1)
      have hb3z := hb3.size
      have hbz := hb.size
      have hb2z := Hb2.out.size
      obtain ⟨ul, hul⟩ : ∃ ul, uniqueL (il.map (·.name)) = ul := ⟨_, rfl⟩
      obtain ⟨un, hun⟩ : ∃ un, uniqueN (il.map (·.name)) = un := ⟨_, rfl⟩
      rw [hul] at hsg ⊢
      rw [hun]
      have Hul := Lib.hid hul
      have Hun := Lib.hid hun
      clear HU hul hun hb
      by_cases hu0 : un = 0
      · subst hu0
        obtain ⟨hul1, hul2⟩ := given_len nodes c q (by rw [Hil.out]; exact Hun.out)
        rw [Hil.out, Hul.out] at hul1 hul2
        have Hul2 := Lib.hid hul2
        have HD := Lib.hid (show dn = if (addV ahead (decide (f = 0)) (given nodes c q) out).2 = 0 then subV (downV nodes (f - 1)) ahead (given nodes c q) (addV ahead (decide (f = 0)) (given nodes c q) out).1 else addV ahead (decide (f = 0)) (given nodes c q) out by
          rw [HDQ.out, Hil.out, Hun.out, if_neg (by simp)])
        clear hul2 HDQ
        go_wp2_with fail
        go_loopw [14] (fun i wr => ∃ (k : Nat) (o : List Itm) (v' : Value), k ≤ il.length ∧ i = .int .i64 k ∧ RSt wE wb B av cv nodes wr o v' ∧ Hid (OutOK nodes o ∧ addV ahead (decide (f = 0)) (given nodes c q) out = addV ahead (decide (f = 0)) ((given nodes c q).drop k) o) ∧ Hid (∀ j, v'.ownBlock = some j → v.ownBlock = some j ∨ w3.heap.size ≤ j) ∧ Turned (SR wb v) w3.heap.size w3 wr) (fun i _ => il.length - (RowKit.intOf i).toNat)
        case atStart => exact ⟨0, out, v, Nat.zero_le _, rfl, hst3, Lib.hid ⟨hout, by rw [List.drop_zero]⟩, Lib.hid (fun j h => .inl h), Turned.refl _ _ _⟩
        case round =>
          clear hst3 hout
          obtain ⟨k, o, v', hk, rfl, hstr, HO, HV, htr⟩ := hrel
          have hns : ∀ j, W1.heap.size ≤ j → ¬ SR wb v j := fun j hj hs => by
            rcases hs with e | e
            · omega
            · have := (HvB.out j e).2; omega
          by_cases hlt : k < il.length
          · obtain ⟨n, hn⟩ := at_some hlt
            obtain ⟨g, hg⟩ := at_some (show k < ul.length by omega)
            have Hz := Lib.hid (zip_at (nodes := nodes) (c := c) (q := q) (k := k) (n := n) (g := g) (by rw [Hil.out]; exact hn) (by rw [Hil.out, Hul.out]; exact hg))
            have hriw := hri3.turned htr (fun ad e => ⟨by have := (Hli.out ad e).2; omega, hns _ (Hli.out ad e).1⟩)
            obtain ⟨gb, goff, hge, hgl, hgc⟩ := hsg k (by omega)
            rw [List.getD_eq_getElem?_getD, hg, Option.getD_some] at hgc
            have hgb : wN.heap.size ≤ gb := hlg _ hge
            have hgcr := (World.cell?_of_block (htr.block gb hgl (hns gb (by omega)))).trans hgc
            have hglr : gb < wr.heap.size := Nat.lt_of_lt_of_le hgl htr.size
            subst hge
            have hgs := Hul2.out g (List.mem_of_getElem? hg)
            have hcat : ∀ W' : World, (Op.stringOp .add ahead g).run Tryd.prog W' = .ok (.string (ahead ++ g)) W' := fun W' => by first | exact run_string_add W' _ _ (by omega) (by omega) | exact run_string_add _ _ (by omega) (by omega)
            obtain ⟨b, off, hae, hbl, c0, c1, c2, c3, c4, c5, c6⟩ := nd_at hriw hn
            have hbW : W1.heap.size ≤ b := (Hli.out _ hae).1
            subst hae
            have hid := Hok.out.id n (Hilm.out n (List.mem_of_getElem? hn))
            have hnm := Hilm.out n (List.mem_of_getElem? hn)
            obtain ⟨xc, xw, xd, xp, xq, xn, xm⟩ := n
            dsimp only at c0 c1 c2 c3 c4 c5 c6 hid
            have hlti : (k : Int) < (il.length : Int) := by omega
            have hlt0 : (0 : Int) ≤ (k : Int) := by omega
            have hltg : (k : Int) < (ul.length : Int) := by omega
            have hszr := htr.size
            clear hn hg hgc
            have mr := hstr.var.2.2 1 _ rfl
            obtain ⟨ao, co, hvo, hro, hco⟩ := hstr.rows.read
            subst hvo
            have HRO := Lib.hid fun W (h : Below wr.heap.size wr W) => hro.keeps h
            have Hstr := Lib.hid fun W (h : Below wr.heap.size wr W) => hstr.below HK.out h
            have HC := Lib.hid (And.intro c0 (And.intro c1 (And.intro c2 c6)))
            have hwbl := hstr.var.1
            have hol := out_len HO.out.1
            generalize wr = wo at *
            clear c0 c1 c2 c3 c4 c5 c6 hro mr
            go_wp2_with fail
            go_loopw [15] (fun i wq => ∃ j : Nat, j ≤ o.length ∧ i = .int .i64 j ∧ Hid (∀ (m : Nat) (y : Itm), m < j → o[m]? = some y → ¬ (y.cnt = xc ∧ y.who = xw)) ∧ Below wo.heap.size wo wq) (fun i _ => o.length - (RowKit.intOf i).toNat)
            case atStart => exact ⟨0, Nat.zero_le _, rfl, Lib.hid (fun m y h => absurd h (Nat.not_lt_zero _)), Below.refl _ _⟩
            case round =>
              obtain ⟨j, hj, rfl, HJ, hbq⟩ := hrel
              have hstq := Hstr.out _ hbq
              have mq := hstq.var.2.2 1 _ rfl
              have hc0 := (hbq.cell (p := ⟨b, off + k * 7, none⟩) hbl).trans HC.out.1
              have hc1 := (hbq.cell (p := ⟨b, off + k * 7 + 1, none⟩) hbl).trans HC.out.2.1
              by_cases hjt : j < o.length
              · obtain ⟨y, hy⟩ := at_some hjt
                obtain ⟨b2, off2, hae2, hbl2, y0, y1, y2, y3, y4, y5⟩ := itm_at (HRO.out _ hbq) hy
                subst hae2
                have Hy := Lib.hid hy
                obtain ⟨yp, yc, yw, yd, yg, ym⟩ := y
                dsimp only at y0 y1 y2 y3 y4 y5
                have heq := eqlSt yc yw xc xw
                have hjti : (j : Int) < (o.length : Int) := by omega
                have hjt0 : (0 : Int) ≤ (j : Int) := by omega
                clear hy
                cases hd : decide (yc = xc ∧ yw = xw) with
                | true =>
                  rw [hd] at heq
                  have HD2 := Lib.hid (show dn = (o, 40) by
                    have e1 : addV ahead (decide (f = 0)) (given nodes c q) out = (o, 40) := by
                      rw [HO.out.2, Hz.out]
                      unfold addV
                      rw [show hasI o xc xw = true from hasI_yes Hy.out (of_decide_eq_true hd), Bool.true_or, if_pos rfl]
                    rw [HD.out, e1, if_neg (by simp)])
                  clear hd
                  go_wp2_with fail
                  go_quiet (fail)
                  go_wp2_with fail
                  go_ret
                  unfold RDownP
                  rw [HD2.out]
                  exact ⟨rfl, _, hstq.below HK.out (belowDrew (Below.refl _ _) _), HO.out.1, fun j hj => (HV.out j hj).imp id (fun h => Nat.le_trans (by omega) h), ((Turned.of_below hb13 (Nat.le_refl _) : Turned (SR wb v) W.heap.size W w3).trans (htr.mono (by omega) (fun _ _ h => h))).trans (Turned.of_below (belowDrew hbq _) (by omega))⟩
                | false =>
                  rw [hd] at heq
                  have hd2 := of_decide_eq_false hd
                  clear hd
                  go_wp2_with fail
                  go_quiet (fail)
                  go_wp2_with fail
                  go_roundw
                  case rel =>
                    refine ⟨j + 1, by omega, by go_num, Lib.hid (fun m z hm hz => ?_), belowDrew hbq _⟩
                    by_cases e : m = j
                    · subst e
                      rw [Hy.out] at hz
                      cases hz
                      exact hd2
                    · exact HJ.out m z (by omega) hz
                  case measure => simp [RowKit.intOf]; omega
              · obtain rfl : j = o.length := by omega
                have hh : hasI o xc xw = false := hasI_not HJ.out
                have hln : ¬ (o.length : Int) < (o.length : Int) := by omega
                by_cases hf0 : f = 0
                · have HD2 := Lib.hid (show dn = (o, 40) by
                    have e1 : addV ahead (decide (f = 0)) (given nodes c q) out = (o, 40) := by
                      rw [HO.out.2, Hz.out]
                      unfold addV
                      rw [decide_eq_true hf0, Bool.or_true, if_pos rfl]
                    rw [HD.out, e1, if_neg (by simp)])
                  have hdp3 : decide ((dp : Int) ≥ 16) = true := decide_eq_true (by have := Hdf.out; omega)
                  clear hh
                  go_wp2_with fail
                  go_ret
                  unfold RDownP
                  rw [HD2.out]
                  exact ⟨rfl, _, hstq, HO.out.1, fun j hj => (HV.out j hj).imp id (fun h => Nat.le_trans (by omega) h), ((Turned.of_below hb13 (Nat.le_refl _) : Turned (SR wb v) W.heap.size W w3).trans (htr.mono (by omega) (fun _ _ h => h))).trans (Turned.of_below hbq (by omega))⟩
                · have hdp3 : decide ((dp : Int) ≥ 16) = false := decide_eq_false (by have := Hdf.out; omega)
                  have HO2 := Lib.hid (show OutOK nodes (o ++ [itmOf ahead g ⟨xc, xw, xd, xp, xq, xn, xm⟩]) ∧ addV ahead (decide (f = 0)) (given nodes c q) out = addV ahead (decide (f = 0)) ((given nodes c q).drop (k + 1)) (o ++ [itmOf ahead g ⟨xc, xw, xd, xp, xq, xn, xm⟩]) from ⟨HO.out.1.add hnm hh ahead g, by
                    rw [HO.out.2, Hz.out]
                    conv => lhs; unfold addV
                    rw [show hasI o xc xw = false from hh, Bool.false_or, decide_eq_false hf0, if_neg (by simp)]⟩)
                  clear hh
                  have htrq : Turned (SR wb v) w3.heap.size w3 wr := htr.trans (Turned.of_below hbq hszr)
                  have hszq := htrq.size
                  have hszB := hstq.sz
                  have ov5 := hstq.var
                  have hox := (hstq.rows.alloc (.cells #[.string (ahead ++ g), .int .i64 xc, .int .i64 xw, .bool xd, .bool false, .string xm] 34)).drewN 1
                  have x0 : wr.drew.cell? ⟨b, off + k * 7, none⟩ = some (.int .i64 xc) := hc0
                  have x1 : wr.drew.cell? ⟨b, off + k * 7 + 1, none⟩ = some (.int .i64 xw) := hc1
                  have x2 : wr.drew.cell? ⟨b, off + k * 7 + 2, none⟩ = some (.bool xd) := (hbq.cell (p := ⟨b, off + k * 7 + 2, none⟩) hbl).trans HC.out.2.2.1
                  have x6 : wr.drew.cell? ⟨b, off + k * 7 + 6, none⟩ = some (.string xm) := (hbq.cell (p := ⟨b, off + k * 7 + 6, none⟩) hbl).trans HC.out.2.2.2
                  have gcd : wr.drew.cell? ⟨gb, goff + k, none⟩ = some (.string g) := (hbq.cell (p := ⟨gb, goff + k, none⟩) hglr).trans hgcr
                  have hbl5 : b < wr.heap.size := Nat.lt_of_lt_of_le hbl hbq.size
                  have hgl5 : gb < wr.heap.size := Nat.lt_of_lt_of_le hglr hbq.size
                  have HAl := Lib.hid fun (b i : Nat) (u : Value) (h1 : b < wr.heap.size) (h2 : wr.drew.cell? ⟨b, i, none⟩ = some u) => (show (wr.alloc (.cells #[.string (ahead ++ g), .int .i64 xc, .int .i64 xw, .bool xd, .bool false, .string xm] 34)).drew.cell? ⟨b, i, none⟩ = some u from (((Below.refl wr.heap.size wr).alloc (Nat.le_refl _) (.cells #[.string (ahead ++ g), .int .i64 xc, .int .i64 xw, .bool xd, .bool false, .string xm] 34)).cell (p := ⟨b, i, none⟩) h1).trans h2)
                  have hal5 : Below wr.heap.size wr ((wr.alloc (.cells #[.string (ahead ++ g), .int .i64 xc, .int .i64 xw, .bool xd, .bool false, .string xm] 34)).drewN 1) := belowDrew ((Below.refl _ wr).alloc (Nat.le_refl _) _) 1
                  have m1 : wr.drew.cell? ⟨wb, 1, none⟩ = some (.slice ao o.length co) := mq
                  have m2 := HAl.out wb 1 _ ov5.1 m1
                  have hdz : wr.drew.heap.size = wr.heap.size := rfl
                  have hnx : (Value.slice ao o.length co).ownBlock ≠ some b := fun e => by
                    have h9 := (Hli.out _ rfl).2
                    dsimp only at h9
                    rcases HV.out b e with e2 | e2
                    · have := (HvB.out b e2).2; omega
                    · omega
                  have hng : (Value.slice ao o.length co).ownBlock ≠ some gb := fun e => by
                    rcases HV.out gb e with e2 | e2
                    · have := (HvB.out gb e2).2; omega
                    · omega
                  have hox2 : ¬ wb = b := by omega
                  have hog2 : ¬ wb = gb := by omega
                  clear hc0 hc1 hgcr
                  go_wp2_with fail
                  clear mq
                  refine wp_region_held_drew (S := fun w' => w'.cell? ⟨b, off + k * 7, none⟩ = some (.int .i64 xc) ∧ w'.cell? ⟨b, off + k * 7 + 1, none⟩ = some (.int .i64 xw) ∧ w'.cell? ⟨b, off + k * 7 + 2, none⟩ = some (.bool xd) ∧ w'.cell? ⟨b, off + k * 7 + 6, none⟩ = some (.string xm) ∧ w'.cell? ⟨gb, goff + k, none⟩ = some (.string g)) (by kernel_rfl) ⟨x0, x1, x2, x6, gcd⟩ (fun hHeld => ?_)
                  refine wpAnyH_take (i := 0) (oi := { dst := some 76, op := Op.move (Operand.tmp 0), type := 69, pos := "ref.go:36", after := #[], guard := none }) (v := ?_) rfl (by kernel_rfl) (by kernel_rfl) (by kernel_rfl) (fun _ _ _ h => h) (Or.inl ⟨by rfl, ?_⟩) (by assumption) ?_
                  rotate_left
                  · intro w9 hSw
                    try dsimp only at hSw
                    first | (go_simp; done) | (go_simp; with_reducible rfl)
                  try simp only [Act.put, List.setIfInBounds_toArray, List.set_cons_zero, List.set_cons_succ]
                  refine wpAnyH_take (i := 1) (oi := { dst := some 77, op := Op.move (Operand.tmp 0), type := 69, pos := "ref.go:36", after := #[], guard := none }) (v := ?_) rfl (by kernel_rfl) (by kernel_rfl) (by kernel_rfl) (fun _ _ _ h => h) (Or.inl ⟨by rfl, ?_⟩) (by assumption) ?_
                  rotate_left
                  · intro w9 hSw
                    try dsimp only at hSw
                    first | (go_simp; done) | (go_simp; with_reducible rfl)
                  try simp only [Act.put, List.setIfInBounds_toArray, List.set_cons_zero, List.set_cons_succ]
                  refine wpAnyH_take (i := 2) (oi := { dst := some 78, op := Op.nilCheck (Operand.tmp 77), type := 0, pos := "ref.go:36", after := #[{ on := 1, ground := Ground.data }], guard := none }) (v := ?_) rfl (by kernel_rfl) (by kernel_rfl) (by kernel_rfl) (fun _ _ _ h => h) (Or.inl ⟨by rfl, ?_⟩) (by assumption) ?_
                  rotate_left
                  · intro w9 hSw
                    try dsimp only at hSw
                    first | (go_simp; done) | (go_simp; with_reducible rfl)
                  try simp only [Act.put, List.setIfInBounds_toArray, List.set_cons_zero, List.set_cons_succ]
                  refine wpAnyH_take (i := 3) (oi := { dst := some 79, op := Op.fieldAddr 71 (Operand.tmp 78) 1, type := 0, pos := "ref.go:36", after := #[{ on := 2, ground := Ground.data }], guard := none }) (v := ?_) rfl (by kernel_rfl) (by kernel_rfl) (by kernel_rfl) (fun _ _ _ h => h) (Or.inl ⟨by rfl, ?_⟩) (by assumption) ?_
                  rotate_left
                  · intro w9 hSw
                    try dsimp only at hSw
                    first | (go_simp; done) | (go_simp; with_reducible rfl)
                  try simp only [Act.put, List.setIfInBounds_toArray, List.set_cons_zero, List.set_cons_succ]
                  refine wpAnyH_take (i := 5) (oi := { dst := some 81, op := Op.move (Operand.tmp 2), type := 9, pos := "ref.go:36", after := #[], guard := none }) (v := ?_) rfl (by kernel_rfl) (by kernel_rfl) (by kernel_rfl) (fun _ _ _ h => h) (Or.inl ⟨by rfl, ?_⟩) (by assumption) ?_
                  rotate_left
                  · intro w9 hSw
                    try dsimp only at hSw
                    first | (go_simp; done) | (go_simp; with_reducible rfl)
                  try simp only [Act.put, List.setIfInBounds_toArray, List.set_cons_zero, List.set_cons_succ]
                  refine wpAnyH_take (i := 6) (oi := { dst := some 82, op := Op.move (Operand.tmp 12), type := 63, pos := "ref.go:36", after := #[], guard := none }) (v := ?_) rfl (by kernel_rfl) (by kernel_rfl) (by kernel_rfl) (fun _ _ _ h => h) (Or.inl ⟨by rfl, ?_⟩) (by assumption) ?_
                  rotate_left
                  · intro w9 hSw
                    try dsimp only at hSw
                    first | (go_simp; done) | (go_simp; with_reducible rfl)
                  try simp only [Act.put, List.setIfInBounds_toArray, List.set_cons_zero, List.set_cons_succ]
                  refine wpAnyH_take (i := 7) (oi := { dst := some 83, op := Op.move (Operand.tmp 14), type := 3, pos := "ref.go:36", after := #[], guard := none }) (v := ?_) rfl (by kernel_rfl) (by kernel_rfl) (by kernel_rfl) (fun _ _ _ h => h) (Or.inl ⟨by rfl, ?_⟩) (by assumption) ?_
                  rotate_left
                  · intro w9 hSw
                    try dsimp only at hSw
                    first | (go_simp; done) | (go_simp; with_reducible rfl)
                  try simp only [Act.put, List.setIfInBounds_toArray, List.set_cons_zero, List.set_cons_succ]
                  refine wpAnyH_take (i := 8) (oi := { dst := some 84, op := Op.indexAddr 63 (Operand.tmp 82) (Operand.tmp 83), type := 0, pos := "ref.go:36", after := #[{ on := 6, ground := Ground.data }, { on := 7, ground := Ground.data }], guard := none }) (v := ?_) rfl (by kernel_rfl) (by kernel_rfl) (by kernel_rfl) (fun _ _ _ h => h) (Or.inl ⟨by rfl, ?_⟩) (by assumption) ?_
                  rotate_left
                  · intro w9 hSw
                    try dsimp only at hSw
                    first | (go_simp; done) | (go_simp; with_reducible rfl)
                  try simp only [Act.put, List.setIfInBounds_toArray, List.set_cons_zero, List.set_cons_succ]
                  refine wpAnyH_take (i := 9) (oi := { dst := some 85, op := Op.load 9 (Operand.tmp 84), type := 9, pos := "ref.go:36", after := #[{ on := 8, ground := Ground.data }], guard := none }) (v := ?_) rfl (by kernel_rfl) (by kernel_rfl) (by kernel_rfl) (fun _ _ _ h => h) (Or.inl ⟨by rfl, ?_⟩) (by assumption) ?_
                  rotate_left
                  · intro w9 hSw
                    try dsimp only at hSw
                    first | (go_simp; done) | (go_simp; with_reducible rfl)
                  try simp only [Act.put, List.setIfInBounds_toArray, List.set_cons_zero, List.set_cons_succ]
                  refine wpAnyH_take (i := 10) (oi := { dst := some 86, op := Op.binOp BinOp.add 9 (Operand.tmp 81) (Operand.tmp 85) 9, type := 9, pos := "ref.go:36", after := #[{ on := 5, ground := Ground.data }, { on := 9, ground := Ground.data }], guard := none }) (v := ?_) rfl (by kernel_rfl) (by kernel_rfl) (by kernel_rfl) (fun _ _ _ h => h) (Or.inl ⟨by rfl, ?_⟩) (by assumption) ?_
                  rotate_left
                  · intro w9 hSw
                    try dsimp only at hSw
                    first | (go_simp; done) | (go_simp; with_reducible rfl)
                  try simp only [Act.put, List.setIfInBounds_toArray, List.set_cons_zero, List.set_cons_succ]
                  refine wpAnyH_take (i := 11) (oi := { dst := some 87, op := Op.move (Operand.tmp 9), type := 22, pos := "ref.go:36", after := #[], guard := none }) (v := ?_) rfl (by kernel_rfl) (by kernel_rfl) (by kernel_rfl) (fun _ _ _ h => h) (Or.inl ⟨by rfl, ?_⟩) (by assumption) ?_
                  rotate_left
                  · intro w9 hSw
                    try dsimp only at hSw
                    first | (go_simp; done) | (go_simp; with_reducible rfl)
                  try simp only [Act.put, List.setIfInBounds_toArray, List.set_cons_zero, List.set_cons_succ]
                  refine wpAnyH_take (i := 12) (oi := { dst := some 88, op := Op.move (Operand.tmp 14), type := 3, pos := "ref.go:36", after := #[], guard := none }) (v := ?_) rfl (by kernel_rfl) (by kernel_rfl) (by kernel_rfl) (fun _ _ _ h => h) (Or.inl ⟨by rfl, ?_⟩) (by assumption) ?_
                  rotate_left
                  · intro w9 hSw
                    try dsimp only at hSw
                    first | (go_simp; done) | (go_simp; with_reducible rfl)
                  try simp only [Act.put, List.setIfInBounds_toArray, List.set_cons_zero, List.set_cons_succ]
                  refine wpAnyH_take (i := 13) (oi := { dst := some 89, op := Op.indexAddr 22 (Operand.tmp 87) (Operand.tmp 88), type := 0, pos := "ref.go:36", after := #[{ on := 11, ground := Ground.data }, { on := 12, ground := Ground.data }], guard := none }) (v := ?_) rfl (by kernel_rfl) (by kernel_rfl) (by kernel_rfl) (fun _ _ _ h => h) (Or.inl ⟨by rfl, ?_⟩) (by assumption) ?_
                  rotate_left
                  · intro w9 hSw
                    try dsimp only at hSw
                    first | (go_simp; done) | (go_simp; with_reducible rfl)
                  try simp only [Act.put, List.setIfInBounds_toArray, List.set_cons_zero, List.set_cons_succ]
                  refine wpAnyH_take (i := 14) (oi := { dst := some 90, op := Op.fieldAddr 46 (Operand.tmp 89) 0, type := 0, pos := "ref.go:36", after := #[{ on := 13, ground := Ground.data }], guard := none }) (v := ?_) rfl (by kernel_rfl) (by kernel_rfl) (by kernel_rfl) (fun _ _ _ h => h) (Or.inl ⟨by rfl, ?_⟩) (by assumption) ?_
                  rotate_left
                  · intro w9 hSw
                    try dsimp only at hSw
                    first | (go_simp; done) | (go_simp; with_reducible rfl)
                  try simp only [Act.put, List.setIfInBounds_toArray, List.set_cons_zero, List.set_cons_succ]
                  refine wpAnyH_take (i := 15) (oi := { dst := some 91, op := Op.load 32 (Operand.tmp 90), type := 32, pos := "ref.go:36", after := #[{ on := 14, ground := Ground.data }], guard := none }) (v := ?_) rfl (by kernel_rfl) (by kernel_rfl) (by kernel_rfl) (fun _ _ _ h => h) (Or.inl ⟨by rfl, ?_⟩) (by assumption) ?_
                  rotate_left
                  · intro w9 hSw
                    try dsimp only at hSw
                    first | (go_simp; done) | (go_simp; with_reducible rfl)
                  try simp only [Act.put, List.setIfInBounds_toArray, List.set_cons_zero, List.set_cons_succ]
                  refine wpAnyH_take (i := 16) (oi := { dst := some 92, op := Op.move (Operand.tmp 9), type := 22, pos := "ref.go:36", after := #[], guard := none }) (v := ?_) rfl (by kernel_rfl) (by kernel_rfl) (by kernel_rfl) (fun _ _ _ h => h) (Or.inl ⟨by rfl, ?_⟩) (by assumption) ?_
                  rotate_left
                  · intro w9 hSw
                    try dsimp only at hSw
                    first | (go_simp; done) | (go_simp; with_reducible rfl)
                  try simp only [Act.put, List.setIfInBounds_toArray, List.set_cons_zero, List.set_cons_succ]
                  refine wpAnyH_take (i := 17) (oi := { dst := some 93, op := Op.move (Operand.tmp 14), type := 3, pos := "ref.go:36", after := #[], guard := none }) (v := ?_) rfl (by kernel_rfl) (by kernel_rfl) (by kernel_rfl) (fun _ _ _ h => h) (Or.inl ⟨by rfl, ?_⟩) (by assumption) ?_
                  rotate_left
                  · intro w9 hSw
                    try dsimp only at hSw
                    first | (go_simp; done) | (go_simp; with_reducible rfl)
                  try simp only [Act.put, List.setIfInBounds_toArray, List.set_cons_zero, List.set_cons_succ]
                  refine wpAnyH_take (i := 18) (oi := { dst := some 94, op := Op.indexAddr 22 (Operand.tmp 92) (Operand.tmp 93), type := 0, pos := "ref.go:36", after := #[{ on := 16, ground := Ground.data }, { on := 17, ground := Ground.data }], guard := none }) (v := ?_) rfl (by kernel_rfl) (by kernel_rfl) (by kernel_rfl) (fun _ _ _ h => h) (Or.inl ⟨by rfl, ?_⟩) (by assumption) ?_
                  rotate_left
                  · intro w9 hSw
                    try dsimp only at hSw
                    first | (go_simp; done) | (go_simp; with_reducible rfl)
                  try simp only [Act.put, List.setIfInBounds_toArray, List.set_cons_zero, List.set_cons_succ]
                  refine wpAnyH_take (i := 19) (oi := { dst := some 95, op := Op.fieldAddr 46 (Operand.tmp 94) 1, type := 0, pos := "ref.go:36", after := #[{ on := 18, ground := Ground.data }], guard := none }) (v := ?_) rfl (by kernel_rfl) (by kernel_rfl) (by kernel_rfl) (fun _ _ _ h => h) (Or.inl ⟨by rfl, ?_⟩) (by assumption) ?_
                  rotate_left
                  · intro w9 hSw
                    try dsimp only at hSw
                    first | (go_simp; done) | (go_simp; with_reducible rfl)
                  try simp only [Act.put, List.setIfInBounds_toArray, List.set_cons_zero, List.set_cons_succ]
                  refine wpAnyH_take (i := 20) (oi := { dst := some 96, op := Op.load 4 (Operand.tmp 95), type := 4, pos := "ref.go:36", after := #[{ on := 19, ground := Ground.data }], guard := none }) (v := ?_) rfl (by kernel_rfl) (by kernel_rfl) (by kernel_rfl) (fun _ _ _ h => h) (Or.inl ⟨by rfl, ?_⟩) (by assumption) ?_
                  rotate_left
                  · intro w9 hSw
                    try dsimp only at hSw
                    first | (go_simp; done) | (go_simp; with_reducible rfl)
                  try simp only [Act.put, List.setIfInBounds_toArray, List.set_cons_zero, List.set_cons_succ]
                  refine wpAnyH_take (i := 21) (oi := { dst := some 97, op := Op.move (Operand.tmp 9), type := 22, pos := "ref.go:36", after := #[], guard := none }) (v := ?_) rfl (by kernel_rfl) (by kernel_rfl) (by kernel_rfl) (fun _ _ _ h => h) (Or.inl ⟨by rfl, ?_⟩) (by assumption) ?_
                  rotate_left
                  · intro w9 hSw
                    try dsimp only at hSw
                    first | (go_simp; done) | (go_simp; with_reducible rfl)
                  try simp only [Act.put, List.setIfInBounds_toArray, List.set_cons_zero, List.set_cons_succ]
                  refine wpAnyH_take (i := 22) (oi := { dst := some 98, op := Op.move (Operand.tmp 14), type := 3, pos := "ref.go:36", after := #[], guard := none }) (v := ?_) rfl (by kernel_rfl) (by kernel_rfl) (by kernel_rfl) (fun _ _ _ h => h) (Or.inl ⟨by rfl, ?_⟩) (by assumption) ?_
                  rotate_left
                  · intro w9 hSw
                    try dsimp only at hSw
                    first | (go_simp; done) | (go_simp; with_reducible rfl)
                  try simp only [Act.put, List.setIfInBounds_toArray, List.set_cons_zero, List.set_cons_succ]
                  refine wpAnyH_take (i := 23) (oi := { dst := some 99, op := Op.indexAddr 22 (Operand.tmp 97) (Operand.tmp 98), type := 0, pos := "ref.go:36", after := #[{ on := 21, ground := Ground.data }, { on := 22, ground := Ground.data }], guard := none }) (v := ?_) rfl (by kernel_rfl) (by kernel_rfl) (by kernel_rfl) (fun _ _ _ h => h) (Or.inl ⟨by rfl, ?_⟩) (by assumption) ?_
                  rotate_left
                  · intro w9 hSw
                    try dsimp only at hSw
                    first | (go_simp; done) | (go_simp; with_reducible rfl)
                  try simp only [Act.put, List.setIfInBounds_toArray, List.set_cons_zero, List.set_cons_succ]
                  refine wpAnyH_take (i := 24) (oi := { dst := some 100, op := Op.fieldAddr 46 (Operand.tmp 99) 4, type := 0, pos := "ref.go:36", after := #[{ on := 23, ground := Ground.data }], guard := none }) (v := ?_) rfl (by kernel_rfl) (by kernel_rfl) (by kernel_rfl) (fun _ _ _ h => h) (Or.inl ⟨by rfl, ?_⟩) (by assumption) ?_
                  rotate_left
                  · intro w9 hSw
                    try dsimp only at hSw
                    first | (go_simp; done) | (go_simp; with_reducible rfl)
                  try simp only [Act.put, List.setIfInBounds_toArray, List.set_cons_zero, List.set_cons_succ]
                  refine wpAnyH_take (i := 25) (oi := { dst := some 101, op := Op.load 9 (Operand.tmp 100), type := 9, pos := "ref.go:36", after := #[{ on := 24, ground := Ground.data }], guard := none }) (v := ?_) rfl (by kernel_rfl) (by kernel_rfl) (by kernel_rfl) (fun _ _ _ h => h) (Or.inl ⟨by rfl, ?_⟩) (by assumption) ?_
                  rotate_left
                  · intro w9 hSw
                    try dsimp only at hSw
                    first | (go_simp; done) | (go_simp; with_reducible rfl)
                  try simp only [Act.put, List.setIfInBounds_toArray, List.set_cons_zero, List.set_cons_succ]
                  refine wpAnyH_take (i := 26) (oi := { dst := some 102, op := Op.build 34 #[(0, Operand.tmp 86), (1, Operand.tmp 91), (2, Operand.tmp 96), (4, Operand.tmp 101)], type := 34, pos := "ref.go:36", after := #[{ on := 10, ground := Ground.data }, { on := 15, ground := Ground.data }, { on := 20, ground := Ground.data }, { on := 25, ground := Ground.data }], guard := none }) (v := ?_) rfl (by kernel_rfl) (by kernel_rfl) (by kernel_rfl) (fun _ _ _ h => h) (Or.inl ⟨by rfl, ?_⟩) (by assumption) ?_
                  rotate_left
                  · intro w9 hSw
                    try dsimp only at hSw
                    first | (go_simp; done) | (go_simp; with_reducible rfl)
                  try simp only [Act.put, List.setIfInBounds_toArray, List.set_cons_zero, List.set_cons_succ]
                  refine wpAnyH_ready (rs := [4, 27]) (by kernel_rfl) (by simp) ?_
                  refine AllReadyH.cons (o := { dst := some 80, op := Op.load 25 (Operand.tmp 79), type := 25, pos := "ref.go:36", after := #[{ on := 3, ground := Ground.data }], guard := none }) rfl (fun K hK => ?_) ?_
                  · go_simp
                    refine hK.out _ _ ?_ (fun hHeld2 => ?_)
                    · exact hHeld
                    clear hK K hHeld
                    have hHeld := hHeld2
                    clear hHeld2
                    try simp only [Act.put, List.setIfInBounds_toArray, List.set_cons_zero, List.set_cons_succ]
                    refine wpAnyH_ready (rs := [27]) (by kernel_rfl) (by simp) ?_
                    refine AllReadyH.cons (o := { dst := some 103, op := Op.buildSlice 25 1 #[(0, Operand.tmp 102)], type := 25, pos := "ref.go:36", after := #[{ on := 26, ground := Ground.data }], guard := none }) rfl (fun K hK => ?_) ?_
                    · go_simp
                      refine hK.out _ _ ?_ (fun hHeld2 => ?_)
                      · first | exact ⟨HAl.out _ _ _ hbl5 x0, HAl.out _ _ _ hbl5 x1, HAl.out _ _ _ hbl5 x2, HAl.out _ _ _ hbl5 x6, HAl.out _ _ _ hgl5 gcd⟩ | (dsimp only at hHeld; exact ⟨HAl.out _ _ _ hbl5 hHeld.1, HAl.out _ _ _ hbl5 hHeld.2.1, HAl.out _ _ _ hbl5 hHeld.2.2.1, HAl.out _ _ _ hbl5 hHeld.2.2.2.1, HAl.out _ _ _ hgl5 hHeld.2.2.2.2⟩)
                      clear hK K hHeld
                      have hHeld := hHeld2
                      clear hHeld2
                      try simp only [Act.put, List.setIfInBounds_toArray, List.set_cons_zero, List.set_cons_succ]
                      refine wpAnyH_ready (rs := [28]) (by kernel_rfl) (by simp) ?_
                      refine AllReadyH.cons (o := { dst := some 104, op := Op.call { callee := Callee.builtin Builtin.append, args := #[Operand.tmp 80, Operand.tmp 103], argTypes := #[25, 25] }, type := 25, pos := "ref.go:36", after := #[{ on := 4, ground := Ground.data }, { on := 27, ground := Ground.data }], guard := none }) rfl (fun K hK => ?_) ?_
                      · refine step_append_at _ (by rfl) _ _ 25 (by rfl) itmLay B 34 i0 (.agg #[.string ⟨#[]⟩, .int .i64 0, .int .i64 0, .bool false, .bool false, .string ⟨#[]⟩]) 56 Tryd.underlying25 Hi.out Hz0.out Hz1.out Hz2.out rfl (by decide) _ _ (by rfl) hox ⟨wr.heap.size, 0, none⟩ 1 ⟨ahead ++ g, xc, xw, xd, false, xm⟩ (by rfl) (World.news_of_block (cs := #[.string (ahead ++ g), .int .i64 xc, .int .i64 xw, .bool xd, .bool false, .string xm]) (t := 34) (fr := (0, 0)) (heap_alloc_new wr _)) (by unfold maxLen; omega) (by omega) (by first | (simp; done) | (simp; omega)) ?_
                        intro g7 c7 w6 ho6 hg6 hw6
                        have hM6 := (ov5.keeps hal5 ov5.1).grown hg6 (fun e => by have := (hox.lt e.symm).1; omega)
                        have hk6 := hM6.2.2 1 _ rfl
                        have hf6 := hM6.2.1 1
                        refine hK.out _ _ ?_ (fun hHeld2 => ?_)
                        · exact ⟨(by rw [hg6.cell_far ⟨b, off + k * 7, none⟩ (by simp; omega) (by first | exact hnx | exact Ne.symm hnx)]; exact hHeld.1), (by rw [hg6.cell_far ⟨b, off + k * 7 + 1, none⟩ (by simp; omega) (by first | exact hnx | exact Ne.symm hnx)]; exact hHeld.2.1), (by rw [hg6.cell_far ⟨b, off + k * 7 + 2, none⟩ (by simp; omega) (by first | exact hnx | exact Ne.symm hnx)]; exact hHeld.2.2.1), (by rw [hg6.cell_far ⟨b, off + k * 7 + 6, none⟩ (by simp; omega) (by first | exact hnx | exact Ne.symm hnx)]; exact hHeld.2.2.2.1), (by rw [hg6.cell_far ⟨gb, goff + k, none⟩ (by simp; omega) (by first | exact hng | exact Ne.symm hng)]; exact hHeld.2.2.2.2)⟩
                        clear hK K hHeld
                        have hHeld := hHeld2
                        clear hHeld2
                        try simp only [Act.put, List.setIfInBounds_toArray, List.set_cons_zero, List.set_cons_succ]
                        refine wpAnyH_ready (rs := [29]) (by kernel_rfl) (by simp) ?_
                        refine AllReadyH.cons (o := { dst := some 105, op := Op.nilCheck (Operand.tmp 76), type := 0, pos := "ref.go:36", after := #[{ on := 0, ground := Ground.data }, { on := 0, ground := Ground.phase }, { on := 1, ground := Ground.phase }, { on := 2, ground := Ground.phase }, { on := 3, ground := Ground.phase }, { on := 4, ground := Ground.phase }, { on := 5, ground := Ground.phase }, { on := 6, ground := Ground.phase }, { on := 7, ground := Ground.phase }, { on := 8, ground := Ground.phase }, { on := 9, ground := Ground.phase }, { on := 10, ground := Ground.phase }, { on := 11, ground := Ground.phase }, { on := 12, ground := Ground.phase }, { on := 13, ground := Ground.phase }, { on := 14, ground := Ground.phase }, { on := 15, ground := Ground.phase }, { on := 16, ground := Ground.phase }, { on := 17, ground := Ground.phase }, { on := 18, ground := Ground.phase }, { on := 19, ground := Ground.phase }, { on := 20, ground := Ground.phase }, { on := 21, ground := Ground.phase }, { on := 22, ground := Ground.phase }, { on := 23, ground := Ground.phase }, { on := 24, ground := Ground.phase }, { on := 25, ground := Ground.phase }, { on := 26, ground := Ground.phase }, { on := 27, ground := Ground.phase }, { on := 28, ground := Ground.phase }], guard := none }) rfl (fun K hK => ?_) ?_
                        · go_simp
                          refine hK.out _ _ ?_ (fun hHeld2 => ?_)
                          · exact hHeld
                          clear hK K hHeld
                          have hHeld := hHeld2
                          clear hHeld2
                          try simp only [Act.put, List.setIfInBounds_toArray, List.set_cons_zero, List.set_cons_succ]
                          refine wpAnyH_ready (rs := [30]) (by kernel_rfl) (by simp) ?_
                          refine AllReadyH.cons (o := { dst := some 106, op := Op.fieldAddr 71 (Operand.tmp 105) 1, type := 0, pos := "ref.go:36", after := #[{ on := 29, ground := Ground.data }, { on := 0, ground := Ground.phase }, { on := 1, ground := Ground.phase }, { on := 2, ground := Ground.phase }, { on := 3, ground := Ground.phase }, { on := 4, ground := Ground.phase }, { on := 5, ground := Ground.phase }, { on := 6, ground := Ground.phase }, { on := 7, ground := Ground.phase }, { on := 8, ground := Ground.phase }, { on := 9, ground := Ground.phase }, { on := 10, ground := Ground.phase }, { on := 11, ground := Ground.phase }, { on := 12, ground := Ground.phase }, { on := 13, ground := Ground.phase }, { on := 14, ground := Ground.phase }, { on := 15, ground := Ground.phase }, { on := 16, ground := Ground.phase }, { on := 17, ground := Ground.phase }, { on := 18, ground := Ground.phase }, { on := 19, ground := Ground.phase }, { on := 20, ground := Ground.phase }, { on := 21, ground := Ground.phase }, { on := 22, ground := Ground.phase }, { on := 23, ground := Ground.phase }, { on := 24, ground := Ground.phase }, { on := 25, ground := Ground.phase }, { on := 26, ground := Ground.phase }, { on := 27, ground := Ground.phase }, { on := 28, ground := Ground.phase }], guard := none }) rfl (fun K hK => ?_) ?_
                          · go_simp
                            refine hK.out _ _ ?_ (fun hHeld2 => ?_)
                            · exact hHeld
                            clear hK K hHeld
                            have hHeld := hHeld2
                            clear hHeld2
                            try simp only [Act.put, List.setIfInBounds_toArray, List.set_cons_zero, List.set_cons_succ]
                            refine wpAnyH_ready (rs := [31]) (by kernel_rfl) (by simp) ?_
                            refine AllReadyH.cons (o := { dst := none, op := Op.store 25 (Operand.tmp 106) (Operand.tmp 104), type := 0, pos := "ref.go:36", after := #[{ on := 30, ground := Ground.data }, { on := 28, ground := Ground.data }, { on := 28, ground := Ground.chain }, { on := 0, ground := Ground.phase }, { on := 1, ground := Ground.phase }, { on := 2, ground := Ground.phase }, { on := 3, ground := Ground.phase }, { on := 4, ground := Ground.phase }, { on := 5, ground := Ground.phase }, { on := 6, ground := Ground.phase }, { on := 7, ground := Ground.phase }, { on := 8, ground := Ground.phase }, { on := 9, ground := Ground.phase }, { on := 10, ground := Ground.phase }, { on := 11, ground := Ground.phase }, { on := 12, ground := Ground.phase }, { on := 13, ground := Ground.phase }, { on := 14, ground := Ground.phase }, { on := 15, ground := Ground.phase }, { on := 16, ground := Ground.phase }, { on := 17, ground := Ground.phase }, { on := 18, ground := Ground.phase }, { on := 19, ground := Ground.phase }, { on := 20, ground := Ground.phase }, { on := 21, ground := Ground.phase }, { on := 22, ground := Ground.phase }, { on := 23, ground := Ground.phase }, { on := 24, ground := Ground.phase }, { on := 25, ground := Ground.phase }, { on := 26, ground := Ground.phase }, { on := 27, ground := Ground.phase }, { on := 28, ground := Ground.phase }], guard := none }) rfl (fun K hK => ?_) ?_
                            · go_simp
                              refine hK.out _ _ ?_ (fun hHeld2 => ?_)
                              · exact ⟨(World.cell?_setCell_far w6 ⟨wb, 1, none⟩ ⟨b, off + k * 7, none⟩ _ hox2).trans hHeld.1, (World.cell?_setCell_far w6 ⟨wb, 1, none⟩ ⟨b, off + k * 7 + 1, none⟩ _ hox2).trans hHeld.2.1, (World.cell?_setCell_far w6 ⟨wb, 1, none⟩ ⟨b, off + k * 7 + 2, none⟩ _ hox2).trans hHeld.2.2.1, (World.cell?_setCell_far w6 ⟨wb, 1, none⟩ ⟨b, off + k * 7 + 6, none⟩ _ hox2).trans hHeld.2.2.2.1, (World.cell?_setCell_far w6 ⟨wb, 1, none⟩ ⟨gb, goff + k, none⟩ _ hog2).trans hHeld.2.2.2.2⟩
                              clear hK K hHeld
                              have hHeld := hHeld2
                              clear hHeld2
                              try simp only [Act.put, List.setIfInBounds_toArray, List.set_cons_zero, List.set_cons_succ]
                              refine wpAnyH_done (by kernel_rfl) ?_ _
                              have hsz6 := hg6.size
                              have hsz6a : wr.heap.size + 1 ≤ w6.heap.size := by simpa using hsz6
                              have ht7 : Turned (SR wb (.slice ao o.length co)) wr.heap.size wr (w6.setCell ⟨wb, 1, none⟩ (.slice (some ⟨g7, 0, none⟩) (o.length + 1) c7)) := ((((Turned.refl _ _ wr).alloc (Nat.le_refl _) (.cells #[.string (ahead ++ g), .int .i64 xc, .int .i64 xw, .bool xd, .bool false, .string xm] 34)).drewN 1).trans (Turned.of_grown hg6 (by first | (simp; done) | (simp; omega)) (fun j e _ => .inr e))).set 1 _ (fun _ => .inl rfl)
                              have hst7 : RSt wE wb B av cv nodes (w6.setCell ⟨wb, 1, none⟩ (.slice (some ⟨g7, 0, none⟩) (o.length + 1) c7)) (o ++ [itmOf ahead g ⟨xc, xw, xd, xp, xq, xn, xm⟩]) (.slice (some ⟨g7, 0, none⟩) (o.length + 1) c7) := by
                                refine ⟨hstq.bel.trans (ht7.below (by omega) (fun j hj hs => ?_)), hM6.set 1 _ (by simp), own_setV ho6 (b := wb) 1 _ (by omega), by simp; omega⟩
                                rcases hs with e | e
                                · omega
                                · have := (hstq.rows.lt e).1; omega
                              have HV7 := Lib.hid (show ∀ j, (Value.slice (some ⟨g7, 0, none⟩) (o.length + 1) c7).ownBlock = some j → v.ownBlock = some j ∨ w3.heap.size ≤ j from fun j hj => by
                                obtain rfl : g7 = j := Option.some.inj hj
                                rcases hw6 with e | e
                                · exact HV.out _ e
                                · refine .inr ?_
                                  rw [e]
                                  simp
                                  omega)
                              have htr7 : Turned (SR wb v) w3.heap.size w3 (w6.setCell ⟨wb, 1, none⟩ (.slice (some ⟨g7, 0, none⟩) (o.length + 1) c7)) := htrq.trans (ht7.mono hszq (fun j hj hs => by
                                rcases hs with e | e
                                · exact .inl e
                                · rcases HV.out j e with e2 | e2
                                  · exact .inr e2
                                  · omega))
                              clear hM6 hk6 hf6 ho6 hg6 hw6 hox x0 x1 x2 x6 gcd ov5 hal5 ht7
                              go_wp2_with fail
                              go_roundw
                              case rel => exact ⟨k + 1, _, _, by omega, by go_num, hst7, HO2, HV7, htr7⟩
                              case measure => simp [RowKit.intOf]; omega
                            exact AllReadyH.nil
                          exact AllReadyH.nil
                        exact AllReadyH.nil
                      exact AllReadyH.nil
                    exact AllReadyH.nil
                  refine AllReadyH.cons (o := { dst := some 103, op := Op.buildSlice 25 1 #[(0, Operand.tmp 102)], type := 25, pos := "ref.go:36", after := #[{ on := 26, ground := Ground.data }], guard := none }) rfl (fun K hK => ?_) ?_
                  · go_simp
                    refine hK.out _ _ ?_ (fun hHeld2 => ?_)
                    · first | exact ⟨HAl.out _ _ _ hbl5 x0, HAl.out _ _ _ hbl5 x1, HAl.out _ _ _ hbl5 x2, HAl.out _ _ _ hbl5 x6, HAl.out _ _ _ hgl5 gcd⟩ | (dsimp only at hHeld; exact ⟨HAl.out _ _ _ hbl5 hHeld.1, HAl.out _ _ _ hbl5 hHeld.2.1, HAl.out _ _ _ hbl5 hHeld.2.2.1, HAl.out _ _ _ hbl5 hHeld.2.2.2.1, HAl.out _ _ _ hgl5 hHeld.2.2.2.2⟩)
                    clear hK K hHeld
                    have hHeld := hHeld2
                    clear hHeld2
                    try simp only [Act.put, List.setIfInBounds_toArray, List.set_cons_zero, List.set_cons_succ]
                    refine wpAnyH_ready (rs := [4]) (by kernel_rfl) (by simp) ?_
                    refine AllReadyH.cons (o := { dst := some 80, op := Op.load 25 (Operand.tmp 79), type := 25, pos := "ref.go:36", after := #[{ on := 3, ground := Ground.data }], guard := none }) rfl (fun K hK => ?_) ?_
                    · go_simp
                      refine hK.out _ _ ?_ (fun hHeld2 => ?_)
                      · exact hHeld
                      clear hK K hHeld
                      have hHeld := hHeld2
                      clear hHeld2
                      try simp only [Act.put, List.setIfInBounds_toArray, List.set_cons_zero, List.set_cons_succ]
                      refine wpAnyH_ready (rs := [28]) (by kernel_rfl) (by simp) ?_
                      refine AllReadyH.cons (o := { dst := some 104, op := Op.call { callee := Callee.builtin Builtin.append, args := #[Operand.tmp 80, Operand.tmp 103], argTypes := #[25, 25] }, type := 25, pos := "ref.go:36", after := #[{ on := 4, ground := Ground.data }, { on := 27, ground := Ground.data }], guard := none }) rfl (fun K hK => ?_) ?_
                      · refine step_append_at _ (by rfl) _ _ 25 (by rfl) itmLay B 34 i0 (.agg #[.string ⟨#[]⟩, .int .i64 0, .int .i64 0, .bool false, .bool false, .string ⟨#[]⟩]) 56 Tryd.underlying25 Hi.out Hz0.out Hz1.out Hz2.out rfl (by decide) _ _ (by rfl) hox ⟨wr.heap.size, 0, none⟩ 1 ⟨ahead ++ g, xc, xw, xd, false, xm⟩ (by rfl) (World.news_of_block (cs := #[.string (ahead ++ g), .int .i64 xc, .int .i64 xw, .bool xd, .bool false, .string xm]) (t := 34) (fr := (0, 0)) (heap_alloc_new wr _)) (by unfold maxLen; omega) (by omega) (by first | (simp; done) | (simp; omega)) ?_
                        intro g7 c7 w6 ho6 hg6 hw6
                        have hM6 := (ov5.keeps hal5 ov5.1).grown hg6 (fun e => by have := (hox.lt e.symm).1; omega)
                        have hk6 := hM6.2.2 1 _ rfl
                        have hf6 := hM6.2.1 1
                        refine hK.out _ _ ?_ (fun hHeld2 => ?_)
                        · exact ⟨(by rw [hg6.cell_far ⟨b, off + k * 7, none⟩ (by simp; omega) (by first | exact hnx | exact Ne.symm hnx)]; exact hHeld.1), (by rw [hg6.cell_far ⟨b, off + k * 7 + 1, none⟩ (by simp; omega) (by first | exact hnx | exact Ne.symm hnx)]; exact hHeld.2.1), (by rw [hg6.cell_far ⟨b, off + k * 7 + 2, none⟩ (by simp; omega) (by first | exact hnx | exact Ne.symm hnx)]; exact hHeld.2.2.1), (by rw [hg6.cell_far ⟨b, off + k * 7 + 6, none⟩ (by simp; omega) (by first | exact hnx | exact Ne.symm hnx)]; exact hHeld.2.2.2.1), (by rw [hg6.cell_far ⟨gb, goff + k, none⟩ (by simp; omega) (by first | exact hng | exact Ne.symm hng)]; exact hHeld.2.2.2.2)⟩
                        clear hK K hHeld
                        have hHeld := hHeld2
                        clear hHeld2
                        try simp only [Act.put, List.setIfInBounds_toArray, List.set_cons_zero, List.set_cons_succ]
                        refine wpAnyH_ready (rs := [29]) (by kernel_rfl) (by simp) ?_
                        refine AllReadyH.cons (o := { dst := some 105, op := Op.nilCheck (Operand.tmp 76), type := 0, pos := "ref.go:36", after := #[{ on := 0, ground := Ground.data }, { on := 0, ground := Ground.phase }, { on := 1, ground := Ground.phase }, { on := 2, ground := Ground.phase }, { on := 3, ground := Ground.phase }, { on := 4, ground := Ground.phase }, { on := 5, ground := Ground.phase }, { on := 6, ground := Ground.phase }, { on := 7, ground := Ground.phase }, { on := 8, ground := Ground.phase }, { on := 9, ground := Ground.phase }, { on := 10, ground := Ground.phase }, { on := 11, ground := Ground.phase }, { on := 12, ground := Ground.phase }, { on := 13, ground := Ground.phase }, { on := 14, ground := Ground.phase }, { on := 15, ground := Ground.phase }, { on := 16, ground := Ground.phase }, { on := 17, ground := Ground.phase }, { on := 18, ground := Ground.phase }, { on := 19, ground := Ground.phase }, { on := 20, ground := Ground.phase }, { on := 21, ground := Ground.phase }, { on := 22, ground := Ground.phase }, { on := 23, ground := Ground.phase }, { on := 24, ground := Ground.phase }, { on := 25, ground := Ground.phase }, { on := 26, ground := Ground.phase }, { on := 27, ground := Ground.phase }, { on := 28, ground := Ground.phase }], guard := none }) rfl (fun K hK => ?_) ?_
                        · go_simp
                          refine hK.out _ _ ?_ (fun hHeld2 => ?_)
                          · exact hHeld
                          clear hK K hHeld
                          have hHeld := hHeld2
                          clear hHeld2
                          try simp only [Act.put, List.setIfInBounds_toArray, List.set_cons_zero, List.set_cons_succ]
                          refine wpAnyH_ready (rs := [30]) (by kernel_rfl) (by simp) ?_
                          refine AllReadyH.cons (o := { dst := some 106, op := Op.fieldAddr 71 (Operand.tmp 105) 1, type := 0, pos := "ref.go:36", after := #[{ on := 29, ground := Ground.data }, { on := 0, ground := Ground.phase }, { on := 1, ground := Ground.phase }, { on := 2, ground := Ground.phase }, { on := 3, ground := Ground.phase }, { on := 4, ground := Ground.phase }, { on := 5, ground := Ground.phase }, { on := 6, ground := Ground.phase }, { on := 7, ground := Ground.phase }, { on := 8, ground := Ground.phase }, { on := 9, ground := Ground.phase }, { on := 10, ground := Ground.phase }, { on := 11, ground := Ground.phase }, { on := 12, ground := Ground.phase }, { on := 13, ground := Ground.phase }, { on := 14, ground := Ground.phase }, { on := 15, ground := Ground.phase }, { on := 16, ground := Ground.phase }, { on := 17, ground := Ground.phase }, { on := 18, ground := Ground.phase }, { on := 19, ground := Ground.phase }, { on := 20, ground := Ground.phase }, { on := 21, ground := Ground.phase }, { on := 22, ground := Ground.phase }, { on := 23, ground := Ground.phase }, { on := 24, ground := Ground.phase }, { on := 25, ground := Ground.phase }, { on := 26, ground := Ground.phase }, { on := 27, ground := Ground.phase }, { on := 28, ground := Ground.phase }], guard := none }) rfl (fun K hK => ?_) ?_
                          · go_simp
                            refine hK.out _ _ ?_ (fun hHeld2 => ?_)
                            · exact hHeld
                            clear hK K hHeld
                            have hHeld := hHeld2
                            clear hHeld2
                            try simp only [Act.put, List.setIfInBounds_toArray, List.set_cons_zero, List.set_cons_succ]
                            refine wpAnyH_ready (rs := [31]) (by kernel_rfl) (by simp) ?_
                            refine AllReadyH.cons (o := { dst := none, op := Op.store 25 (Operand.tmp 106) (Operand.tmp 104), type := 0, pos := "ref.go:36", after := #[{ on := 30, ground := Ground.data }, { on := 28, ground := Ground.data }, { on := 28, ground := Ground.chain }, { on := 0, ground := Ground.phase }, { on := 1, ground := Ground.phase }, { on := 2, ground := Ground.phase }, { on := 3, ground := Ground.phase }, { on := 4, ground := Ground.phase }, { on := 5, ground := Ground.phase }, { on := 6, ground := Ground.phase }, { on := 7, ground := Ground.phase }, { on := 8, ground := Ground.phase }, { on := 9, ground := Ground.phase }, { on := 10, ground := Ground.phase }, { on := 11, ground := Ground.phase }, { on := 12, ground := Ground.phase }, { on := 13, ground := Ground.phase }, { on := 14, ground := Ground.phase }, { on := 15, ground := Ground.phase }, { on := 16, ground := Ground.phase }, { on := 17, ground := Ground.phase }, { on := 18, ground := Ground.phase }, { on := 19, ground := Ground.phase }, { on := 20, ground := Ground.phase }, { on := 21, ground := Ground.phase }, { on := 22, ground := Ground.phase }, { on := 23, ground := Ground.phase }, { on := 24, ground := Ground.phase }, { on := 25, ground := Ground.phase }, { on := 26, ground := Ground.phase }, { on := 27, ground := Ground.phase }, { on := 28, ground := Ground.phase }], guard := none }) rfl (fun K hK => ?_) ?_
                            · go_simp
                              refine hK.out _ _ ?_ (fun hHeld2 => ?_)
                              · exact ⟨(World.cell?_setCell_far w6 ⟨wb, 1, none⟩ ⟨b, off + k * 7, none⟩ _ hox2).trans hHeld.1, (World.cell?_setCell_far w6 ⟨wb, 1, none⟩ ⟨b, off + k * 7 + 1, none⟩ _ hox2).trans hHeld.2.1, (World.cell?_setCell_far w6 ⟨wb, 1, none⟩ ⟨b, off + k * 7 + 2, none⟩ _ hox2).trans hHeld.2.2.1, (World.cell?_setCell_far w6 ⟨wb, 1, none⟩ ⟨b, off + k * 7 + 6, none⟩ _ hox2).trans hHeld.2.2.2.1, (World.cell?_setCell_far w6 ⟨wb, 1, none⟩ ⟨gb, goff + k, none⟩ _ hog2).trans hHeld.2.2.2.2⟩
                              clear hK K hHeld
                              have hHeld := hHeld2
                              clear hHeld2
                              try simp only [Act.put, List.setIfInBounds_toArray, List.set_cons_zero, List.set_cons_succ]
                              refine wpAnyH_done (by kernel_rfl) ?_ _
                              have hsz6 := hg6.size
                              have hsz6a : wr.heap.size + 1 ≤ w6.heap.size := by simpa using hsz6
                              have ht7 : Turned (SR wb (.slice ao o.length co)) wr.heap.size wr (w6.setCell ⟨wb, 1, none⟩ (.slice (some ⟨g7, 0, none⟩) (o.length + 1) c7)) := ((((Turned.refl _ _ wr).alloc (Nat.le_refl _) (.cells #[.string (ahead ++ g), .int .i64 xc, .int .i64 xw, .bool xd, .bool false, .string xm] 34)).drewN 1).trans (Turned.of_grown hg6 (by first | (simp; done) | (simp; omega)) (fun j e _ => .inr e))).set 1 _ (fun _ => .inl rfl)
                              have hst7 : RSt wE wb B av cv nodes (w6.setCell ⟨wb, 1, none⟩ (.slice (some ⟨g7, 0, none⟩) (o.length + 1) c7)) (o ++ [itmOf ahead g ⟨xc, xw, xd, xp, xq, xn, xm⟩]) (.slice (some ⟨g7, 0, none⟩) (o.length + 1) c7) := by
                                refine ⟨hstq.bel.trans (ht7.below (by omega) (fun j hj hs => ?_)), hM6.set 1 _ (by simp), own_setV ho6 (b := wb) 1 _ (by omega), by simp; omega⟩
                                rcases hs with e | e
                                · omega
                                · have := (hstq.rows.lt e).1; omega
                              have HV7 := Lib.hid (show ∀ j, (Value.slice (some ⟨g7, 0, none⟩) (o.length + 1) c7).ownBlock = some j → v.ownBlock = some j ∨ w3.heap.size ≤ j from fun j hj => by
                                obtain rfl : g7 = j := Option.some.inj hj
                                rcases hw6 with e | e
                                · exact HV.out _ e
                                · refine .inr ?_
                                  rw [e]
                                  simp
                                  omega)
                              have htr7 : Turned (SR wb v) w3.heap.size w3 (w6.setCell ⟨wb, 1, none⟩ (.slice (some ⟨g7, 0, none⟩) (o.length + 1) c7)) := htrq.trans (ht7.mono hszq (fun j hj hs => by
                                rcases hs with e | e
                                · exact .inl e
                                · rcases HV.out j e with e2 | e2
                                  · exact .inr e2
                                  · omega))
                              clear hM6 hk6 hf6 ho6 hg6 hw6 hox x0 x1 x2 x6 gcd ov5 hal5 ht7
                              go_wp2_with fail
                              go_roundw
                              case rel => exact ⟨k + 1, _, _, by omega, by go_num, hst7, HO2, HV7, htr7⟩
                              case measure => simp [RowKit.intOf]; omega
                            exact AllReadyH.nil
                          exact AllReadyH.nil
                        exact AllReadyH.nil
                      exact AllReadyH.nil
                    exact AllReadyH.nil
                  exact AllReadyH.nil
          · obtain rfl : k = il.length := by omega
            have hLl : (given nodes c q).length = il.length := by
              unfold given
              rw [List.length_zip, Hil.out, Hul.out]
              omega
            have HE1 := Lib.hid (show addV ahead (decide (f = 0)) (given nodes c q) out = (o, 0) by
              rw [HO.out.2, ← hLl, List.drop_length]
              rfl)
            have HD3 := Lib.hid (show dn = subV (downV nodes (f - 1)) ahead (given nodes c q) o by
              rw [HD.out, HE1.out, if_pos rfl])
            have HF0 := Lib.hid (show f = 0 → il.length = 0 from fun h0 => by
              have h1 := HE1.out
              rw [decide_eq_true h0] at h1
              have h2 := addV_full h1
              rw [h2] at hLl
              exact hLl.symm)
            have hout2 := HO.out.1
            have hln : ¬ (il.length : Int) < (il.length : Int) := by omega
            clear HO HD HE1
            go_wp2_with fail
            go_loopw [16] (fun i wr => ∃ (k : Nat) (o' : List Itm) (v' : Value), k ≤ il.length ∧ i = .int .i64 k ∧ RSt wE wb B av cv nodes wr o' v' ∧ Hid (OutOK nodes o' ∧ subV (downV nodes (f - 1)) ahead (given nodes c q) o = subV (downV nodes (f - 1)) ahead ((given nodes c q).drop k) o') ∧ Hid (∀ j, v'.ownBlock = some j → v.ownBlock = some j ∨ w3.heap.size ≤ j) ∧ Turned (SR wb v) w3.heap.size w3 wr) (fun i _ => il.length - (RowKit.intOf i).toNat)
            case atStart => exact ⟨0, o, v', Nat.zero_le _, rfl, hstr, Lib.hid ⟨hout2, by rw [List.drop_zero]⟩, HV, htr⟩
            case round =>
              clear hstr hout2 HV htr
              obtain ⟨k, o', v2, hk, rfl, hstr, HO, HV, htr⟩ := hrel
              by_cases hlt : k < il.length
              · obtain ⟨n, hn⟩ := at_some hlt
                obtain ⟨g, hg⟩ := at_some (show k < ul.length by omega)
                have Hz := Lib.hid (zip_at (nodes := nodes) (c := c) (q := q) (k := k) (n := n) (g := g) (by rw [Hil.out]; exact hn) (by rw [Hil.out, Hul.out]; exact hg))
                have hriw := hri3.turned htr (fun ad e => ⟨by have := (Hli.out ad e).2; omega, hns _ (Hli.out ad e).1⟩)
                obtain ⟨gb, goff, hge, hgl, hgc⟩ := hsg k (by omega)
                rw [List.getD_eq_getElem?_getD, hg, Option.getD_some] at hgc
                have hgb : wN.heap.size ≤ gb := hlg _ hge
                have hgcr := (World.cell?_of_block (htr.block gb hgl (hns gb (by omega)))).trans hgc
                have hglr : gb < wr.heap.size := Nat.lt_of_lt_of_le hgl htr.size
                subst hge
                have hgs := Hul2.out g (List.mem_of_getElem? hg)
                have hcat : ∀ W' : World, (Op.stringOp .add ahead g).run Tryd.prog W' = .ok (.string (ahead ++ g)) W' := fun W' => by first | exact run_string_add W' _ _ (by omega) (by omega) | exact run_string_add _ _ (by omega) (by omega)
                obtain ⟨b, off, hae, hbl, c0, c1, c2, c3, c4, c5, c6⟩ := nd_at hriw hn
                have hbW : W1.heap.size ≤ b := (Hli.out _ hae).1
                subst hae
                have hid := Hok.out.id n (Hilm.out n (List.mem_of_getElem? hn))
                have hnm := Hilm.out n (List.mem_of_getElem? hn)
                obtain ⟨xc, xw, xd, xp, xq, xn, xm⟩ := n
                dsimp only at c0 c1 c2 c3 c4 c5 c6 hid
                have hlti : (k : Int) < (il.length : Int) := by omega
                have hlt0 : (0 : Int) ≤ (k : Int) := by omega
                have hltg : (k : Int) < (ul.length : Int) := by omega
                have hszr := htr.size
                clear hn hg hgc
                have hfp : f - 1 + 1 = f := by
                  have := HF0.out
                  omega
                have hags : (ahead ++ g).size = ahead.size + g.size := ByteArray.size_append
                have hcat2 : ∀ W' : World, (Op.stringOp .add (ahead ++ g) ⟨#[47]⟩).run Tryd.prog W' = .ok (.string (ahead ++ g ++ ⟨#[47]⟩)) W' := fun W' => by first | exact run_string_add W' _ _ (by omega) (by decide) | exact run_string_add _ _ (by omega) (by decide)
                have hags2 : (ahead ++ g ++ (⟨#[47]⟩ : ByteArray)).size = ahead.size + g.size + 1 := by rw [ByteArray.size_append, hags]; rfl
                cases xd with
                | false =>
                  have HO2 := Lib.hid (show OutOK nodes o' ∧ subV (downV nodes (f - 1)) ahead (given nodes c q) o = subV (downV nodes (f - 1)) ahead ((given nodes c q).drop (k + 1)) o' from ⟨HO.out.1, by
                    rw [HO.out.2, Hz.out]
                    conv => lhs; unfold subV
                    rw [if_neg (by simp)]⟩)
                  clear hfp hags hags2 hcat2
                  go_wp2_with fail
                  go_roundw
                  case rel => exact ⟨k + 1, o', v2, by omega, by go_num, hstr, HO2, HV, htr⟩
                  case measure => simp [RowKit.intOf]; omega
                | true =>
                  have hstD : RSt wE wb B av cv nodes wr.drew o' v2 := hstr.below HK.out (belowDrew (Below.refl _ wr) 1)
                  have HI := HIH.out (f - 1) hfp.symm (dp + 1) xc xw (ahead ++ g ++ ⟨#[47]⟩) o' v2 wr.drew (by have := Hdf.out; omega) (by omega) hstD HO.out.1
                  rw [show ((dp + 1 : Nat) : Int) = (dp : Int) + 1 by omega] at HI
                  replace HI := Lib.hid HI
                  have x0 : wr.drew.cell? ⟨b, off + k * 7, none⟩ = some (.int .i64 xc) := c0
                  have x1 : wr.drew.cell? ⟨b, off + k * 7 + 1, none⟩ = some (.int .i64 xw) := c1
                  have gcd : wr.drew.cell? ⟨gb, goff + k, none⟩ = some (.string g) := hgcr
                  have hwr : IntKind.i64.wrap ((dp : Int) + 1) = (dp : Int) + 1 := IntWalk.i64_in _ (by have := Hdf.out; omega)
                  have hbz3 : b < w3.heap.size := Nat.lt_of_lt_of_le (Hli.out _ rfl).2 (by omega)
                  have hnx : ¬ SR wb v2 b := fun hs => by
                    rcases hs with e | e
                    · omega
                    · rcases HV.out b e with e2 | e2
                      · have := (HvB.out b e2).2; omega
                      · omega
                  have hng : ¬ SR wb v2 gb := fun hs => by
                    rcases hs with e | e
                    · omega
                    · rcases HV.out gb e with e2 | e2
                      · have := (HvB.out gb e2).2; omega
                      · omega
                  clear hfp
                  go_wp2_with fail
                  go_region_held3 (fun w' => w'.cell? ⟨b, off + k * 7, none⟩ = some (.int .i64 xc) ∧ w'.cell? ⟨b, off + k * 7 + 1, none⟩ = some (.int .i64 xw) ∧ w'.cell? ⟨gb, goff + k, none⟩ = some (.string g))
                    (first | exact ⟨x0, x1, gcd⟩ | exact ⟨(World.cell?_of_block (ht7.block b hbl hnx)).trans x0, (World.cell?_of_block (ht7.block b hbl hnx)).trans x1, (World.cell?_of_block (ht7.block gb hglr hng)).trans gcd⟩)
                    ((go_at_call 33; refine HI.out.mono ?_; rintro e w5 ⟨rfl, v7, hst7, hout7, hv7, ht7⟩))
                  clear hnx hng x0 x1 gcd hwr
                  all_goals
                    have ht7' : Turned (SR wb v2) wr.heap.size wr w5 := (show Turned (SR wb v2) wr.heap.size wr wr.drew from Turned.of_below (belowDrew (Below.refl wr.heap.size wr) 1) (Nat.le_refl _)).trans ht7
                    have htr7 : Turned (SR wb v) w3.heap.size w3 w5 := htr.trans (ht7'.mono (by omega) (fun j hj hs => by
                      rcases hs with e | e
                      · exact .inl e
                      · rcases HV.out j e with e2 | e2
                        · exact .inr e2
                        · omega))
                    have HV7 := Lib.hid (show ∀ j, v7.ownBlock = some j → v.ownBlock = some j ∨ w3.heap.size ≤ j from fun j hj => by
                      rcases hv7 j hj with e | e
                      · exact HV.out j e
                      · have e2 : wr.heap.size ≤ j := e
                        exact .inr (by omega))
                    obtain ⟨r, hr⟩ : ∃ r, downV nodes (f - 1) xc xw (ahead ++ g ++ ⟨#[47]⟩) o' = r := ⟨_, rfl⟩
                    rw [hr] at hst7 hout7 ⊢
                    obtain ⟨ro, re⟩ := r
                    dsimp only at hst7 hout7
                    have Hr := Lib.hid (show downV nodes (f - 1) xc xw (ahead ++ g ++ slashB) o' = (ro, re) from hr)
                    clear hr HI ht7 ht7' hv7
                    by_cases hre : re = 0
                    · subst hre
                      have HO2 := Lib.hid (show OutOK nodes ro ∧ subV (downV nodes (f - 1)) ahead (given nodes c q) o = subV (downV nodes (f - 1)) ahead ((given nodes c q).drop (k + 1)) ro from ⟨hout7, by
                        rw [HO.out.2, Hz.out]
                        conv => lhs; unfold subV
                        rw [if_pos rfl]
                        dsimp only
                        rw [Hr.out, if_pos rfl]⟩)
                      go_wp2_with fail
                      go_roundw
                      case rel => exact ⟨k + 1, ro, v7, by omega, by go_num, hst7, HO2, HV7, htr7⟩
                      case measure => simp [RowKit.intOf]; omega
                    · have hq7 : (re != 0) = true := bne_iff_ne.2 hre
                      have HD2 := Lib.hid (show dn = (ro, re) by
                        rw [HD3.out, HO.out.2, Hz.out]
                        conv => lhs; unfold subV
                        rw [if_pos rfl]
                        dsimp only
                        rw [Hr.out, if_neg hre])
                      go_wp2_with fail
                      go_ret
                      unfold RDownP
                      rw [HD2.out]
                      exact ⟨rfl, v7, hst7, hout7, fun j hj => (HV7.out j hj).imp id (fun h => Nat.le_trans (by omega) h), ((Turned.of_below hb13 (Nat.le_refl _) : Turned (SR wb v) W.heap.size W w3).trans (htr7.mono (by omega) (fun _ _ h => h)))⟩
              · obtain rfl : k = il.length := by omega
                have HD2 := Lib.hid (show dn = (o', 0) by
                  rw [HD3.out, HO.out.2, ← hLl, List.drop_length]
                  rfl)
                go_wp2_with fail
                go_ret
                unfold RDownP
                rw [HD2.out]
                exact ⟨rfl, v2, hstr, HO.out.1, fun j hj => (HV.out j hj).imp id (fun h => Nat.le_trans (by omega) h), ((Turned.of_below hb13 (Nat.le_refl _) : Turned (SR wb v) W.heap.size W w3).trans (htr.mono (by omega) (fun _ _ h => h)))⟩
      · have hq0 : (un != 0) = true := bne_iff_ne.2 hu0
        have HD := Lib.hid (show dn = (out, un) by
          rw [HDQ.out, Hil.out, Hun.out, if_pos hu0])
        go_wp2_with fail
        go_ret
        unfold RDownP
        rw [HD.out]
        exact ⟨rfl, v, hst3, hout, fun j h => .inl h, Turned.of_below hb13 (Nat.le_refl _)⟩
end
end Go.Proofs.YtfbdbjookkogjaaDoor

namespace Go.Proofs.YtfbdbjookkogjaaDoor
open Go Go.RowKit Go.Lib
theorem gt_path (x y : Itm) : ltI x y = !(Op.bytesLess y.path.toList x.path.toList || y.path.toList == x.path.toList) := by
  unfold ltI
  rw [lessV_before, beforeV_lt, beforeV_lt, ByteArray.toList_eq, ByteArray.toList_eq]
  by_cases h1 : y.path.data.toList < x.path.data.toList
  · rw [decide_eq_true h1, decide_eq_false (List.not_lt.2 (List.le_of_lt h1))]
    rfl
  · by_cases h2 : y.path.data.toList = x.path.data.toList
    · rw [h2, decide_eq_false (List.lt_irrefl _)]
      simp
    · have h3 : x.path.data.toList < y.path.data.toList := Classical.byContradiction fun h => h2 (List.le_antisymm (List.not_lt.1 h) (List.not_lt.1 h1))
      rw [decide_eq_true h3, decide_eq_false h1]
      rw [show (y.path.data.toList == x.path.data.toList) = false from beq_false_of_ne h2]
      rfl
theorem below_of {x y : Itm} {out : List Itm} {u : Nat} (hs : SrtI out) (hy : out[u]? = some y) (h : ltI x y = false) {j : Nat} (hj : j ≤ u) {z : Itm} (hz : out[j]? = some z) : ltI x z = false := by
  rcases Nat.lt_or_eq_of_le hj with hj | rfl
  · unfold SrtI at hs
    rw [List.pairwise_iff_getElem] at hs
    obtain ⟨a1, a2⟩ := List.getElem?_eq_some_iff.1 hy
    obtain ⟨b1, b2⟩ := List.getElem?_eq_some_iff.1 hz
    have h3 := hs j u b1 a1 hj
    rw [a2, b2] at h3
    cases hxz : ltI x z with
    | false => rfl
    | true =>
      by_cases e : pI z = pI y
      · rw [(ltI_eq e).2] at hxz
        rw [hxz] at h
        cases h
      · rcases ltI_total e with h4 | h4
        · rw [ltI_trans hxz h4] at h
          cases h
        · rw [h4] at h3
          cases h3
  · rw [hy] at hz
    cases hz
    exact h
set_option maxRecDepth 100000 in
set_option maxHeartbeats 6400000 in
theorem isorted_any (a : Option Addr) (cap : Nat) (xs : List Itm) (w : World) (hl : xs.length ≤ 1000) (ha : RowsAt itmLay w a xs) :
    Calls Tryd.prog 34 #[.slice a xs.length cap] w fun e w' => ∃ v, e = .returned v ∧ OwnRows itmLay w' w.heap.size 34 v (sortI xs) ∧ Below w.heap.size w w' := by
  obtain ⟨i0, hi, hz0, hz1, hz2⟩ := info_parts vitInfo
  have Hi := Lib.hid hi
  have Hz0 := Lib.hid hz0
  have Hz1 := Lib.hid hz1
  have Hz2 := Lib.hid hz2
  have HA := Lib.hid fun W (h : Below w.heap.size w W) => ha.keeps h
  clear hi hz0 hz1 hz2 ha
  go_enter Tryd.func34, Tryd.ntmps34
  go_wp2_with fail
  go_loopw [3, 4] (fun va i wr => ∃ k : Nat, k ≤ xs.length ∧ i = .int .i64 k ∧ OwnRows itmLay wr w.heap.size 34 va (sortI (xs.take k)) ∧ Below w.heap.size w wr) (fun _ i _ => xs.length - (RowKit.intOf i).toNat)
  case atStart => exact ⟨0, Nat.zero_le _, rfl, OwnRows.nil _ _ _ _, Below.refl _ _⟩
  case round =>
    obtain ⟨k, hk, rfl, hoa, hb⟩ := hrel
    rename World => wo
    by_cases hlt : k < xs.length
    · obtain ⟨x, hx⟩ := at_some hlt
      obtain ⟨b, off, hae, hbl, x0, x1, x2, x3, x4, x5⟩ := itm_at (HA.out _ hb) hx
      subst hae
      have Hst := Lib.hid (show sortI (xs.take (k + 1)) = insI x (sortI (xs.take k)) by rw [List.take_add_one, hx, Option.toList_some, sortI_snoc])
      have hsl : (sortI (xs.take k)).length ≤ 1000 := by unfold sortI; rw [sortI_length, List.length_take, List.length_nil]; omega
      have Hsrt := Lib.hid (sortI_srt (xs.take k))
      have hwz := hb.size
      obtain ⟨ao, co, rfl, hro, hlc, hnil, _⟩ := hoa.read_nil
      generalize sortI (xs.take k) = out at *
      have HO := Lib.hid fun W (h : Below wo.heap.size wo W) => hro.keeps h
      have Hx := Lib.hid hx
      have hlti : (k : Int) < (xs.length : Int) := by omega
      have hlt0 : (0 : Int) ≤ (k : Int) := by omega
      obtain ⟨xp, xc, xw, xd, xg, xm⟩ := x
      dsimp only at x0 x1 x2 x3 x4 x5
      have HXc := Lib.hid (And.intro x0 (And.intro x1 (And.intro x2 (And.intro x3 (And.intro x4 x5)))))
      clear hx hoa hro x0 x1 x2 x3 x4 x5
      go_wp2_with fail
      go_loopw [5] (fun i wq => ∃ t : Nat, t ≤ out.length ∧ i = .int .i64 t ∧ Hid (∀ j y, t ≤ j → out[j]? = some y → ltI ⟨xp, xc, xw, xd, xg, xm⟩ y = true) ∧ Below wo.heap.size wo wq) (fun i _ => (RowKit.intOf i).toNat)
      case atStart => exact ⟨out.length, Nat.le_refl _, rfl, Lib.hid (fun j y hj hy => by rw [List.getElem?_eq_none hj] at hy; cases hy), Below.refl _ _⟩
      case round =>
        obtain ⟨t, htl, rfl, HA2, hB⟩ := hrel
        have x0 := (hB.cell (p := ⟨b, off + k * 6, none⟩) hbl).trans HXc.out.1
        have x1 := (hB.cell (p := ⟨b, off + k * 6 + 1, none⟩) hbl).trans HXc.out.2.1
        have x2 := (hB.cell (p := ⟨b, off + k * 6 + 2, none⟩) hbl).trans HXc.out.2.2.1
        have x3 := (hB.cell (p := ⟨b, off + k * 6 + 3, none⟩) hbl).trans HXc.out.2.2.2.1
        have x4 := (hB.cell (p := ⟨b, off + k * 6 + 4, none⟩) hbl).trans HXc.out.2.2.2.2.1
        have x5 := (hB.cell (p := ⟨b, off + k * 6 + 5, none⟩) hbl).trans HXc.out.2.2.2.2.2
        by_cases ht0 : t = 0
        · have e0 : decide ((t : Int) > 0) = false := decide_eq_false (by omega)
          have e0' : decide ((0 : Int) < (t : Int)) = false := decide_eq_false (by omega)
          have e0n : decide (0 < t) = false := decide_eq_false (by omega)
          have Ht0 := Lib.hid ht0
          clear ht0
          go_wp2_with fail
          go_quiet (fail)
          replace hB := belowDrew hB nq
          have hsh := fun W => slice_high (P := Tryd.prog) Tryd.underlying25 Tryd.sizeOf34 ao out.length co t (by omega) W
          have hslw := fun W => slice_low (P := Tryd.prog) Tryd.underlying25 Tryd.sizeOf34 ao out.length co t htl W
          have hr1 := (HO.out _ hB).take t
          have hsz := hB.size
          have Hres := Lib.hid (show insI ⟨xp, xc, xw, xd, xg, xm⟩ out = out.take t ++ ⟨xp, xc, xw, xd, xg, xm⟩ :: out.drop t from insI_at _ _ _ htl (fun j y hj hy => absurd hj (by have := Ht0.out; omega)) (fun y hy => HA2.out t y (Nat.le_refl _) hy))
          go_wp2_with (at_builtin;  (refine wpList_append_from _ rfl _ _ 25 rfl itmLay wo.heap.size 34 i0 (.agg #[.string ⟨#[]⟩, .int .i64 0, .int .i64 0, .bool false, .bool false, .string ⟨#[]⟩]) 56 Tryd.underlying25 Hi.out Hz0.out Hz1.out Hz2.out rfl (by decide) _ [] rfl (OwnRows.nil _ _ _ _) ao co t (out.take t) rfl (by rw [List.length_take]; omega) hr1 hnil (by unfold maxLen; simp; omega) (by simp; omega) (by first | exact hB.size | simpa using hB.size) ?_))
          intro v1 wa ho1 hg1 _
          have hBa := hB.grown hg1 (by first | exact hB.size | simpa using hB.size) (fun j ej => by cases ej)
          clear x0 x1 x2 x3 x4 x5
          have x0 := (hBa.cell (p := ⟨b, off + k * 6, none⟩) hbl).trans HXc.out.1
          have x1 := (hBa.cell (p := ⟨b, off + k * 6 + 1, none⟩) hbl).trans HXc.out.2.1
          have x2 := (hBa.cell (p := ⟨b, off + k * 6 + 2, none⟩) hbl).trans HXc.out.2.2.1
          have x3 := (hBa.cell (p := ⟨b, off + k * 6 + 3, none⟩) hbl).trans HXc.out.2.2.2.1
          have x4 := (hBa.cell (p := ⟨b, off + k * 6 + 4, none⟩) hbl).trans HXc.out.2.2.2.2.1
          have x5 := (hBa.cell (p := ⟨b, off + k * 6 + 5, none⟩) hbl).trans HXc.out.2.2.2.2.2
          replace ho1 : OwnRows itmLay wa wo.heap.size 34 v1 (out.take t) := by simpa using ho1
          clear hg1 hsh
          go_wp2_with (at_builtin; refine wpList_append_rows _ rfl _ _ 25 rfl itmLay wo.heap.size 34 i0 (.agg #[.string ⟨#[]⟩, .int .i64 0, .int .i64 0, .bool false, .bool false, .string ⟨#[]⟩]) 56 Tryd.underlying25 Hi.out Hz0.out Hz1.out Hz2.out rfl (by decide) _ _ rfl (ho1.alloc _) ⟨wa.heap.size, 0, none⟩ 1 ⟨xp, xc, xw, xd, xg, xm⟩ rfl (cells_new_at _ wa.heap.size #[.string xp, .int .i64 xc, .int .i64 xw, .bool xd, .bool xg, .string xm] 34 rfl) (by unfold maxLen; rw [List.length_take]; omega) (by rw [List.length_take]; omega) (by have := hBa.size; simp; omega) ?_)
          intro v2 wb ho2 hg2 _
          have hBb := (hBa.alloc hBa.size (.cells #[.string xp, .int .i64 xc, .int .i64 xw, .bool xd, .bool xg, .string xm] 34)).grown hg2 (by have := hBa.size; simp; omega) (fun j ej => (ho1.lt ej).1)
          have hab := rows_low (HO.out _ hBb) hlc t
          clear hg2 ho1
          rw [show itmLay.sz = 6 from rfl] at hab
          go_wp2_with (at_builtin; refine wpList_append_from _ rfl _ _ 25 rfl itmLay wo.heap.size 34 i0 (.agg #[.string ⟨#[]⟩, .int .i64 0, .int .i64 0, .bool false, .bool false, .string ⟨#[]⟩]) 56 Tryd.underlying25 Hi.out Hz0.out Hz1.out Hz2.out rfl (by decide) _ _ rfl ho2 (lowA ao t co 6) (co - t) (out.length - t) (out.drop t) rfl (by rw [List.length_drop]) hab (lowA_nil hnil) (by unfold maxLen; simp; omega) (by simp; omega) hBb.size ?_)
          intro v3 wc ho3 hg3 _
          have hBc := hBb.grown hg3 hBb.size (fun j ej => (ho2.lt ej).1)
          have ho4 : OwnRows itmLay wc wo.heap.size 34 v3 (sortI (xs.take (k + 1))) := by
            rw [Hst.out, Hres.out]
            simpa using ho3
          clear hg3 ho2 ho3
          go_wp2_with fail
          go_roundw
          case rel => exact ⟨k + 1, by omega, by go_num, ho4.lower hwz, hb.trans (hBc.mono hwz)⟩
          case measure => simp [RowKit.intOf]; omega
        · obtain ⟨u, htu⟩ : ∃ u, t = u + 1 := ⟨t - 1, by omega⟩
          obtain ⟨y, hy⟩ := at_some (show u < out.length by omega)
          obtain ⟨b2, off2, hae2, hbl2, y0, y1, y2, y3, y4, y5⟩ := itm_at (HO.out _ hB) hy
          have e0 : decide ((t : Int) > 0) = true := decide_eq_true (by omega)
          have e0' : decide ((0 : Int) < (t : Int)) = true := decide_eq_true (by omega)
          have e0n : decide (0 < t) = true := decide_eq_true (by omega)
          have e1 : (t : Int) - 1 = (u : Int) := by omega
          have Htu := Lib.hid htu
          have hu2 : (u : Int) < (out.length : Int) := by omega
          have hu1 : (0 : Int) ≤ (u : Int) := by omega
          subst hae2
          have Hy := Lib.hid hy
          have HG := Lib.hid (gt_path ⟨xp, xc, xw, xd, xg, xm⟩ y)
          obtain ⟨yp, yc, yw, yd, yg, ym⟩ := y
          dsimp only at y0 y1 y2 y3 y4 y5 HG
          clear hy htu ht0
          cases h1 : Op.bytesLess yp.toList xp.toList with
          | true =>
            have HG2 := Lib.hid (show ltI ⟨xp, xc, xw, xd, xg, xm⟩ ⟨yp, yc, yw, yd, yg, ym⟩ = false by rw [HG.out, h1]; simp)
            have HBE := Lib.hid (fun (j : Nat) (z : Itm) (hj : j < t) (hz : out[j]? = some z) => below_of Hsrt.out Hy.out HG2.out (by have := Htu.out; omega) hz)
            go_wp2_with fail
            go_quiet (fail)
            replace hB := belowDrew hB nq
            have hsh := fun W => slice_high (P := Tryd.prog) Tryd.underlying25 Tryd.sizeOf34 (some ⟨b2, off2, none⟩) out.length co t (by omega) W
            have hslw := fun W => slice_low (P := Tryd.prog) Tryd.underlying25 Tryd.sizeOf34 (some ⟨b2, off2, none⟩) out.length co t htl W
            have hr1 := (HO.out _ hB).take t
            have hsz := hB.size
            have Hres := Lib.hid (show insI ⟨xp, xc, xw, xd, xg, xm⟩ out = out.take t ++ ⟨xp, xc, xw, xd, xg, xm⟩ :: out.drop t from insI_at _ _ _ htl (fun j y hj hy => HBE.out j y hj hy) (fun y hy => HA2.out t y (Nat.le_refl _) hy))
            go_wp2_with (at_builtin;  (refine wpList_append_from _ rfl _ _ 25 rfl itmLay wo.heap.size 34 i0 (.agg #[.string ⟨#[]⟩, .int .i64 0, .int .i64 0, .bool false, .bool false, .string ⟨#[]⟩]) 56 Tryd.underlying25 Hi.out Hz0.out Hz1.out Hz2.out rfl (by decide) _ [] rfl (OwnRows.nil _ _ _ _) (some ⟨b2, off2, none⟩) co t (out.take t) rfl (by rw [List.length_take]; omega) hr1 hnil (by unfold maxLen; simp; omega) (by simp; omega) (by first | exact hB.size | simpa using hB.size) ?_))
            intro v1 wa ho1 hg1 _
            have hBa := hB.grown hg1 (by first | exact hB.size | simpa using hB.size) (fun j ej => by cases ej)
            clear x0 x1 x2 x3 x4 x5
            have x0 := (hBa.cell (p := ⟨b, off + k * 6, none⟩) hbl).trans HXc.out.1
            have x1 := (hBa.cell (p := ⟨b, off + k * 6 + 1, none⟩) hbl).trans HXc.out.2.1
            have x2 := (hBa.cell (p := ⟨b, off + k * 6 + 2, none⟩) hbl).trans HXc.out.2.2.1
            have x3 := (hBa.cell (p := ⟨b, off + k * 6 + 3, none⟩) hbl).trans HXc.out.2.2.2.1
            have x4 := (hBa.cell (p := ⟨b, off + k * 6 + 4, none⟩) hbl).trans HXc.out.2.2.2.2.1
            have x5 := (hBa.cell (p := ⟨b, off + k * 6 + 5, none⟩) hbl).trans HXc.out.2.2.2.2.2
            replace ho1 : OwnRows itmLay wa wo.heap.size 34 v1 (out.take t) := by simpa using ho1
            clear hg1 hsh
            go_wp2_with (at_builtin; refine wpList_append_rows _ rfl _ _ 25 rfl itmLay wo.heap.size 34 i0 (.agg #[.string ⟨#[]⟩, .int .i64 0, .int .i64 0, .bool false, .bool false, .string ⟨#[]⟩]) 56 Tryd.underlying25 Hi.out Hz0.out Hz1.out Hz2.out rfl (by decide) _ _ rfl (ho1.alloc _) ⟨wa.heap.size, 0, none⟩ 1 ⟨xp, xc, xw, xd, xg, xm⟩ rfl (cells_new_at _ wa.heap.size #[.string xp, .int .i64 xc, .int .i64 xw, .bool xd, .bool xg, .string xm] 34 rfl) (by unfold maxLen; rw [List.length_take]; omega) (by rw [List.length_take]; omega) (by have := hBa.size; simp; omega) ?_)
            intro v2 wb ho2 hg2 _
            have hBb := (hBa.alloc hBa.size (.cells #[.string xp, .int .i64 xc, .int .i64 xw, .bool xd, .bool xg, .string xm] 34)).grown hg2 (by have := hBa.size; simp; omega) (fun j ej => (ho1.lt ej).1)
            have hab := rows_low (HO.out _ hBb) hlc t
            clear hg2 ho1
            rw [show itmLay.sz = 6 from rfl] at hab
            go_wp2_with (at_builtin; refine wpList_append_from _ rfl _ _ 25 rfl itmLay wo.heap.size 34 i0 (.agg #[.string ⟨#[]⟩, .int .i64 0, .int .i64 0, .bool false, .bool false, .string ⟨#[]⟩]) 56 Tryd.underlying25 Hi.out Hz0.out Hz1.out Hz2.out rfl (by decide) _ _ rfl ho2 (lowA (some ⟨b2, off2, none⟩) t co 6) (co - t) (out.length - t) (out.drop t) rfl (by rw [List.length_drop]) hab (lowA_nil hnil) (by unfold maxLen; simp; omega) (by simp; omega) hBb.size ?_)
            intro v3 wc ho3 hg3 _
            have hBc := hBb.grown hg3 hBb.size (fun j ej => (ho2.lt ej).1)
            have ho4 : OwnRows itmLay wc wo.heap.size 34 v3 (sortI (xs.take (k + 1))) := by
              rw [Hst.out, Hres.out]
              simpa using ho3
            clear hg3 ho2 ho3
            go_wp2_with fail
            go_roundw
            case rel => exact ⟨k + 1, by omega, by go_num, ho4.lower hwz, hb.trans (hBc.mono hwz)⟩
            case measure => simp [RowKit.intOf]; omega
          | false =>
            cases h2 : (yp.toList == xp.toList) with
            | true =>
              have HG2 := Lib.hid (show ltI ⟨xp, xc, xw, xd, xg, xm⟩ ⟨yp, yc, yw, yd, yg, ym⟩ = false by rw [HG.out, h1, h2]; simp)
              have HBE := Lib.hid (fun (j : Nat) (z : Itm) (hj : j < t) (hz : out[j]? = some z) => below_of Hsrt.out Hy.out HG2.out (by have := Htu.out; omega) hz)
              go_wp2_with fail
              go_quiet (fail)
              replace hB := belowDrew hB nq
              have hsh := fun W => slice_high (P := Tryd.prog) Tryd.underlying25 Tryd.sizeOf34 (some ⟨b2, off2, none⟩) out.length co t (by omega) W
              have hslw := fun W => slice_low (P := Tryd.prog) Tryd.underlying25 Tryd.sizeOf34 (some ⟨b2, off2, none⟩) out.length co t htl W
              have hr1 := (HO.out _ hB).take t
              have hsz := hB.size
              have Hres := Lib.hid (show insI ⟨xp, xc, xw, xd, xg, xm⟩ out = out.take t ++ ⟨xp, xc, xw, xd, xg, xm⟩ :: out.drop t from insI_at _ _ _ htl (fun j y hj hy => HBE.out j y hj hy) (fun y hy => HA2.out t y (Nat.le_refl _) hy))
              go_wp2_with (at_builtin;  (refine wpList_append_from _ rfl _ _ 25 rfl itmLay wo.heap.size 34 i0 (.agg #[.string ⟨#[]⟩, .int .i64 0, .int .i64 0, .bool false, .bool false, .string ⟨#[]⟩]) 56 Tryd.underlying25 Hi.out Hz0.out Hz1.out Hz2.out rfl (by decide) _ [] rfl (OwnRows.nil _ _ _ _) (some ⟨b2, off2, none⟩) co t (out.take t) rfl (by rw [List.length_take]; omega) hr1 hnil (by unfold maxLen; simp; omega) (by simp; omega) (by first | exact hB.size | simpa using hB.size) ?_))
              intro v1 wa ho1 hg1 _
              have hBa := hB.grown hg1 (by first | exact hB.size | simpa using hB.size) (fun j ej => by cases ej)
              clear x0 x1 x2 x3 x4 x5
              have x0 := (hBa.cell (p := ⟨b, off + k * 6, none⟩) hbl).trans HXc.out.1
              have x1 := (hBa.cell (p := ⟨b, off + k * 6 + 1, none⟩) hbl).trans HXc.out.2.1
              have x2 := (hBa.cell (p := ⟨b, off + k * 6 + 2, none⟩) hbl).trans HXc.out.2.2.1
              have x3 := (hBa.cell (p := ⟨b, off + k * 6 + 3, none⟩) hbl).trans HXc.out.2.2.2.1
              have x4 := (hBa.cell (p := ⟨b, off + k * 6 + 4, none⟩) hbl).trans HXc.out.2.2.2.2.1
              have x5 := (hBa.cell (p := ⟨b, off + k * 6 + 5, none⟩) hbl).trans HXc.out.2.2.2.2.2
              replace ho1 : OwnRows itmLay wa wo.heap.size 34 v1 (out.take t) := by simpa using ho1
              clear hg1 hsh
              go_wp2_with (at_builtin; refine wpList_append_rows _ rfl _ _ 25 rfl itmLay wo.heap.size 34 i0 (.agg #[.string ⟨#[]⟩, .int .i64 0, .int .i64 0, .bool false, .bool false, .string ⟨#[]⟩]) 56 Tryd.underlying25 Hi.out Hz0.out Hz1.out Hz2.out rfl (by decide) _ _ rfl (ho1.alloc _) ⟨wa.heap.size, 0, none⟩ 1 ⟨xp, xc, xw, xd, xg, xm⟩ rfl (cells_new_at _ wa.heap.size #[.string xp, .int .i64 xc, .int .i64 xw, .bool xd, .bool xg, .string xm] 34 rfl) (by unfold maxLen; rw [List.length_take]; omega) (by rw [List.length_take]; omega) (by have := hBa.size; simp; omega) ?_)
              intro v2 wb ho2 hg2 _
              have hBb := (hBa.alloc hBa.size (.cells #[.string xp, .int .i64 xc, .int .i64 xw, .bool xd, .bool xg, .string xm] 34)).grown hg2 (by have := hBa.size; simp; omega) (fun j ej => (ho1.lt ej).1)
              have hab := rows_low (HO.out _ hBb) hlc t
              clear hg2 ho1
              rw [show itmLay.sz = 6 from rfl] at hab
              go_wp2_with (at_builtin; refine wpList_append_from _ rfl _ _ 25 rfl itmLay wo.heap.size 34 i0 (.agg #[.string ⟨#[]⟩, .int .i64 0, .int .i64 0, .bool false, .bool false, .string ⟨#[]⟩]) 56 Tryd.underlying25 Hi.out Hz0.out Hz1.out Hz2.out rfl (by decide) _ _ rfl ho2 (lowA (some ⟨b2, off2, none⟩) t co 6) (co - t) (out.length - t) (out.drop t) rfl (by rw [List.length_drop]) hab (lowA_nil hnil) (by unfold maxLen; simp; omega) (by simp; omega) hBb.size ?_)
              intro v3 wc ho3 hg3 _
              have hBc := hBb.grown hg3 hBb.size (fun j ej => (ho2.lt ej).1)
              have ho4 : OwnRows itmLay wc wo.heap.size 34 v3 (sortI (xs.take (k + 1))) := by
                rw [Hst.out, Hres.out]
                simpa using ho3
              clear hg3 ho2 ho3
              go_wp2_with fail
              go_roundw
              case rel => exact ⟨k + 1, by omega, by go_num, ho4.lower hwz, hb.trans (hBc.mono hwz)⟩
              case measure => simp [RowKit.intOf]; omega
            | false =>
              have HG2 := Lib.hid (show ltI ⟨xp, xc, xw, xd, xg, xm⟩ ⟨yp, yc, yw, yd, yg, ym⟩ = true by rw [HG.out, h1, h2]; rfl)
              go_wp2_with fail
              go_quiet (fail)
              go_wp2_with fail
              go_roundw
              case rel =>
                refine ⟨u, by omega, by first | rfl | go_num, Lib.hid (fun j z hj hz => ?_), belowDrew hB nq⟩
                by_cases e : j = u
                · subst e
                  rw [Hy.out] at hz
                  cases hz
                  exact HG2.out
                · exact HA2.out j z (by have := Htu.out; omega) hz
              case measure =>
                have := Htu.out
                simp [RowKit.intOf] <;> omega
    · obtain rfl : k = xs.length := by omega
      rw [List.take_length] at hoa
      go_wp2_with fail
      go_ret
      exact ⟨_, rfl, hoa, hb⟩
end Go.Proofs.YtfbdbjookkogjaaDoor

namespace Go.Proofs.YtfbdbjookkogjaaDoor
open Go Go.RowKit Go.Lib
section
variable {wE : World} {wb B : Nat} {av : Option Addr} {cv : Nat} {nodes : List Nd}
theorem rdown_any (hk : wE.heap.size ≤ wb ∧ wb < B) (hr : RowsAt ndLay wE av nodes) (hok : NdsOK nodes) : ∀ (f dp : Nat) (c q : Int) (ahead : ByteArray) (out : List Itm) (v : Value) (W : World), dp + f = 16 → ahead.size + 30 * (f + 1) ≤ 1000000 → RSt wE wb B av cv nodes W out v → OutOK nodes out →
    Calls Tryd.prog 33 #[.pointer (some ⟨wb, 0, none⟩), .agg #[.int .i64 c, .int .i64 q], .string ahead, .int .i64 dp] W (RDownP wE wb B av cv nodes W v (downV nodes f c q ahead out))
  | 0, dp, c, q, ahead, out, v, W, hdf, hah, hst, hout => rdown_step 0 hk hr hok (fun f' h => absurd h (by omega)) dp c q ahead out v W hdf hah hst hout
  | f + 1, dp, c, q, ahead, out, v, W, hdf, hah, hst, hout =>
    rdown_step (f + 1) hk hr hok (fun f' h => by
      obtain rfl : f = f' := by omega
      exact rdown_any hk hr hok f) dp c q ahead out v W hdf hah hst hout
end
set_option maxRecDepth 100000 in
set_option maxHeartbeats 6400000 in
theorem rview_any (av : Option Addr) (cv : Nat) (nodes : List Nd) (w : World) (hr : RowsAt ndLay w av nodes) (hok : NdsOK nodes) :
    Calls Tryd.prog 12 #[.slice av nodes.length cv] w fun e w' => ∃ (a : Option Addr) (cap : Nat), e = .returned (.tuple #[.slice a (viewF nodes).1.length cap, .int .i64 (viewF nodes).2]) ∧ RowsAt itmLay w' a (viewF nodes).1 ∧ Below w.heap.size w w' := by
  have hb1 := (Below.refl w.heap.size w).alloc (Nat.le_refl _) (.cells #[.slice av nodes.length cv, .slice none 0 0] 71)
  have hV := VarAt.new w #[.slice av nodes.length cv, .slice none 0 0] 71
  have hz : w.heap.size + 1 ≤ (w.alloc (.cells #[.slice av nodes.length cv, .slice none 0 0] 71)).heap.size := by simp
  have HD := Lib.hid (rdown_any ⟨Nat.le_refl _, Nat.lt_succ_self _⟩ hr hok 16 0 0 0 ⟨#[]⟩ [] (.slice none 0 0) _ rfl (by decide) (⟨hb1, hV, OwnRows.nil _ _ _ _, hz⟩ : RSt w w.heap.size (w.heap.size + 1) av cv nodes _ [] (.slice none 0 0)) ⟨fun x hx => absurd hx (by simp), List.Pairwise.nil⟩)
  have Hz := Lib.hid hz
  obtain ⟨wb, hwb⟩ : ∃ wb, wb = w.heap.size := ⟨_, rfl⟩
  rw [← hwb] at HD
  have Hwb := Lib.hid hwb
  obtain ⟨W1, hW1⟩ : ∃ W1, W1 = w.alloc (.cells #[.slice av nodes.length cv, .slice none 0 0] 71) := ⟨_, rfl⟩
  rw [← hW1] at HD
  have HW1 := Lib.hid hW1
  have hl2 := hok.len
  clear hb1 hV hz hwb hW1 hr hok
  go_enter Tryd.func12, Tryd.ntmps12
  go_upto_region 2 with fail
  rw [← HW1.out, ← Hwb.out]
  go_wp2_with fail
  refine HD.out.mono ?_
  rintro e w6 ⟨rfl, v7, hst7, hout7, hv7, ht7⟩
  have Hf := Lib.hid (show viewF nodes = if (downV nodes 16 0 0 ⟨#[]⟩ []).2 = 0 then (sortI (downV nodes 16 0 0 ⟨#[]⟩ []).1, 0) else ([], (downV nodes 16 0 0 ⟨#[]⟩ []).2) from rfl)
  obtain ⟨r, hr⟩ : ∃ r, downV nodes 16 0 0 ⟨#[]⟩ [] = r := ⟨_, rfl⟩
  rw [hr] at hst7 hout7 Hf ⊢
  obtain ⟨ro, re⟩ := r
  dsimp only at hst7 hout7 Hf
  clear hr HD ht7 hv7
  have hbel : Below w.heap.size w w6 := by have h := hst7.bel; rw [Hwb.out] at h; exact h
  by_cases hre : re = 0
  · subst hre
    have HF := Lib.hid (show viewF nodes = (sortI ro, 0) by rw [Hf.out, if_pos rfl])
    have hvar := hst7.var.2.2 1 _ rfl
    obtain ⟨a7, c7, rfl, hr7, _⟩ := hst7.rows.read
    have hlen := out_len hout7
    have HS := Lib.hid (isorted_any a7 c7 ro w6 (by omega) hr7)
    clear hst7 hout7 Hf hr7
    go_wp2_with fail
    refine HS.out.mono ?_
    rintro e w8 ⟨v8, rfl, ho8, hb8⟩
    obtain ⟨a8, c8, rfl, hr8, _⟩ := ho8.read
    clear ho8 hvar
    go_wp2_with fail
    go_ret2
    rw [HF.out]
    exact ⟨a8, c8, rfl, hr8, hbel.trans (hb8.mono hbel.size)⟩
  · have HF := Lib.hid (show viewF nodes = ([], re) by rw [Hf.out, if_neg hre])
    have hq : (re != 0) = true := bne_iff_ne.2 hre
    clear hst7 hout7 Hf
    go_wp2_with fail
    go_ret2
    rw [HF.out]
    exact ⟨none, 0, rfl, fun k x hk => by simp at hk, hbel⟩
end Go.Proofs.YtfbdbjookkogjaaDoor

namespace Go.Proofs.YtfbdbjookkogjaaDoor
open Go Go.RowKit Go.Lib
theorem any_hitN {α : Type} {l : List α} {p : α → Bool} {k : Nat} {y : α} (hy : l[k]? = some y) (h : p y = true) : l.any p = true := List.any_eq_true.2 ⟨y, List.mem_of_getElem? hy, h⟩
theorem any_noneN {α : Type} {l : List α} {p : α → Bool} (h : ∀ j y, j < l.length → l[j]? = some y → p y = false) : l.any p = false := by
  rw [List.any_eq_false]
  intro x hx
  obtain ⟨j, hj, e⟩ := List.mem_iff_getElem.1 hx
  rw [h j x hj (by rw [List.getElem?_eq_getElem hj, e])]
  simp
theorem addV_ok {nodes : List Nd} (ahead : ByteArray) (full : Bool) : ∀ (l : List (Nd × ByteArray)) (out : List Itm), (∀ p ∈ l, p.1 ∈ nodes) → OutOK nodes out → OutOK nodes (addV ahead full l out).1
  | [], out, _, h => h
  | (n, g) :: r, out, hl, h => by
    unfold addV
    split
    · exact h
    · rename_i h1
      exact addV_ok ahead full r _ (fun p hp => hl p (List.mem_cons_of_mem _ hp)) (h.add (hl (n, g) List.mem_cons_self) (by
        cases hh : hasI out n.cnt n.who with
        | false => rfl
        | true => rw [hh] at h1; simp at h1) ahead g)
theorem subV_ok {nodes : List Nd} {down : Int → Int → ByteArray → List Itm → List Itm × Int} (hd : ∀ c w a o, OutOK nodes o → OutOK nodes (down c w a o).1) (ahead : ByteArray) : ∀ (l : List (Nd × ByteArray)) (out : List Itm), OutOK nodes out → OutOK nodes (subV down ahead l out).1
  | [], out, h => h
  | (n, g) :: r, out, h => by
    unfold subV
    split
    · split
      · exact subV_ok hd ahead r _ (hd _ _ _ _ h)
      · exact hd _ _ _ _ h
    · exact subV_ok hd ahead r _ h
theorem given_mem {nodes : List Nd} {c w : Int} : ∀ p ∈ given nodes c w, p.1 ∈ nodes := fun _ hp => (List.mem_filter.1 (List.of_mem_zip hp).1).1
theorem downV_ok (nodes : List Nd) : ∀ (f : Nat) (c w : Int) (ahead : ByteArray) (out : List Itm), OutOK nodes out → OutOK nodes (downV nodes f c w ahead out).1
  | 0, c, w, ahead, out, h => by
    unfold downV
    split
    · exact h
    · exact addV_ok _ _ _ _ given_mem h
  | f + 1, c, w, ahead, out, h => by
    unfold downV
    split
    · exact h
    · split
      · exact subV_ok (downV_ok nodes f) _ _ _ (addV_ok _ _ _ _ given_mem h)
      · exact addV_ok _ _ _ _ given_mem h
theorem view_len (l : List Nd) : (viewF l).1.length ≤ l.length := by
  unfold viewF
  split
  · have h3 := sortI_length (downV l 16 0 0 ⟨#[]⟩ []).1 []
    show (sortI _).length ≤ _
    unfold sortI
    rw [h3]
    have := out_len (downV_ok l 16 0 0 ⟨#[]⟩ [] ⟨fun x hx => absurd hx (by simp), List.Pairwise.nil⟩)
    rw [List.length_nil]
    omega
  · simp
def bigNd (x : Nd) : Bool := decide (200 < x.name.size) || decide (1000 < x.man.size)
def fewN (l : List Nd) : Bool := decide (l.length ≤ 120) && !l.any bigNd
theorem fewN_parts {l : List Nd} (h : fewN l = true) : l.length ≤ 120 ∧ ∀ x ∈ l, x.name.size ≤ 200 := by
  unfold fewN at h
  rw [Bool.and_eq_true] at h
  refine ⟨of_decide_eq_true h.1, fun x hx => ?_⟩
  have h2 : l.any bigNd = false := by simpa using h.2
  have h3 := List.any_eq_false.1 h2 x hx
  unfold bigNd at h3
  simp at h3
  omega
theorem ret_boolN {a b : Bool} (h : a = b) : (Ending.returned (.bool a)) = .returned (.bool b) := by rw [h]
set_option maxRecDepth 100000 in
set_option maxHeartbeats 1600000 in
theorem few11_any (a : Option Addr) (cap : Nat) (l : List Nd) (w : World) (hl : l.length ≤ 140737488351232) (ha : RowsAt ndLay w a l) :
    Calls Tryd.prog 9 #[.slice a l.length cap] w fun e w' => e = .returned (.bool (fewN l)) ∧ w' = w := by
  have HA := Lib.hid ha
  have HF := Lib.hid (show fewN l = (decide (l.length ≤ 120) && !l.any bigNd) from rfl)
  generalize fewN l = fo at *
  clear ha
  by_cases h450 : l.length ≤ 120
  · go_enter Tryd.func9, Tryd.ntmps9
    go_wp2_with fail
    go_loopw [3] (fun i wr => ∃ k : Nat, k ≤ l.length ∧ i = .int .i64 k ∧ Hid (∀ j y, j < k → l[j]? = some y → bigNd y = false) ∧ wr = w) (fun i _ => l.length - (RowKit.intOf i).toNat)
    case atStart => exact ⟨0, Nat.zero_le _, rfl, Lib.hid (fun j _ hj => absurd hj (Nat.not_lt_zero _)), rfl⟩
    case round =>
      obtain ⟨k, hk, rfl, Hk, rfl⟩ := hrel
      by_cases hlt : k < l.length
      · obtain ⟨y, hy⟩ := at_some hlt
        obtain ⟨b, off, rfl, hbl, c0, c1, c2, c3, c4, c5, c6⟩ := nd_at HA.out hy
        have Hy := Lib.hid hy
        by_cases h1 : 200 < y.name.size
        · have Hr := Lib.hid (any_hitN (p := bigNd) Hy.out (by unfold bigNd; simp [h1]))
          go_wp2_with fail
          go_ret
          exact ⟨ret_boolN (by rw [HF.out, Hr.out]; simp), rfl⟩
        by_cases h2 : 1000 < y.man.size
        · have Hr := Lib.hid (any_hitN (p := bigNd) Hy.out (by unfold bigNd; simp [h2]))
          go_wp2_with fail
          go_ret
          exact ⟨ret_boolN (by rw [HF.out, Hr.out]; simp), rfl⟩
        have Hn := Lib.hid (show bigNd y = false by unfold bigNd; simp [h1, h2])
        go_wp2_with fail
        go_roundw
        case rel =>
          refine ⟨k + 1, by omega, by go_num, fun j z hj hz => ?_, by first | rfl | trivial⟩
          by_cases e : j = k
          · subst e
            rw [Hy.out] at hz
            cases hz
            exact Hn.out
          · exact Hk.out j z (by omega) hz
        case measure => simp [RowKit.intOf]; omega
      · have Hr := Lib.hid (any_noneN (l := l) (p := bigNd) (fun j y hj hy => Hk.out j y (by omega) hy))
        go_wp2_with fail
        go_ret
        exact ⟨ret_boolN (by rw [HF.out, Hr.out]; simp; omega), rfl⟩
  · go_enter Tryd.func9, Tryd.ntmps9
    go_wp2_with fail
    go_ret
    exact ⟨ret_boolN (by rw [HF.out]; simp; omega), rfl⟩
def exNds : List Nd := [⟨1, 0, false, 0, 0, ⟨#[97]⟩, ⟨#[]⟩⟩, ⟨2, 0, false, 0, 0, ⟨#[97]⟩, ⟨#[]⟩⟩]
theorem ex_view : viewF exNds = ([⟨⟨#[97]⟩, 1, 0, false, false, ⟨#[]⟩⟩, ⟨⟨#[97, 126, 49]⟩, 2, 0, false, false, ⟨#[]⟩⟩], 0) := by kernel_rfl
theorem ex_ok : NdsOK exNds := ⟨by decide, fun n hn => by
  simp only [exNds, List.mem_cons, List.mem_nil_iff, or_false] at hn
  rcases hn with rfl | rfl <;> exact ⟨by decide, by decide⟩, fun n hn => by
  simp only [exNds, List.mem_cons, List.mem_nil_iff, or_false] at hn
  rcases hn with rfl | rfl <;> decide⟩
set_option maxRecDepth 100000 in
set_option maxHeartbeats 1600000 in
theorem awake11_any (w : World) (hT : Tab w) : Calls Tryd.prog 10 #[] w fun e w' => e = .returned (.bool true) ∧ Below w.heap.size w w' := by
  have hb1 := (Below.refl w.heap.size w).alloc (Nat.le_refl _) (.cells #[.int .i64 1, .int .i64 0, .bool false, .int .i64 0, .int .i64 0, .string ⟨#[97]⟩, .string ⟨#[]⟩, .int .i64 2, .int .i64 0, .bool false, .int .i64 0, .int .i64 0, .string ⟨#[97]⟩, .string ⟨#[]⟩] 46)
  have HV := Lib.hid (view_any (some ⟨w.heap.size, 0, none⟩) 2 exNds _ (tab_keeps hT hb1) (rows_new ndLay w w.heap.size _ _ exNds rfl rfl) ex_ok)
  have Hb := Lib.hid hb1
  clear hb1 hT
  go_enter Tryd.func10, Tryd.ntmps10
  go_wp2_with fail
  refine HV.out.mono ?_
  rw [ex_view]
  rintro e w1 ⟨a, cap, rfl, hr, hb, _⟩
  obtain ⟨b1, o1, rfl, hl1, c0, c1, c2, c3, c4, c5⟩ := itm_at hr (k := 0) rfl
  obtain ⟨b2, o2, e2, hl2, d0, d1, d2, d3, d4, d5⟩ := itm_at hr (k := 1) rfl
  cases e2
  have hb3 := Hb.out.trans (hb.mono Hb.out.size)
  clear hb HV
  dsimp only at c0 c1 d0
  simp only [Nat.zero_mul, Nat.one_mul, Nat.add_zero] at c0 c1 d0
  go_wp2_with fail
  go_ret
  exact ⟨rfl, hb3⟩
set_option maxRecDepth 100000 in
set_option maxHeartbeats 1600000 in
theorem law_viewShows (a : Option Addr) (cap : Nat) (l : List Nd) (w : World) (hl : l.length ≤ 140737488351232) (ha : RowsAt ndLay w a l) (hid : ∀ n ∈ l, idOK n.cnt n.who) (hT : Tab w) :
    Calls Tryd.prog 3 #[.slice a l.length cap] w fun e w' => e = .returned (.bool true) ∧ Below w.heap.size w w' := by
  have HF := Lib.hid (few11_any a cap l w hl ha)
  have HT := Lib.hid fun W (h : Below w.heap.size w W) => tab_keeps hT h
  have HAW := Lib.hid fun W (h : Below w.heap.size w W) => awake11_any W (tab_keeps hT h)
  by_cases hf : fewN l = true
  · rw [hf] at HF
    obtain ⟨h1, h2⟩ := fewN_parts hf
    have hok : NdsOK l := ⟨by omega, hid, fun n hn => by have := h2 n hn; omega⟩
    have HV := Lib.hid (view_any a cap l w hT ha hok)
    have HR := Lib.hid fun W (h : Below w.heap.size w W) => rview_any a cap l W (ha.keeps h) hok
    have hvl : (viewF l).1.length ≤ 140737488351232 := Nat.le_trans (view_len l) hl
    generalize viewF l = r at *
    obtain ⟨r1, r2⟩ := r
    dsimp only at HV HR hvl
    clear hf h2 hok ha hid hT
    go_enter Tryd.func3, Tryd.ntmps3
    go_wp2_with fail
    refine HF.out.mono ?_
    rintro e w1 ⟨rfl, rfl⟩
    go_wp2_with fail
    refine HV.out.mono ?_
    rintro e w2 ⟨a2, c2, rfl, hr2, hb2, _⟩
    go_wp2_with fail
    refine (HR.out _ hb2).mono ?_
    rintro e w3 ⟨a3, c3, rfl, hr3, hb3⟩
    have hb23 := hb2.trans (hb3.mono hb2.size)
    have HS0 := items_any a2 a3 c2 c3 r1 r1 w3 hvl (hr2.keeps hb3) hr3
    rw [show decide (r1 = r1) = true from decide_eq_true rfl] at HS0
    have HS := Lib.hid HS0
    clear HS0
    clear hr2 hr3 HV HF
    go_wp2_with fail
    refine HS.out.mono ?_
    rintro e w4 ⟨rfl, n, rfl⟩
    have hb4 := belowDrew hb23 n
    go_wp2_with fail
    refine (HAW.out _ hb4).mono ?_
    rintro e w5 ⟨rfl, hb5⟩
    go_wp2_with fail
    go_ret
    exact ⟨rfl, hb4.trans (hb5.mono hb4.size)⟩
  · rw [show fewN l = false by simpa using hf] at HF
    clear hf ha hid hT
    go_enter Tryd.func3, Tryd.ntmps3
    go_wp2_with fail
    refine HF.out.mono ?_
    rintro e w1 ⟨rfl, rfl⟩
    go_wp2_with fail
    refine (HAW.out _ (Below.refl _ _)).mono ?_
    rintro e w5 ⟨rfl, hb5⟩
    go_wp2_with fail
    go_ret
    exact ⟨rfl, hb5⟩
end Go.Proofs.YtfbdbjookkogjaaDoor

