/-
  The closure that goes down a tree (view.View$1), at every depth.
-/
import Derived.Test.YtfbdbjookkogjaaDoorViewW3
import Derived.Deep.AppendLies
import Derived.Deep.RegionHeld3
import Derived.Laws.Concat
import Derived.IntWalk
namespace Go.Proofs.YtfbdbjookkogjaaDoor
open Go Go.RowKit Go.Lib

theorem vitInfo : (Tryd.prog.info? 34).map (fun i => (i.zero, i.size, i.bytes)) = some (some (.agg #[.string ⟨#[]⟩, .int .i64 0, .int .i64 0, .bool false, .bool false, .string ⟨#[]⟩]), 6, 56) := by kernel_rfl
theorem own_setV {α : Type} {L : Lay α} {W : World} {base : Nat} {e : TypeId} {v : Value} {xs : List α} (h : OwnRows L W base e v xs) {b : Nat} (i : Nat) (u : Value) (hb : b < base) : OwnRows L (W.setCell ⟨b, i, none⟩ u) base e v xs :=
  h.turned (S := fun k => k = b) ((Turned.refl _ _ _).set i u (fun _ => rfl)) (fun k hk => by rw [hk]; exact hb)
section
variable {α : Type} {P : Program} (w : World)
theorem step_append_at {ops : Array Oper} {o : Oper} {a : Act} {K : Act → World → Prop} {Q : Exit → Act → World → Prop} {E : Prop} (hgd : o.guard = none) (s x : Operand) (t : TypeId)
    (ho : o.op = .call { callee := .builtin .append, args := #[s, x], argTypes := #[t, t] })
    (L : Lay α) (base : Nat) (e : TypeId) (i : TypeInfo) (z : Value) (bytes : Nat) (ht : P.underlying t = some (.slice e)) (hi : P.info? e = some i) (hz : i.zero = some z)
    (hsize : i.size = L.sz) (hby : i.bytes = bytes) (hzs : z.cells.size = L.sz) (hsz : 0 < L.sz)
    (v : Value) (xs : List α) (hs : a.eval s = v) (hown : OwnRows L w base e v xs)
    (ad : Addr) (c : Nat) (y : α) (hx : a.eval x = .slice (some ad) 1 c) (hnews : ∀ j u, (L.cells y)[j]? = some u → w.cell? (ad.add j) = some u)
    (h63 : xs.length + 1 ≤ maxLen) (hbytes : (xs.length + 1) * bytes ≤ 140737488355328) (hbase : base ≤ w.heap.size)
    (h : ∀ g cap w', OwnRows L w' base e (.slice (some ⟨g, 0, none⟩) (xs.length + 1) cap) (xs ++ [y]) → w.grownBy w' v.ownBlock → (v.ownBlock = some g ∨ g = w.heap.size) → K (a.put o.dst (.slice (some ⟨g, 0, none⟩) (xs.length + 1) cap)) w') :
    if Region.wanted o (yielded ops a.tmps) = true then Oper.wp P o a w K Q else E := by
  refine step_append_lies w hgd s x t ho base e i z L.sz bytes ht hi hz hsize hby hzs hsz v xs.length (flat L xs) hs hown ad 1 c (L.cells y) hx (by rw [L.len]; omega) hnews (L.one y) (by omega) h63 hbytes hbase _ rfl ?_
  intro g cap w' h1 h2 h3 _
  refine h g cap w' ?_ h2 h3
  unfold OwnRows
  rw [flat_snoc, List.length_append]
  exact h1
end
section
variable {wE : World} {n0 mb vb ob db B : Nat} {av : Option Addr} {cv : Nat} {nodes : List Nd}
set_option maxRecDepth 100000 in
set_option maxHeartbeats 6400000 in
theorem down_succ (f : Nat) (hk : BlkOK n0 mb vb ob db B) (hn0 : n0 = wE.heap.size) (hT : Tab wE) (hr : RowsAt ndLay wE av nodes) (hok : NdsOK nodes)
    (ih : ∀ (dp' : Nat) (c q : Int) (ahead : ByteArray) (out : List Itm) (v : Value) (W : World), dp' + f = 16 → ahead.size + 30 * (f + 1) ≤ 1000000 → VSt wE n0 mb vb ob db B av cv nodes W out v → OutOK nodes out → Calls Tryd.prog 28 #[.agg #[.int .i64 c, .int .i64 q], .string ahead, .int .i64 dp', .pointer (some ⟨n0, 0, none⟩), .pointer (some ⟨vb, 0, none⟩), .pointer (some ⟨ob, 0, none⟩), .pointer (some ⟨db, 0, none⟩)] W (DownP wE n0 mb vb ob db B av cv nodes W v (downV nodes f c q ahead out))) (dp : Nat) (c q : Int) (ahead : ByteArray) (out : List Itm) (v : Value) (W : World) (hdf : dp + (f + 1) = 16) (hah : ahead.size + 30 * (f + 2) ≤ 1000000) (hst : VSt wE n0 mb vb ob db B av cv nodes W out v) (hout : OutOK nodes out) :
    Calls Tryd.prog 28 #[.agg #[.int .i64 c, .int .i64 q], .string ahead, .int .i64 dp, .pointer (some ⟨n0, 0, none⟩), .pointer (some ⟨vb, 0, none⟩), .pointer (some ⟨ob, 0, none⟩), .pointer (some ⟨db, 0, none⟩)] W (DownP wE n0 mb vb ob db B av cv nodes W v (downV nodes (f + 1) c q ahead out)) := by
  obtain ⟨i0, hi, hz0, hz1', hz2⟩ := info_parts vitInfo
  have Hi := Lib.hid hi
  have Hz0 := Lib.hid hz0
  have Hz1 := Lib.hid hz1'
  have Hz2 := Lib.hid hz2
  have HIH := Lib.hid ih
  clear hi hz0 hz1' hz2 ih
  obtain ⟨k1, k2, k3, k4, k5⟩ := hk
  have hk : BlkOK n0 mb vb ob db B := ⟨k1, k2, k3, k4, k5⟩
  have HK := Lib.hid hk
  have HR := Lib.hid fun W (h : Below n0 wE W) => (show RowsAt ndLay W av nodes from hr.keeps (by rw [← hn0]; exact h))
  have HTab := Lib.hid fun W (h : Below n0 wE W) => (show Tab W from tab_keeps hT (by rw [← hn0]; exact h))
  have hvB : ∀ j, v.ownBlock = some j → B ≤ j ∧ j < W.heap.size := fun j hj => hst.rows.lt hj
  have HvB := Lib.hid hvB
  have hWB := hst.sz
  have hal := (Below.refl W.heap.size W).alloc (Nat.le_refl _) (.cells #[.int .i64 c, .int .i64 q] 32)
  have hst1 := hst.below hk hal
  have hV1 := VarAt.new W #[.int .i64 c, .int .i64 q] 32
  obtain ⟨sb, hsb⟩ : ∃ sb, sb = W.heap.size := ⟨_, rfl⟩
  rw [← hsb] at hV1
  have hz1 : W.heap.size ≤ (W.alloc (.cells #[.int .i64 c, .int .i64 q] 32)).heap.size := hal.size
  have Hsb := Lib.hid hsb
  have hlen := hok.len
  have Hok := Lib.hid hok
  have hnv := hst1.nv
  have s0 := hV1.2.2 0 _ rfl
  have s1 := hV1.2.2 1 _ rfl
  clear hk hr hT hvB hsb hok hn0
  go_enter Tryd.func28, Tryd.ntmps28
  go_upto_region 1 with fail
  rw [← Hsb.out]
  generalize W.alloc (.cells #[.int .i64 c, .int .i64 q] 32) = W1 at *
  have HC := Lib.hid (children_any av cv nodes c q W1 hlen (HR.out _ hst1.bel))
  go_wp2_with fail
  refine HC.out.mono ?_
  rintro e w2 ⟨vi, rfl, hoi, hb2⟩
  obtain ⟨ai, ci, rfl, hri, hci, hli⟩ := own_low9 hoi
  have hst2 := hst1.below HK.out hb2
  obtain ⟨il, hil⟩ : ∃ il, childF nodes c q = il := ⟨_, rfl⟩
  rw [hil] at hri hci ⊢
  have hill : il.length ≤ nodes.length := by rw [← hil]; exact List.length_filter_le _ _
  have hilm : ∀ x ∈ il, x ∈ nodes := fun x hx => by rw [← hil] at hx; exact (List.mem_filter.1 hx).1
  have Hil := Lib.hid hil
  have Hilm := Lib.hid hilm
  have HN := Lib.hid (named_any ai ci il w2 (by omega) (fun x hx => Hok.out.name x (hilm x hx)) hri (HTab.out _ hst2.bel))
  clear HC hoi hst1 hil hilm s0 s1 hnv
  go_wp2_with fail
  refine HN.out.mono ?_
  rintro e w3 ⟨vg, cg, rfl, hsg, hb3, hlg⟩
  have hst3 := hst2.below HK.out hb3
  have hri3 := hri.keeps hb3
  have hb13 := hal.trans ((hb2.trans (hb3.mono hb2.size)).mono hz1)
  have hb3z := hb3.size
  have hb2z := hb2.size
  obtain ⟨ul, hul⟩ : ∃ ul, uniqueL (il.map (·.name)) = ul := ⟨_, rfl⟩
  obtain ⟨un, hun⟩ : ∃ un, uniqueN (il.map (·.name)) = un := ⟨_, rfl⟩
  rw [hul] at hsg ⊢
  rw [hun]
  have Hul := Lib.hid hul
  have Hun := Lib.hid hun
  clear HN hul hun hri hst2
  by_cases hu0 : un = 0
  · subst hu0
    obtain ⟨hul1, hul2⟩ := given_len nodes c q (by rw [Hil.out]; exact Hun.out)
    rw [Hil.out, Hul.out] at hul1 hul2
    have Hul2 := Lib.hid hul2
    clear hul2
    have hdp : ¬ (dp : Int) ≥ 16 := by omega
    have hdp2 : ¬ (16 : Int) ≤ (dp : Int) := by omega
    have hdp3 : decide ((dp : Int) ≥ 16) = false := decide_eq_false (by omega)
    have HD := Lib.hid (show downV nodes (f + 1) c q ahead out = if (addV ahead false (given nodes c q) out).2 = 0 then subV (downV nodes f) ahead (given nodes c q) (addV ahead false (given nodes c q) out).1 else addV ahead false (given nodes c q) out by
      conv => lhs; unfold downV
      rw [Hil.out, Hun.out, if_neg (by simp)])
    clear hst
    go_wp2_with fail
    go_loopw [32] (fun i wr => ∃ (k : Nat) (o : List Itm) (v' : Value), k ≤ il.length ∧ i = .int .i64 k ∧ VSt wE n0 mb vb ob db B av cv nodes wr o v' ∧ Hid (OutOK nodes o ∧ addV ahead false (given nodes c q) out = addV ahead false ((given nodes c q).drop k) o) ∧ Hid (∀ j, v'.ownBlock = some j → v.ownBlock = some j ∨ w3.heap.size ≤ j) ∧ Turned (SV mb ob v) w3.heap.size w3 wr) (fun i _ => il.length - (RowKit.intOf i).toNat)
    case atStart => exact ⟨0, out, v, Nat.zero_le _, rfl, hst3, Lib.hid ⟨hout, by rw [List.drop_zero]⟩, Lib.hid (fun j h => .inl h), Turned.refl _ _ _⟩
    case round =>
      clear hst3 hout
      obtain ⟨k, o, v', hk, rfl, hstr, HO, HV, htr⟩ := hrel
      have hns : ∀ j, W1.heap.size ≤ j → ¬ SV mb ob v j := fun j hj hs => by
        rcases hs with e | e | e
        · omega
        · omega
        · have := (HvB.out j e).2; omega
      by_cases hlt : k < il.length
      · obtain ⟨n, hn⟩ := at_some hlt
        obtain ⟨g, hg⟩ := at_some (show k < ul.length by omega)
        have Hz := Lib.hid (zip_at (nodes := nodes) (c := c) (q := q) (k := k) (n := n) (g := g) (by rw [Hil.out]; exact hn) (by rw [Hil.out, Hul.out]; exact hg))
        have hriw := hri3.turned htr (fun ad e => ⟨by have := (hli ad e).2; omega, hns _ (hli ad e).1⟩)
        obtain ⟨gb, goff, hge, hgl, hgc⟩ := hsg k (by omega)
        rw [List.getD_eq_getElem?_getD, hg, Option.getD_some] at hgc
        have hgb : w2.heap.size ≤ gb := hlg _ hge
        have hgcr := (World.cell?_of_block (htr.block gb hgl (hns gb (by omega)))).trans hgc
        have hglr : gb < wr.heap.size := Nat.lt_of_lt_of_le hgl htr.size
        subst hge
        have hnk := hn
        have hgs := Hul2.out g (List.mem_of_getElem? hg)
        have hcat : ∀ W' : World, (Op.stringOp .add ahead g).run Tryd.prog W' = .ok (.string (ahead ++ g)) W' := fun W' => by first | exact run_string_add W' _ _ (by omega) (by omega) | exact run_string_add _ _ (by omega) (by omega)
        obtain ⟨b, off, hae, hbl, c0, c1, c2, c3, c4, c5, c6⟩ := nd_at hriw hn
        subst hae
        have hid := Hok.out.id n (Hilm.out n (List.mem_of_getElem? hn))
        have hnm := Hilm.out n (List.mem_of_getElem? hn)
        obtain ⟨xc, xw, xd, xp, xq, xn, xm⟩ := n
        dsimp only at c0 c1 c2 c3 c4 c5 c6 hid
        have hA := (Below.refl wr.heap.size wr).alloc (Nat.le_refl _) (.cells #[.int .i64 xc, .int .i64 xw, .bool xd, .int .i64 xp, .int .i64 xq, .string xn, .string xm] 46)
        have hstA := hstr.below HK.out hA
        have hmvA := hstA.mv
        have hlk0 : ∀ b, hasI o xc xw = b → (Instr.lookup 61 (.map (some mb)) (.agg #[.int .i64 xc, .int .i64 xw]) false).run Tryd.prog (wr.alloc (.cells #[.int .i64 xc, .int .i64 xw, .bool xd, .int .i64 xp, .int .i64 xq, .string xn, .string xm] 46)) = .ok (.bool b) (wr.alloc (.cells #[.int .i64 xc, .int .i64 xw, .bool xd, .int .i64 xp, .int .i64 xq, .string xn, .string xm] 46)) := fun b hb => by
          obtain ⟨nn, hm⟩ := hstA.mp
          have h1 := hm.lookup stpK Tryd.underlying61 (prOf xc xw hid) (zeroBool _)
          rw [yesG_get] at h1
          rw [← hb]
          exact h1
        have Hn0 := Lib.hid hnk
        have hlti : (k : Int) < (il.length : Int) := by omega
        have hlt0 : (0 : Int) ≤ (k : Int) := by omega
        have hltg : (k : Int) < (ul.length : Int) := by omega
        have hszr := htr.size
        clear hn hg hgc hnk
        cases hh : hasI o xc xw with
        | true =>
          have hlk := hlk0 true hh
          have HD2 := Lib.hid (show downV nodes (f + 1) c q ahead out = (o, 40) by
            have e1 : addV ahead false (given nodes c q) out = (o, 40) := by
              rw [HO.out.2, Hz.out]
              unfold addV
              rw [show hasI o xc xw = true from hh, Bool.true_or, if_pos rfl]
            rw [HD.out, e1, if_neg (by simp)])
          clear hh hlk0
          go_wp2_with fail
          go_ret
          unfold DownP
          rw [HD2.out]
          exact ⟨rfl, v', hstA, HO.out.1, fun j hj => (HV.out j hj).imp id (fun h => Nat.le_trans (by omega) h), ((Turned.of_below hb13 (Nat.le_refl _) : Turned (SV mb ob v) W.heap.size W w3).trans (htr.mono (by omega) (fun _ _ h => h))).trans (Turned.of_below hA (by omega))⟩
        | false =>
          have hlk := hlk0 false hh
          have HO2 := Lib.hid (show OutOK nodes (o ++ [itmOf ahead g ⟨xc, xw, xd, xp, xq, xn, xm⟩]) ∧ addV ahead false (given nodes c q) out = addV ahead false ((given nodes c q).drop (k + 1)) (o ++ [itmOf ahead g ⟨xc, xw, xd, xp, xq, xn, xm⟩]) from ⟨HO.out.1.add hnm hh ahead g, by
            rw [HO.out.2, Hz.out]
            conv => lhs; unfold addV
            rw [show hasI o xc xw = false from hh, Bool.false_or, if_neg (by simp)]⟩)
          have hol := out_len HO.out.1
          obtain ⟨nn, hmA⟩ := hstA.mp
          have Hmk := Lib.hid (fun w5 (h : MapOf Pr.val w5 mb (nn + 1) (putAt (yesG o) (prOf xc xw hid) (.bool true))) => (show ∃ n, MapOf Pr.val w5 mb n (yesG (o ++ [itmOf ahead g ⟨xc, xw, xd, xp, xq, xn, xm⟩])) from ⟨_, h.congr fun p => by rw [yesG_put o ahead g ⟨xc, xw, xd, xp, xq, xn, xm⟩ hid]⟩))
          clear hh hlk0
          go_wp2_with (at_mapUpdate; refine wpList_mapUpdate_of rfl _ _ _ 61 rfl 32 4 stpK Tryd.underlying61 rfl hmA (prOf xc xw hid) rfl (.bool true) rfl ?_)
          intro w5 hm5 hg5
          have hX := VarAt.new wr #[.int .i64 xc, .int .i64 xw, .bool xd, .int .i64 xp, .int .i64 xq, .string xn, .string xm] 46
          have hszA := hstA.sz
          have hszr2 := hstr.sz
          have hA5 := hA.size
          obtain ⟨xb, hxb⟩ : ∃ xb, xb = wr.heap.size := ⟨_, rfl⟩
          rw [← hxb] at hX
          have Hxb := Lib.hid hxb
          have hX5 : VarAt w5 xb _ := hX.grown hg5 (by simp; omega)
          have ov5 := hstA.ov.grown hg5 (by simp; omega)
          have row5 := hstA.rows.kept hg5 (.inr (fun e => by have := (hstA.rows.lt e).1; omega))
          have gc5 := (hg5.cell_far ⟨gb, goff + k, none⟩ (by show gb < _; omega) (by simp; omega)).trans ((hA.cell (p := ⟨gb, goff + k, none⟩) hglr).trans hgcr)
          have ht5 : Turned (SV mb ob v') wr.heap.size wr w5 := (Turned.of_below hA (Nat.le_refl _)).trans (Turned.of_grown hg5 (by omega) (fun j e _ => .inl (Option.some.inj e).symm))
          have hz5 := hg5.size
          obtain ⟨a6, c6', hv6, hr6, _⟩ := hstA.rows.read
          subst hv6
          have hox := (row5.alloc (.cells #[.string (ahead ++ g), .int .i64 xc, .int .i64 xw, .bool xd, .bool false, .string xm] 34)).drewN 1
          have m1 : w5.drew.cell? ⟨ob, 0, none⟩ = some (.slice a6 o.length c6') := ov5.2.2 0 _ rfl
          have HAl := Lib.hid fun (b i : Nat) (u : Value) (h1 : b < w5.heap.size) (h2 : w5.drew.cell? ⟨b, i, none⟩ = some u) => (show (w5.alloc (.cells #[.string (ahead ++ g), .int .i64 xc, .int .i64 xw, .bool xd, .bool false, .string xm] 34)).drew.cell? ⟨b, i, none⟩ = some u from (((Below.refl w5.heap.size w5).alloc (Nat.le_refl _) (.cells #[.string (ahead ++ g), .int .i64 xc, .int .i64 xw, .bool xd, .bool false, .string xm] 34)).cell (p := ⟨b, i, none⟩) h1).trans h2)
          have hal5 : Below w5.heap.size w5 ((w5.alloc (.cells #[.string (ahead ++ g), .int .i64 xc, .int .i64 xw, .bool xd, .bool false, .string xm] 34)).drewN 1) := belowDrew ((Below.refl _ w5).alloc (Nat.le_refl _) _) 1
          have m2 := HAl.out ob 0 _ ov5.1 m1
          have x0 : w5.drew.cell? ⟨xb, 0, none⟩ = some (.int .i64 xc) := hX5.2.2 0 _ rfl
          have x1 : w5.drew.cell? ⟨xb, 1, none⟩ = some (.int .i64 xw) := hX5.2.2 1 _ rfl
          have x2 : w5.drew.cell? ⟨xb, 2, none⟩ = some (.bool xd) := hX5.2.2 2 _ rfl
          have x6 : w5.drew.cell? ⟨xb, 6, none⟩ = some (.string xm) := hX5.2.2 6 _ rfl
          have gcd : w5.drew.cell? ⟨gb, goff + k, none⟩ = some (.string g) := gc5
          have hdz : w5.drew.heap.size = w5.heap.size := rfl
          clear hlk c0 c1 c2 c3 c4 c5 c6 hmvA hxb
          go_wp2_with fail
          rw [← Hxb.out]
          have hnx : (Value.slice a6 o.length c6').ownBlock ≠ some xb := fun e => by
            have h1 := (hstr.rows.lt e).2
            have h2 := Hxb.out
            omega
          have hng : (Value.slice a6 o.length c6').ownBlock ≠ some gb := fun e => by
            rcases HV.out gb e with e2 | e2
            · have := (HvB.out gb e2).2; omega
            · omega
          have hxb2 := Hxb.out
          have hox2 : ¬ ob = xb := by omega
          have hog2 : ¬ ob = gb := by omega
          have hxl : xb < w5.heap.size := hX5.1
          have hgl5 : gb < w5.heap.size := by omega
          clear hxb2
          refine wp_region_held_drew (S := fun w' => w'.cell? ⟨xb, 0, none⟩ = some (.int .i64 xc) ∧ w'.cell? ⟨xb, 1, none⟩ = some (.int .i64 xw) ∧ w'.cell? ⟨xb, 2, none⟩ = some (.bool xd) ∧ w'.cell? ⟨xb, 6, none⟩ = some (.string xm) ∧ w'.cell? ⟨gb, goff + k, none⟩ = some (.string g)) (by kernel_rfl) ⟨x0, x1, x2, x6, gcd⟩ (fun hHeld => ?_)
          refine wpAnyH_take (i := 1) (oi := { dst := some 49, op := Op.move (Operand.tmp 1), type := 9, pos := "view.go:38", after := #[], guard := none }) (v := ?_) rfl (by kernel_rfl) (by kernel_rfl) (by kernel_rfl) (fun _ _ _ h => h) (Or.inl ⟨by rfl, ?_⟩) (by assumption) ?_
          rotate_left
          · intro w9 hSw
            try dsimp only at hSw
            first | (go_simp; done) | (go_simp; with_reducible rfl)
          try simp only [Act.put, List.setIfInBounds_toArray, List.set_cons_zero, List.set_cons_succ]
          refine wpAnyH_take (i := 2) (oi := { dst := some 50, op := Op.move (Operand.tmp 12), type := 63, pos := "view.go:38", after := #[], guard := none }) (v := ?_) rfl (by kernel_rfl) (by kernel_rfl) (by kernel_rfl) (fun _ _ _ h => h) (Or.inl ⟨by rfl, ?_⟩) (by assumption) ?_
          rotate_left
          · intro w9 hSw
            try dsimp only at hSw
            first | (go_simp; done) | (go_simp; with_reducible rfl)
          try simp only [Act.put, List.setIfInBounds_toArray, List.set_cons_zero, List.set_cons_succ]
          refine wpAnyH_take (i := 3) (oi := { dst := some 51, op := Op.move (Operand.tmp 14), type := 3, pos := "view.go:38", after := #[], guard := none }) (v := ?_) rfl (by kernel_rfl) (by kernel_rfl) (by kernel_rfl) (fun _ _ _ h => h) (Or.inl ⟨by rfl, ?_⟩) (by assumption) ?_
          rotate_left
          · intro w9 hSw
            try dsimp only at hSw
            first | (go_simp; done) | (go_simp; with_reducible rfl)
          try simp only [Act.put, List.setIfInBounds_toArray, List.set_cons_zero, List.set_cons_succ]
          refine wpAnyH_take (i := 4) (oi := { dst := some 52, op := Op.indexAddr 63 (Operand.tmp 50) (Operand.tmp 51), type := 0, pos := "view.go:38", after := #[{ on := 2, ground := Ground.data }, { on := 3, ground := Ground.data }], guard := none }) (v := ?_) rfl (by kernel_rfl) (by kernel_rfl) (by kernel_rfl) (fun _ _ _ h => h) (Or.inl ⟨by rfl, ?_⟩) (by assumption) ?_
          rotate_left
          · intro w9 hSw
            try dsimp only at hSw
            first | (go_simp; done) | (go_simp; with_reducible rfl)
          try simp only [Act.put, List.setIfInBounds_toArray, List.set_cons_zero, List.set_cons_succ]
          refine wpAnyH_take (i := 5) (oi := { dst := some 53, op := Op.load 9 (Operand.tmp 52), type := 9, pos := "view.go:38", after := #[{ on := 4, ground := Ground.data }], guard := none }) (v := ?_) rfl (by kernel_rfl) (by kernel_rfl) (by kernel_rfl) (fun _ _ _ h => h) (Or.inl ⟨by rfl, ?_⟩) (by assumption) ?_
          rotate_left
          · intro w9 hSw
            try dsimp only at hSw
            first | (go_simp; done) | (go_simp; with_reducible rfl)
          try simp only [Act.put, List.setIfInBounds_toArray, List.set_cons_zero, List.set_cons_succ]
          refine wpAnyH_take (i := 6) (oi := { dst := some 54, op := Op.binOp BinOp.add 9 (Operand.tmp 49) (Operand.tmp 53) 9, type := 9, pos := "view.go:38", after := #[{ on := 1, ground := Ground.data }, { on := 5, ground := Ground.data }], guard := none }) (v := ?_) rfl (by kernel_rfl) (by kernel_rfl) (by kernel_rfl) (fun _ _ _ h => h) (Or.inl ⟨by rfl, ?_⟩) (by assumption) ?_
          rotate_left
          · intro w9 hSw
            try dsimp only at hSw
            first | (go_simp; done) | (go_simp; with_reducible rfl)
          try simp only [Act.put, List.setIfInBounds_toArray, List.set_cons_zero, List.set_cons_succ]
          refine wpAnyH_take (i := 7) (oi := { dst := some 55, op := Op.fieldAddr 46 (Operand.tmp 15) 0, type := 0, pos := "view.go:38", after := #[], guard := none }) (v := ?_) rfl (by kernel_rfl) (by kernel_rfl) (by kernel_rfl) (fun _ _ _ h => h) (Or.inl ⟨by rfl, ?_⟩) (by assumption) ?_
          rotate_left
          · intro w9 hSw
            try dsimp only at hSw
            first | (go_simp; done) | (go_simp; with_reducible rfl)
          try simp only [Act.put, List.setIfInBounds_toArray, List.set_cons_zero, List.set_cons_succ]
          refine wpAnyH_take (i := 8) (oi := { dst := some 56, op := Op.load 32 (Operand.tmp 55), type := 32, pos := "view.go:38", after := #[{ on := 7, ground := Ground.data }], guard := none }) (v := ?_) rfl (by kernel_rfl) (by kernel_rfl) (by kernel_rfl) (fun _ _ _ h => h) (Or.inl ⟨by rfl, ?_⟩) (by assumption) ?_
          rotate_left
          · intro w9 hSw
            try dsimp only at hSw
            first | (go_simp; done) | (go_simp; with_reducible rfl)
          try simp only [Act.put, List.setIfInBounds_toArray, List.set_cons_zero, List.set_cons_succ]
          refine wpAnyH_take (i := 9) (oi := { dst := some 57, op := Op.fieldAddr 46 (Operand.tmp 15) 1, type := 0, pos := "view.go:38", after := #[], guard := none }) (v := ?_) rfl (by kernel_rfl) (by kernel_rfl) (by kernel_rfl) (fun _ _ _ h => h) (Or.inl ⟨by rfl, ?_⟩) (by assumption) ?_
          rotate_left
          · intro w9 hSw
            try dsimp only at hSw
            first | (go_simp; done) | (go_simp; with_reducible rfl)
          try simp only [Act.put, List.setIfInBounds_toArray, List.set_cons_zero, List.set_cons_succ]
          refine wpAnyH_take (i := 10) (oi := { dst := some 58, op := Op.load 4 (Operand.tmp 57), type := 4, pos := "view.go:38", after := #[{ on := 9, ground := Ground.data }], guard := none }) (v := ?_) rfl (by kernel_rfl) (by kernel_rfl) (by kernel_rfl) (fun _ _ _ h => h) (Or.inl ⟨by rfl, ?_⟩) (by assumption) ?_
          rotate_left
          · intro w9 hSw
            try dsimp only at hSw
            first | (go_simp; done) | (go_simp; with_reducible rfl)
          try simp only [Act.put, List.setIfInBounds_toArray, List.set_cons_zero, List.set_cons_succ]
          refine wpAnyH_take (i := 11) (oi := { dst := some 59, op := Op.fieldAddr 46 (Operand.tmp 15) 4, type := 0, pos := "view.go:38", after := #[], guard := none }) (v := ?_) rfl (by kernel_rfl) (by kernel_rfl) (by kernel_rfl) (fun _ _ _ h => h) (Or.inl ⟨by rfl, ?_⟩) (by assumption) ?_
          rotate_left
          · intro w9 hSw
            try dsimp only at hSw
            first | (go_simp; done) | (go_simp; with_reducible rfl)
          try simp only [Act.put, List.setIfInBounds_toArray, List.set_cons_zero, List.set_cons_succ]
          refine wpAnyH_take (i := 12) (oi := { dst := some 60, op := Op.load 9 (Operand.tmp 59), type := 9, pos := "view.go:38", after := #[{ on := 11, ground := Ground.data }], guard := none }) (v := ?_) rfl (by kernel_rfl) (by kernel_rfl) (by kernel_rfl) (fun _ _ _ h => h) (Or.inl ⟨by rfl, ?_⟩) (by assumption) ?_
          rotate_left
          · intro w9 hSw
            try dsimp only at hSw
            first | (go_simp; done) | (go_simp; with_reducible rfl)
          try simp only [Act.put, List.setIfInBounds_toArray, List.set_cons_zero, List.set_cons_succ]
          refine wpAnyH_take (i := 13) (oi := { dst := some 61, op := Op.build 34 #[(0, Operand.tmp 54), (1, Operand.tmp 56), (2, Operand.tmp 58), (4, Operand.tmp 60)], type := 34, pos := "view.go:38", after := #[{ on := 6, ground := Ground.data }, { on := 8, ground := Ground.data }, { on := 10, ground := Ground.data }, { on := 12, ground := Ground.data }], guard := none }) (v := ?_) rfl (by kernel_rfl) (by kernel_rfl) (by kernel_rfl) (fun _ _ _ h => h) (Or.inl ⟨by rfl, ?_⟩) (by assumption) ?_
          rotate_left
          · intro w9 hSw
            try dsimp only at hSw
            first | (go_simp; done) | (go_simp; with_reducible rfl)
          try simp only [Act.put, List.setIfInBounds_toArray, List.set_cons_zero, List.set_cons_succ]
          refine wpAnyH_ready (rs := [0, 14]) (by kernel_rfl) (by simp) ?_
          refine AllReadyH.cons (o := { dst := some 48, op := Op.load 25 (Operand.tmp 5), type := 25, pos := "view.go:38", after := #[], guard := none }) rfl (fun K hK => ?_) ?_
          · go_simp
            refine hK.out _ _ ?_ (fun hHeld2 => ?_)
            · exact hHeld
            clear hK K hHeld
            have hHeld := hHeld2
            clear hHeld2
            try simp only [Act.put, List.setIfInBounds_toArray, List.set_cons_zero, List.set_cons_succ]
            refine wpAnyH_ready (rs := [14]) (by kernel_rfl) (by simp) ?_
            refine AllReadyH.cons (o := { dst := some 62, op := Op.buildSlice 25 1 #[(0, Operand.tmp 61)], type := 25, pos := "view.go:38", after := #[{ on := 13, ground := Ground.data }], guard := none }) rfl (fun K hK => ?_) ?_
            · go_simp
              refine hK.out _ _ ?_ (fun hHeld2 => ?_)
              · first | exact ⟨HAl.out _ _ _ hxl x0, HAl.out _ _ _ hxl x1, HAl.out _ _ _ hxl x2, HAl.out _ _ _ hxl x6, HAl.out _ _ _ hgl5 gcd⟩ | (dsimp only at hHeld; exact ⟨HAl.out _ _ _ hxl hHeld.1, HAl.out _ _ _ hxl hHeld.2.1, HAl.out _ _ _ hxl hHeld.2.2.1, HAl.out _ _ _ hxl hHeld.2.2.2.1, HAl.out _ _ _ hgl5 hHeld.2.2.2.2⟩)
              clear hK K hHeld
              have hHeld := hHeld2
              clear hHeld2
              try simp only [Act.put, List.setIfInBounds_toArray, List.set_cons_zero, List.set_cons_succ]
              refine wpAnyH_ready (rs := [15]) (by kernel_rfl) (by simp) ?_
              refine AllReadyH.cons (o := { dst := some 63, op := Op.call { callee := Callee.builtin Builtin.append, args := #[Operand.tmp 48, Operand.tmp 62], argTypes := #[25, 25] }, type := 25, pos := "view.go:38", after := #[{ on := 0, ground := Ground.data }, { on := 14, ground := Ground.data }], guard := none }) rfl (fun K hK => ?_) ?_
              · refine step_append_at _ (by rfl) _ _ 25 (by rfl) itmLay B 34 i0 (.agg #[.string ⟨#[]⟩, .int .i64 0, .int .i64 0, .bool false, .bool false, .string ⟨#[]⟩]) 56 Tryd.underlying25 Hi.out Hz0.out Hz1.out Hz2.out rfl (by decide) _ _ (by rfl) hox ⟨w5.heap.size, 0, none⟩ 1 ⟨ahead ++ g, xc, xw, xd, false, xm⟩ (by rfl) (World.news_of_block (cs := #[.string (ahead ++ g), .int .i64 xc, .int .i64 xw, .bool xd, .bool false, .string xm]) (t := 34) (fr := (0, 0)) (heap_alloc_new w5 _)) (by unfold maxLen; omega) (by omega) (by simp; omega) ?_
                intro g7 c7 w6 ho6 hg6 hw6
                have hM6 := (ov5.keeps hal5 ov5.1).grown hg6 (fun e => by have := (hox.lt e.symm).1; omega)
                have hk6 := hM6.2.2 0 _ rfl
                have hf6 := hM6.2.1 0
                refine hK.out _ _ ?_ (fun hHeld2 => ?_)
                · exact ⟨(by rw [hg6.cell_far ⟨xb, 0, none⟩ (by simp; omega) (by first | exact hnx | exact Ne.symm hnx)]; exact hHeld.1), (by rw [hg6.cell_far ⟨xb, 1, none⟩ (by simp; omega) (by first | exact hnx | exact Ne.symm hnx)]; exact hHeld.2.1), (by rw [hg6.cell_far ⟨xb, 2, none⟩ (by simp; omega) (by first | exact hnx | exact Ne.symm hnx)]; exact hHeld.2.2.1), (by rw [hg6.cell_far ⟨xb, 6, none⟩ (by simp; omega) (by first | exact hnx | exact Ne.symm hnx)]; exact hHeld.2.2.2.1), (by rw [hg6.cell_far ⟨gb, goff + k, none⟩ (by simp; omega) (by first | exact hng | exact Ne.symm hng)]; exact hHeld.2.2.2.2)⟩
                clear hK K hHeld
                have hHeld := hHeld2
                clear hHeld2
                try simp only [Act.put, List.setIfInBounds_toArray, List.set_cons_zero, List.set_cons_succ]
                refine wpAnyH_ready (rs := [16]) (by kernel_rfl) (by simp) ?_
                refine AllReadyH.cons (o := { dst := none, op := Op.store 25 (Operand.tmp 5) (Operand.tmp 63), type := 0, pos := "view.go:38", after := #[{ on := 15, ground := Ground.data }, { on := 15, ground := Ground.chain }, { on := 0, ground := Ground.phase }, { on := 1, ground := Ground.phase }, { on := 2, ground := Ground.phase }, { on := 3, ground := Ground.phase }, { on := 4, ground := Ground.phase }, { on := 5, ground := Ground.phase }, { on := 6, ground := Ground.phase }, { on := 7, ground := Ground.phase }, { on := 8, ground := Ground.phase }, { on := 9, ground := Ground.phase }, { on := 10, ground := Ground.phase }, { on := 11, ground := Ground.phase }, { on := 12, ground := Ground.phase }, { on := 13, ground := Ground.phase }, { on := 14, ground := Ground.phase }, { on := 15, ground := Ground.phase }], guard := none }) rfl (fun K hK => ?_) ?_
                · go_simp
                  refine hK.out _ _ ?_ (fun hHeld2 => ?_)
                  · exact ⟨(World.cell?_setCell_far w6 ⟨ob, 0, none⟩ ⟨xb, 0, none⟩ _ hox2).trans hHeld.1, (World.cell?_setCell_far w6 ⟨ob, 0, none⟩ ⟨xb, 1, none⟩ _ hox2).trans hHeld.2.1, (World.cell?_setCell_far w6 ⟨ob, 0, none⟩ ⟨xb, 2, none⟩ _ hox2).trans hHeld.2.2.1, (World.cell?_setCell_far w6 ⟨ob, 0, none⟩ ⟨xb, 6, none⟩ _ hox2).trans hHeld.2.2.2.1, (World.cell?_setCell_far w6 ⟨ob, 0, none⟩ ⟨gb, goff + k, none⟩ _ hog2).trans hHeld.2.2.2.2⟩
                  clear hK K hHeld
                  have hHeld := hHeld2
                  clear hHeld2
                  try simp only [Act.put, List.setIfInBounds_toArray, List.set_cons_zero, List.set_cons_succ]
                  refine wpAnyH_done (by kernel_rfl) ?_ _
                  have hsz6 := hg6.size
                  have hsz6a : w5.heap.size + 1 ≤ w6.heap.size := by simpa using hsz6
                  have ht7 : Turned (SV mb ob (.slice a6 o.length c6')) wr.heap.size wr (w6.setCell ⟨ob, 0, none⟩ (.slice (some ⟨g7, 0, none⟩) (o.length + 1) c7)) := (((ht5.alloc (by omega) (.cells #[.string (ahead ++ g), .int .i64 xc, .int .i64 xw, .bool xd, .bool false, .string xm] 34)).drewN 1).trans (Turned.of_grown hg6 (by simp; omega) (fun j e _ => .inr (.inr e)))).set 0 _ (fun _ => .inr (.inl rfl))
                  have hnS : ∀ j, j < B → j ≠ mb → j ≠ ob → ¬ SV mb ob (.slice a6 o.length c6') j := fun j h1 h2 h3 hs => by
                    rcases hs with e | e | e
                    · exact h2 e
                    · exact h3 e
                    · have := (hstr.rows.lt e).1; omega
                  have hst7 : VSt wE n0 mb vb ob db B av cv nodes (w6.setCell ⟨ob, 0, none⟩ (.slice (some ⟨g7, 0, none⟩) (o.length + 1) c7)) (o ++ [itmOf ahead g ⟨xc, xw, xd, xp, xq, xn, xm⟩]) (.slice (some ⟨g7, 0, none⟩) (o.length + 1) c7) := by
                    refine ⟨hstr.bel.trans (ht7.below (by omega) (fun j hj => hnS j (by omega) (by omega) (by omega))), (World.cell?_of_block (ht7.block n0 (by omega) (hnS n0 (by omega) (by omega) (by omega)))).trans hstr.nv, (World.cell?_of_block (ht7.block vb (by omega) (hnS vb (by omega) (by omega) (by omega)))).trans hstr.mv, ?_, hM6.set 0 _ (by simp), (World.cell?_of_block (ht7.block db (by omega) (hnS db (by omega) (by omega) (by omega)))).trans hstr.dv, own_setV ho6 (b := ob) 0 _ (by omega), by simp; omega⟩
                    exact Hmk.out _ ((((hm5.alloc (.cells #[.string (ahead ++ g), .int .i64 xc, .int .i64 xw, .bool xd, .bool false, .string xm] 34)).drewN 1).grown hg6 (fun e => by have := (hox.lt e.symm).1; omega)).of_block (heap_other w6 _ (by omega)))
                  have HV7 := Lib.hid (show ∀ j, (Value.slice (some ⟨g7, 0, none⟩) (o.length + 1) c7).ownBlock = some j → v.ownBlock = some j ∨ w3.heap.size ≤ j from fun j hj => by
                    obtain rfl : g7 = j := Option.some.inj hj
                    rcases hw6 with e | e
                    · exact HV.out _ e
                    · refine .inr ?_
                      rw [e]
                      simp
                      omega)
                  have htr7 : Turned (SV mb ob v) w3.heap.size w3 (w6.setCell ⟨ob, 0, none⟩ (.slice (some ⟨g7, 0, none⟩) (o.length + 1) c7)) := htr.trans (ht7.mono hszr (fun j hj hs => by
                    rcases hs with e | e | e
                    · exact .inl e
                    · exact .inr (.inl e)
                    · rcases HV.out j e with e2 | e2
                      · exact .inr (.inr e2)
                      · omega))
                  clear hM6 hk6 hf6 ho6 hg6 hw6 hm5 hg5 ht5 hox row5 m1 m2 x0 x1 x2 x6 gcd gc5 ov5 hal5 hX hX5 hstA hA ht7 hnS hmA
                  go_wp2_with fail
                  go_roundw
                  case rel => exact ⟨k + 1, _, _, by omega, by go_num, hst7, HO2, HV7, htr7⟩
                  case measure => simp [RowKit.intOf]; omega
                exact AllReadyH.nil
              exact AllReadyH.nil
            exact AllReadyH.nil
          refine AllReadyH.cons (o := { dst := some 62, op := Op.buildSlice 25 1 #[(0, Operand.tmp 61)], type := 25, pos := "view.go:38", after := #[{ on := 13, ground := Ground.data }], guard := none }) rfl (fun K hK => ?_) ?_
          · go_simp
            refine hK.out _ _ ?_ (fun hHeld2 => ?_)
            · first | exact ⟨HAl.out _ _ _ hxl x0, HAl.out _ _ _ hxl x1, HAl.out _ _ _ hxl x2, HAl.out _ _ _ hxl x6, HAl.out _ _ _ hgl5 gcd⟩ | (dsimp only at hHeld; exact ⟨HAl.out _ _ _ hxl hHeld.1, HAl.out _ _ _ hxl hHeld.2.1, HAl.out _ _ _ hxl hHeld.2.2.1, HAl.out _ _ _ hxl hHeld.2.2.2.1, HAl.out _ _ _ hgl5 hHeld.2.2.2.2⟩)
            clear hK K hHeld
            have hHeld := hHeld2
            clear hHeld2
            try simp only [Act.put, List.setIfInBounds_toArray, List.set_cons_zero, List.set_cons_succ]
            refine wpAnyH_ready (rs := [0]) (by kernel_rfl) (by simp) ?_
            refine AllReadyH.cons (o := { dst := some 48, op := Op.load 25 (Operand.tmp 5), type := 25, pos := "view.go:38", after := #[], guard := none }) rfl (fun K hK => ?_) ?_
            · go_simp
              refine hK.out _ _ ?_ (fun hHeld2 => ?_)
              · exact hHeld
              clear hK K hHeld
              have hHeld := hHeld2
              clear hHeld2
              try simp only [Act.put, List.setIfInBounds_toArray, List.set_cons_zero, List.set_cons_succ]
              refine wpAnyH_ready (rs := [15]) (by kernel_rfl) (by simp) ?_
              refine AllReadyH.cons (o := { dst := some 63, op := Op.call { callee := Callee.builtin Builtin.append, args := #[Operand.tmp 48, Operand.tmp 62], argTypes := #[25, 25] }, type := 25, pos := "view.go:38", after := #[{ on := 0, ground := Ground.data }, { on := 14, ground := Ground.data }], guard := none }) rfl (fun K hK => ?_) ?_
              · refine step_append_at _ (by rfl) _ _ 25 (by rfl) itmLay B 34 i0 (.agg #[.string ⟨#[]⟩, .int .i64 0, .int .i64 0, .bool false, .bool false, .string ⟨#[]⟩]) 56 Tryd.underlying25 Hi.out Hz0.out Hz1.out Hz2.out rfl (by decide) _ _ (by rfl) hox ⟨w5.heap.size, 0, none⟩ 1 ⟨ahead ++ g, xc, xw, xd, false, xm⟩ (by rfl) (World.news_of_block (cs := #[.string (ahead ++ g), .int .i64 xc, .int .i64 xw, .bool xd, .bool false, .string xm]) (t := 34) (fr := (0, 0)) (heap_alloc_new w5 _)) (by unfold maxLen; omega) (by omega) (by simp; omega) ?_
                intro g7 c7 w6 ho6 hg6 hw6
                have hM6 := (ov5.keeps hal5 ov5.1).grown hg6 (fun e => by have := (hox.lt e.symm).1; omega)
                have hk6 := hM6.2.2 0 _ rfl
                have hf6 := hM6.2.1 0
                refine hK.out _ _ ?_ (fun hHeld2 => ?_)
                · exact ⟨(by rw [hg6.cell_far ⟨xb, 0, none⟩ (by simp; omega) (by first | exact hnx | exact Ne.symm hnx)]; exact hHeld.1), (by rw [hg6.cell_far ⟨xb, 1, none⟩ (by simp; omega) (by first | exact hnx | exact Ne.symm hnx)]; exact hHeld.2.1), (by rw [hg6.cell_far ⟨xb, 2, none⟩ (by simp; omega) (by first | exact hnx | exact Ne.symm hnx)]; exact hHeld.2.2.1), (by rw [hg6.cell_far ⟨xb, 6, none⟩ (by simp; omega) (by first | exact hnx | exact Ne.symm hnx)]; exact hHeld.2.2.2.1), (by rw [hg6.cell_far ⟨gb, goff + k, none⟩ (by simp; omega) (by first | exact hng | exact Ne.symm hng)]; exact hHeld.2.2.2.2)⟩
                clear hK K hHeld
                have hHeld := hHeld2
                clear hHeld2
                try simp only [Act.put, List.setIfInBounds_toArray, List.set_cons_zero, List.set_cons_succ]
                refine wpAnyH_ready (rs := [16]) (by kernel_rfl) (by simp) ?_
                refine AllReadyH.cons (o := { dst := none, op := Op.store 25 (Operand.tmp 5) (Operand.tmp 63), type := 0, pos := "view.go:38", after := #[{ on := 15, ground := Ground.data }, { on := 15, ground := Ground.chain }, { on := 0, ground := Ground.phase }, { on := 1, ground := Ground.phase }, { on := 2, ground := Ground.phase }, { on := 3, ground := Ground.phase }, { on := 4, ground := Ground.phase }, { on := 5, ground := Ground.phase }, { on := 6, ground := Ground.phase }, { on := 7, ground := Ground.phase }, { on := 8, ground := Ground.phase }, { on := 9, ground := Ground.phase }, { on := 10, ground := Ground.phase }, { on := 11, ground := Ground.phase }, { on := 12, ground := Ground.phase }, { on := 13, ground := Ground.phase }, { on := 14, ground := Ground.phase }, { on := 15, ground := Ground.phase }], guard := none }) rfl (fun K hK => ?_) ?_
                · go_simp
                  refine hK.out _ _ ?_ (fun hHeld2 => ?_)
                  · exact ⟨(World.cell?_setCell_far w6 ⟨ob, 0, none⟩ ⟨xb, 0, none⟩ _ hox2).trans hHeld.1, (World.cell?_setCell_far w6 ⟨ob, 0, none⟩ ⟨xb, 1, none⟩ _ hox2).trans hHeld.2.1, (World.cell?_setCell_far w6 ⟨ob, 0, none⟩ ⟨xb, 2, none⟩ _ hox2).trans hHeld.2.2.1, (World.cell?_setCell_far w6 ⟨ob, 0, none⟩ ⟨xb, 6, none⟩ _ hox2).trans hHeld.2.2.2.1, (World.cell?_setCell_far w6 ⟨ob, 0, none⟩ ⟨gb, goff + k, none⟩ _ hog2).trans hHeld.2.2.2.2⟩
                  clear hK K hHeld
                  have hHeld := hHeld2
                  clear hHeld2
                  try simp only [Act.put, List.setIfInBounds_toArray, List.set_cons_zero, List.set_cons_succ]
                  refine wpAnyH_done (by kernel_rfl) ?_ _
                  have hsz6 := hg6.size
                  have hsz6a : w5.heap.size + 1 ≤ w6.heap.size := by simpa using hsz6
                  have ht7 : Turned (SV mb ob (.slice a6 o.length c6')) wr.heap.size wr (w6.setCell ⟨ob, 0, none⟩ (.slice (some ⟨g7, 0, none⟩) (o.length + 1) c7)) := (((ht5.alloc (by omega) (.cells #[.string (ahead ++ g), .int .i64 xc, .int .i64 xw, .bool xd, .bool false, .string xm] 34)).drewN 1).trans (Turned.of_grown hg6 (by simp; omega) (fun j e _ => .inr (.inr e)))).set 0 _ (fun _ => .inr (.inl rfl))
                  have hnS : ∀ j, j < B → j ≠ mb → j ≠ ob → ¬ SV mb ob (.slice a6 o.length c6') j := fun j h1 h2 h3 hs => by
                    rcases hs with e | e | e
                    · exact h2 e
                    · exact h3 e
                    · have := (hstr.rows.lt e).1; omega
                  have hst7 : VSt wE n0 mb vb ob db B av cv nodes (w6.setCell ⟨ob, 0, none⟩ (.slice (some ⟨g7, 0, none⟩) (o.length + 1) c7)) (o ++ [itmOf ahead g ⟨xc, xw, xd, xp, xq, xn, xm⟩]) (.slice (some ⟨g7, 0, none⟩) (o.length + 1) c7) := by
                    refine ⟨hstr.bel.trans (ht7.below (by omega) (fun j hj => hnS j (by omega) (by omega) (by omega))), (World.cell?_of_block (ht7.block n0 (by omega) (hnS n0 (by omega) (by omega) (by omega)))).trans hstr.nv, (World.cell?_of_block (ht7.block vb (by omega) (hnS vb (by omega) (by omega) (by omega)))).trans hstr.mv, ?_, hM6.set 0 _ (by simp), (World.cell?_of_block (ht7.block db (by omega) (hnS db (by omega) (by omega) (by omega)))).trans hstr.dv, own_setV ho6 (b := ob) 0 _ (by omega), by simp; omega⟩
                    exact Hmk.out _ ((((hm5.alloc (.cells #[.string (ahead ++ g), .int .i64 xc, .int .i64 xw, .bool xd, .bool false, .string xm] 34)).drewN 1).grown hg6 (fun e => by have := (hox.lt e.symm).1; omega)).of_block (heap_other w6 _ (by omega)))
                  have HV7 := Lib.hid (show ∀ j, (Value.slice (some ⟨g7, 0, none⟩) (o.length + 1) c7).ownBlock = some j → v.ownBlock = some j ∨ w3.heap.size ≤ j from fun j hj => by
                    obtain rfl : g7 = j := Option.some.inj hj
                    rcases hw6 with e | e
                    · exact HV.out _ e
                    · refine .inr ?_
                      rw [e]
                      simp
                      omega)
                  have htr7 : Turned (SV mb ob v) w3.heap.size w3 (w6.setCell ⟨ob, 0, none⟩ (.slice (some ⟨g7, 0, none⟩) (o.length + 1) c7)) := htr.trans (ht7.mono hszr (fun j hj hs => by
                    rcases hs with e | e | e
                    · exact .inl e
                    · exact .inr (.inl e)
                    · rcases HV.out j e with e2 | e2
                      · exact .inr (.inr e2)
                      · omega))
                  clear hM6 hk6 hf6 ho6 hg6 hw6 hm5 hg5 ht5 hox row5 m1 m2 x0 x1 x2 x6 gcd gc5 ov5 hal5 hX hX5 hstA hA ht7 hnS hmA
                  go_wp2_with fail
                  go_roundw
                  case rel => exact ⟨k + 1, _, _, by omega, by go_num, hst7, HO2, HV7, htr7⟩
                  case measure => simp [RowKit.intOf]; omega
                exact AllReadyH.nil
              exact AllReadyH.nil
            exact AllReadyH.nil
          exact AllReadyH.nil
      · obtain rfl : k = il.length := by omega
        have hLl : (given nodes c q).length = il.length := by
          unfold given
          rw [List.length_zip, Hil.out, Hul.out]
          omega
        have HD3 := Lib.hid (show downV nodes (f + 1) c q ahead out = subV (downV nodes f) ahead (given nodes c q) o by
          have e1 : addV ahead false (given nodes c q) out = (o, 0) := by
            rw [HO.out.2, ← hLl, List.drop_length]
            rfl
          rw [HD.out, e1, if_pos rfl])
        have hout2 := HO.out.1
        clear HO HD
        go_wp2_with fail
        go_loopw [67] (fun i wr => ∃ (k : Nat) (o' : List Itm) (v' : Value), k ≤ il.length ∧ i = .int .i64 k ∧ VSt wE n0 mb vb ob db B av cv nodes wr o' v' ∧ Hid (OutOK nodes o' ∧ subV (downV nodes f) ahead (given nodes c q) o = subV (downV nodes f) ahead ((given nodes c q).drop k) o') ∧ Hid (∀ j, v'.ownBlock = some j → v.ownBlock = some j ∨ w3.heap.size ≤ j) ∧ Turned (SV mb ob v) w3.heap.size w3 wr) (fun i _ => il.length - (RowKit.intOf i).toNat)
        case atStart => exact ⟨0, o, v', Nat.zero_le _, rfl, hstr, Lib.hid ⟨hout2, by rw [List.drop_zero]⟩, HV, htr⟩
        case round =>
          clear hstr hout2 HV htr
          obtain ⟨k, o', v2, hk, rfl, hstr, HO, HV, htr⟩ := hrel
          by_cases hlt : k < il.length
          · obtain ⟨n, hn⟩ := at_some hlt
            obtain ⟨g, hg⟩ := at_some (show k < ul.length by omega)
            have Hz := Lib.hid (zip_at (nodes := nodes) (c := c) (q := q) (k := k) (n := n) (g := g) (by rw [Hil.out]; exact hn) (by rw [Hil.out, Hul.out]; exact hg))
            have hriw := hri3.turned htr (fun ad e => ⟨by have := (hli ad e).2; omega, hns _ (hli ad e).1⟩)
            obtain ⟨gb, goff, hge, hgl, hgc⟩ := hsg k (by omega)
            rw [List.getD_eq_getElem?_getD, hg, Option.getD_some] at hgc
            have hgb : w2.heap.size ≤ gb := hlg _ hge
            have hgcr := (World.cell?_of_block (htr.block gb hgl (hns gb (by omega)))).trans hgc
            have hglr : gb < wr.heap.size := Nat.lt_of_lt_of_le hgl htr.size
            subst hge
            have hgs := Hul2.out g (List.mem_of_getElem? hg)
            have hcat : ∀ W' : World, (Op.stringOp .add ahead g).run Tryd.prog W' = .ok (.string (ahead ++ g)) W' := fun W' => by first | exact run_string_add W' _ _ (by omega) (by omega) | exact run_string_add _ _ (by omega) (by omega)
            have hags : (ahead ++ g).size = ahead.size + g.size := ByteArray.size_append
            have hcat2 : ∀ W' : World, (Op.stringOp .add (ahead ++ g) ⟨#[47]⟩).run Tryd.prog W' = .ok (.string (ahead ++ g ++ ⟨#[47]⟩)) W' := fun W' => by first | exact run_string_add W' _ _ (by omega) (by decide) | exact run_string_add _ _ (by omega) (by decide)
            have hags2 : (ahead ++ g ++ (⟨#[47]⟩ : ByteArray)).size = ahead.size + g.size + 1 := by rw [ByteArray.size_append, hags]; rfl
            obtain ⟨b, off, hae, hbl, c0, c1, c2, c3, c4, c5, c6⟩ := nd_at hriw hn
            subst hae
            obtain ⟨xc, xw, xd, xp, xq, xn, xm⟩ := n
            dsimp only at c0 c1 c2 c3 c4 c5 c6
            have hA := (Below.refl wr.heap.size wr).alloc (Nat.le_refl _) (.cells #[.int .i64 xc, .int .i64 xw, .bool xd, .int .i64 xp, .int .i64 xq, .string xn, .string xm] 46)
            have hstA := hstr.below HK.out hA
            have hlti : (k : Int) < (il.length : Int) := by omega
            have hlt0 : (0 : Int) ≤ (k : Int) := by omega
            have hltg : (k : Int) < (ul.length : Int) := by omega
            have hszr := htr.size
            have hA5 := hA.size
            have htrA := htr.trans (Turned.of_below hA hszr)
            clear hn hg hgc
            cases xd with
            | false =>
              have HO2 := Lib.hid (show OutOK nodes o' ∧ subV (downV nodes f) ahead (given nodes c q) o = subV (downV nodes f) ahead ((given nodes c q).drop (k + 1)) o' from ⟨HO.out.1, by
                rw [HO.out.2, Hz.out]
                conv => lhs; unfold subV
                rw [if_neg (by simp)]⟩)
              go_wp2_with fail
              go_roundw
              case rel => exact ⟨k + 1, o', v2, by omega, by go_num, hstA, HO2, HV, htrA⟩
              case measure => simp [RowKit.intOf]; omega
            | true =>
              have hX := VarAt.new wr #[.int .i64 xc, .int .i64 xw, .bool true, .int .i64 xp, .int .i64 xq, .string xn, .string xm] 46
              have gcA := (hA.cell (p := ⟨gb, goff + k, none⟩) hglr).trans hgcr
              have hdv := hstA.dv
              unfold downF at hdv
              obtain ⟨xb, hxb⟩ : ∃ xb, xb = wr.heap.size := ⟨_, rfl⟩
              rw [← hxb] at hX
              have Hxb := Lib.hid hxb
              obtain ⟨WA, hWA⟩ : ∃ WA, WA = wr.alloc (.cells #[.int .i64 xc, .int .i64 xw, .bool true, .int .i64 xp, .int .i64 xq, .string xn, .string xm] 46) := ⟨_, rfl⟩
              rw [← hWA] at hX gcA hdv hstA hA hA5 htrA
              have HWA := Lib.hid hWA
              have x0 := hX.2.2 0 _ rfl
              have x1 := hX.2.2 1 _ rfl
              have x2 := hX.2.2 2 _ rfl
              have hstD : VSt wE n0 mb vb ob db B av cv nodes WA.drew o' v2 := hstA.below HK.out (belowDrew (Below.refl _ WA) 1)
              have HI := HIH.out (dp + 1) xc xw (ahead ++ g ++ ⟨#[47]⟩) o' v2 WA.drew (by omega) (by omega) hstD HO.out.1
              rw [show ((dp + 1 : Nat) : Int) = (dp : Int) + 1 by omega] at HI
              replace HI := Lib.hid HI
              clear hxb hWA hX
              go_upto_region 16 with fail
              rw [← HWA.out, ← Hxb.out]
              clear c0 c1 c2 c3 c4 c5 c6
              go_wp2_with fail
              have hnx : ¬ SV mb ob v2 xb := fun hs => by
                have h2 := Hxb.out
                have h3 := hstr.sz
                rcases hs with e | e | e
                · omega
                · omega
                · have := (hstr.rows.lt e).2; omega
              have hng : ¬ SV mb ob v2 gb := fun hs => by
                rcases hs with e | e | e
                · omega
                · omega
                · rcases HV.out gb e with e2 | e2
                  · have := (HvB.out gb e2).2; omega
                  · omega
              have hxl : xb < WA.heap.size := by
                have h2 := Hxb.out
                have h4 : wr.heap.size < WA.heap.size := by rw [HWA.out]; simp
                omega
              have hgl5 : gb < WA.heap.size := by omega
              have hwr : IntKind.i64.wrap ((dp : Int) + 1) = (dp : Int) + 1 := IntWalk.i64_in _ (by omega)
              go_region_held3 (fun w' => w'.cell? ⟨db, 0, none⟩ = some (.func (.func 28) #[] #[.pointer (some ⟨n0, 0, none⟩), .pointer (some ⟨vb, 0, none⟩), .pointer (some ⟨ob, 0, none⟩), .pointer (some ⟨db, 0, none⟩)]) ∧ w'.cell? ⟨xb, 0, none⟩ = some (.int .i64 xc) ∧ w'.cell? ⟨xb, 1, none⟩ = some (.int .i64 xw) ∧ w'.cell? ⟨gb, goff + k, none⟩ = some (.string g))
                (first | exact ⟨hdv, x0, x1, gcA⟩ | exact ⟨hst7.dv, (World.cell?_of_block (ht7.block xb hxl hnx)).trans x0, (World.cell?_of_block (ht7.block xb hxl hnx)).trans x1, (World.cell?_of_block (ht7.block gb hgl5 hng)).trans gcA⟩)
                ((go_at_call 28; refine HI.out.mono ?_; rintro e w5 ⟨rfl, v7, hst7, hout7, hv7, ht7⟩))
              clear hnx hng hxl hgl5 hdv x0 x1 x2 gcA hwr
              all_goals
                have ht7' : Turned (SV mb ob v2) WA.heap.size WA w5 := (show Turned (SV mb ob v2) WA.heap.size WA WA.drew from Turned.of_below (belowDrew (Below.refl WA.heap.size WA) 1) (Nat.le_refl _)).trans ht7
                have htr7 : Turned (SV mb ob v) w3.heap.size w3 w5 := htrA.trans (ht7'.mono (by omega) (fun j hj hs => by
                  rcases hs with e | e | e
                  · exact .inl e
                  · exact .inr (.inl e)
                  · rcases HV.out j e with e2 | e2
                    · exact .inr (.inr e2)
                    · omega))
                have HV7 := Lib.hid (show ∀ j, v7.ownBlock = some j → v.ownBlock = some j ∨ w3.heap.size ≤ j from fun j hj => by
                  rcases hv7 j hj with e | e
                  · exact HV.out j e
                  · have e2 : WA.heap.size ≤ j := e
                    exact .inr (by omega))
                obtain ⟨r, hr⟩ : ∃ r, downV nodes f xc xw (ahead ++ g ++ ⟨#[47]⟩) o' = r := ⟨_, rfl⟩
                rw [hr] at hst7 hout7 ⊢
                obtain ⟨ro, re⟩ := r
                dsimp only at hst7 hout7
                have Hr := Lib.hid (show downV nodes f xc xw (ahead ++ g ++ slashB) o' = (ro, re) from hr)
                clear hr HI ht7 ht7' hv7
                by_cases hre : re = 0
                · subst hre
                  have HO2 := Lib.hid (show OutOK nodes ro ∧ subV (downV nodes f) ahead (given nodes c q) o = subV (downV nodes f) ahead ((given nodes c q).drop (k + 1)) ro from ⟨hout7, by
                    rw [HO.out.2, Hz.out]
                    conv => lhs; unfold subV
                    rw [if_pos rfl]
                    dsimp only
                    rw [Hr.out, if_pos rfl]⟩)
                  go_wp2_with fail
                  go_roundw
                  case rel => exact ⟨k + 1, ro, v7, by omega, by go_num, hst7, HO2, HV7, htr7⟩
                  case measure => simp [RowKit.intOf]; omega
                · have hq7 : (re != 0) = true := bne_iff_ne.2 hre
                  have HD2 := Lib.hid (show downV nodes (f + 1) c q ahead out = (ro, re) by
                    rw [HD3.out, HO.out.2, Hz.out]
                    conv => lhs; unfold subV
                    rw [if_pos rfl]
                    dsimp only
                    rw [Hr.out, if_neg hre])
                  go_wp2_with fail
                  go_ret
                  unfold DownP
                  rw [HD2.out]
                  exact ⟨rfl, v7, hst7, hout7, fun j hj => (HV7.out j hj).imp id (fun h => Nat.le_trans (by omega) h), ((Turned.of_below hb13 (Nat.le_refl _) : Turned (SV mb ob v) W.heap.size W w3).trans (htr7.mono (by omega) (fun _ _ h => h)))⟩
          · obtain rfl : k = il.length := by omega
            have HD2 := Lib.hid (show downV nodes (f + 1) c q ahead out = (o', 0) by
              rw [HD3.out, HO.out.2, ← hLl, List.drop_length]
              rfl)
            go_wp2_with fail
            go_ret
            unfold DownP
            rw [HD2.out]
            exact ⟨rfl, v2, hstr, HO.out.1, fun j hj => (HV.out j hj).imp id (fun h => Nat.le_trans (by omega) h), ((Turned.of_below hb13 (Nat.le_refl _) : Turned (SV mb ob v) W.heap.size W w3).trans (htr.mono (by omega) (fun _ _ h => h)))⟩
  · have hq0 : (un != 0) = true := bne_iff_ne.2 hu0
    have HD := Lib.hid (show downV nodes (f + 1) c q ahead out = (out, un) by
      unfold downV
      rw [Hil.out, Hun.out, if_pos hu0])
    go_wp2_with fail
    go_ret
    unfold DownP
    rw [HD.out]
    exact ⟨rfl, v, hst3, hout, fun j h => .inl h, Turned.of_below hb13 (Nat.le_refl _)⟩
end
end Go.Proofs.YtfbdbjookkogjaaDoor
