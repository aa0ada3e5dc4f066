/-
  The closure that goes down a tree (view.View$1).
-/
import Derived.Test.YtfbdbjookkogjaaDoorViewW2
import Derived.Test.YtfbdbjookkogjaaDoorTurned
import Derived.Deep.CutRange
import Derived.Test.YtfbdbjookkogjaaDoorDrawn
import Derived.RegionTactic
namespace Go.Proofs.YtfbdbjookkogjaaDoor
open Go Go.RowKit Go.Lib

/-! ### the state -/
def idOK (a b : Int) : Prop := (-9223372036854775808 ≤ a ∧ a ≤ 9223372036854775807) ∧ -9223372036854775808 ≤ b ∧ b ≤ 9223372036854775807
structure NdsOK (l : List Nd) : Prop where
  len : l.length ≤ 1000
  id : ∀ n ∈ l, idOK n.cnt n.who
  name : ∀ n ∈ l, n.name.size ≤ 140737488351232
def OutOK (nodes : List Nd) (out : List Itm) : Prop := (∀ x ∈ out, ∃ n ∈ nodes, n.cnt = x.cnt ∧ n.who = x.who) ∧ out.Pairwise fun x y => ¬ (x.cnt = y.cnt ∧ x.who = y.who)
theorem out_len {nodes : List Nd} {out : List Itm} (h : OutOK nodes out) : out.length ≤ nodes.length := by
  have h1 : (out.map fun x => (x.cnt, x.who)).Nodup := List.pairwise_map.2 (h.2.imp fun hn e => hn (Prod.mk.inj e))
  have h2 := length_le_of_sub (out.map fun x => (x.cnt, x.who)) (nodes.map fun n => (n.cnt, n.who)) h1 fun p hp => by
    obtain ⟨x, hx, rfl⟩ := List.mem_map.1 hp
    obtain ⟨n, hn, e1, e2⟩ := h.1 x hx
    exact List.mem_map.2 ⟨n, hn, by rw [e1, e2]⟩
  rwa [List.length_map, List.length_map] at h2
theorem hasI_no {out : List Itm} {c w : Int} (h : hasI out c w = false) : ∀ x ∈ out, ¬ (x.cnt = c ∧ x.who = w) := fun x hx e => by
  unfold hasI at h
  have : (out.any fun x => decide (x.cnt = c ∧ x.who = w)) = true := List.any_eq_true.2 ⟨x, hx, decide_eq_true e⟩
  rw [h] at this
  cases this
theorem OutOK.add {nodes : List Nd} {out : List Itm} (h : OutOK nodes out) {n : Nd} (hn : n ∈ nodes) (hh : hasI out n.cnt n.who = false) (a g : ByteArray) : OutOK nodes (out ++ [itmOf a g n]) := by
  refine ⟨fun x hx => ?_, ?_⟩
  · rcases List.mem_append.1 hx with hx | hx
    · exact h.1 x hx
    · rw [List.mem_singleton.1 hx]
      exact ⟨n, hn, rfl, rfl⟩
  · rw [List.pairwise_append]
    refine ⟨h.2, List.pairwise_singleton _ _, fun x hx y hy => ?_⟩
    rw [List.mem_singleton.1 hy]
    exact hasI_no hh x hx
def yesG (out : List Itm) : Pr → Option Value := fun p => if hasI out p.1.1 p.1.2 then some (.bool true) else none
theorem yesG_get (out : List Itm) (p : Pr) : (yesG out p).getD (.bool false) = .bool (hasI out p.1.1 p.1.2) := by
  unfold yesG
  cases hasI out p.1.1 p.1.2 <;> rfl
theorem yesG_put (out : List Itm) (a g : ByteArray) (n : Nd) (h : idOK n.cnt n.who) : yesG (out ++ [itmOf a g n]) = putAt (yesG out) (prOf n.cnt n.who h) (.bool true) := by
  funext p
  unfold yesG putAt hasI
  rw [List.any_append]
  by_cases e : p = prOf n.cnt n.who h
  · subst e
    rw [if_pos rfl]
    simp [prOf, itmOf]
  · rw [if_neg e]
    have : ¬ (n.cnt = p.1.1 ∧ n.who = p.1.2) := fun h2 => e (Subtype.ext (Prod.ext h2.1.symm h2.2.symm))
    simp [itmOf, this]
def SV (mb ob : Nat) (v : Value) : Nat → Prop := fun j => j = mb ∨ j = ob ∨ v.ownBlock = some j
def downF (n0 vb ob db : Nat) : Value := .func (.func 28) #[] #[.pointer (some ⟨n0, 0, none⟩), .pointer (some ⟨vb, 0, none⟩), .pointer (some ⟨ob, 0, none⟩), .pointer (some ⟨db, 0, none⟩)]
structure VSt (wE : World) (n0 mb vb ob db B : Nat) (av : Option Addr) (cv : Nat) (nodes : List Nd) (w : World) (out : List Itm) (v : Value) : Prop where
  bel : Below n0 wE w
  nv : w.cell? ⟨n0, 0, none⟩ = some (.slice av nodes.length cv)
  mv : w.cell? ⟨vb, 0, none⟩ = some (.map (some mb))
  mp : ∃ n, MapOf Pr.val w mb n (yesG out)
  ov : VarAt w ob [v]
  dv : w.cell? ⟨db, 0, none⟩ = some (downF n0 vb ob db)
  rows : OwnRows itmLay w B 34 v out
  sz : B ≤ w.heap.size
structure BlkOK (n0 mb vb ob db B : Nat) : Prop where
  h1 : n0 < mb
  h2 : mb < vb
  h3 : vb < ob
  h4 : ob < db
  h5 : db < B
theorem VSt.below {wE : World} {n0 mb vb ob db B : Nat} {av : Option Addr} {cv : Nat} {nodes : List Nd} {w w' : World} {out : List Itm} {v : Value} (h : VSt wE n0 mb vb ob db B av cv nodes w out v) (hk : BlkOK n0 mb vb ob db B) (hb : Below w.heap.size w w') : VSt wE n0 mb vb ob db B av cv nodes w' out v := by
  obtain ⟨k1, k2, k3, k4, k5⟩ := hk
  have hz := h.sz
  obtain ⟨n, hm⟩ := h.mp
  exact ⟨h.bel.trans (hb.mono (by omega)), (hb.cell (p := ⟨n0, 0, none⟩) (by show n0 < _; omega)).trans h.nv, (hb.cell (p := ⟨vb, 0, none⟩) (by show vb < _; omega)).trans h.mv, ⟨n, hm.below hb hm.lt⟩, h.ov.keeps hb h.ov.1, (hb.cell (p := ⟨db, 0, none⟩) (by show db < _; omega)).trans h.dv, h.rows.below hb, Nat.le_trans hz hb.size⟩
/-- What a call of it is answered, and what it leaves. -/
def DownP (wE : World) (n0 mb vb ob db B : Nat) (av : Option Addr) (cv : Nat) (nodes : List Nd) (W : World) (v : Value) (r : List Itm × Int) : Ending → World → Prop := fun e w' => e = .returned (.int .i64 r.2) ∧ ∃ v', VSt wE n0 mb vb ob db B av cv nodes w' r.1 v' ∧ OutOK nodes r.1 ∧ (∀ j, v'.ownBlock = some j → v.ownBlock = some j ∨ W.heap.size ≤ j) ∧ Turned (SV mb ob v) W.heap.size W w'
theorem given_len (nodes : List Nd) (c q : Int) (h : uniqueN ((childF nodes c q).map (·.name)) = 0) : (uniqueL ((childF nodes c q).map (·.name))).length = (childF nodes c q).length ∧ ∀ s ∈ uniqueL ((childF nodes c q).map (·.name)), s.size ≤ 24 := by
  generalize (childF nodes c q) = l at *
  have hl : ¬ 1000 < (l.map (·.name)).length := fun hl => by
    rw [(unique_big hl).1] at h
    cases h
  cases hr : allRight (l.map (·.name)) with
  | false =>
    rw [(unique_wrong hl hr).1] at h
    cases h
  | true =>
    rw [(unique_right hl hr).2]
    refine ⟨by rw [outU_length, List.length_map], fun s hs => ?_⟩
    obtain ⟨h1, _⟩ := outU_facts (l.map (·.name)) hr (by omega) _ (Nat.le_refl _)
    have := (rightL_parts (h1 s hs).1).2.1
    rw [size_eq]
    exact this
theorem zip_at {nodes : List Nd} {c q : Int} {k : Nat} {n : Nd} {g : ByteArray} (hn : (childF nodes c q)[k]? = some n) (hg : (uniqueL ((childF nodes c q).map (·.name)))[k]? = some g) : (given nodes c q).drop k = (n, g) :: (given nodes c q).drop (k + 1) := by
  have h1 : (given nodes c q)[k]? = some (n, g) := by
    unfold given
    rw [List.getElem?_zip_eq_some]
    exact ⟨hn, hg⟩
  obtain ⟨h2, h3⟩ := List.getElem?_eq_some_iff.1 h1
  rw [List.drop_eq_getElem_cons h2, h3]
theorem own_low9 {α : Type} {L : Lay α} {w : World} {base : Nat} {e : TypeId} {v : Value} {xs : List α} (h : OwnRows L w base e v xs) : ∃ a cap, v = .slice a xs.length cap ∧ RowsAt L w a xs ∧ xs.length ≤ cap ∧ ∀ ad, a = some ad → base ≤ ad.block ∧ ad.block < w.heap.size := by
  obtain ⟨a, cap, rfl, h1, h2⟩ := h.read
  refine ⟨a, cap, rfl, h1, h2, fun ad e => ?_⟩
  subst e
  rcases h.2 with ⟨h3, _⟩ | ⟨g, cap', cur, h3, hg, hgg, _⟩
  · cases h3
  · cases h3
    exact ⟨hg, (Array.getElem?_eq_some_iff.1 hgg).1⟩
section
variable {wE : World} {n0 mb vb ob db B : Nat} {av : Option Addr} {cv : Nat} {nodes : List Nd}
set_option maxRecDepth 100000 in
set_option maxHeartbeats 6400000 in
theorem down_zero (hk : BlkOK n0 mb vb ob db B) (hn0 : n0 = wE.heap.size) (hT : Tab wE) (hr : RowsAt ndLay wE av nodes) (hok : NdsOK nodes) (c q : Int) (ahead : ByteArray) (out : List Itm) (v : Value) (W : World) (hst : VSt wE n0 mb vb ob db B av cv nodes W out v) (hout : OutOK nodes out) :
    Calls Tryd.prog 28 #[.agg #[.int .i64 c, .int .i64 q], .string ahead, .int .i64 16, .pointer (some ⟨n0, 0, none⟩), .pointer (some ⟨vb, 0, none⟩), .pointer (some ⟨ob, 0, none⟩), .pointer (some ⟨db, 0, none⟩)] W (DownP wE n0 mb vb ob db B av cv nodes W v (downV nodes 0 c q ahead out)) := by
  obtain ⟨k1, k2, k3, k4, k5⟩ := hk
  have hk : BlkOK n0 mb vb ob db B := ⟨k1, k2, k3, k4, k5⟩
  have HK := Lib.hid hk
  have HR := Lib.hid fun W (h : Below n0 wE W) => (show RowsAt ndLay W av nodes from hr.keeps (by rw [← hn0]; exact h))
  have HTab := Lib.hid fun W (h : Below n0 wE W) => (show Tab W from tab_keeps hT (by rw [← hn0]; exact h))
  have hvB : ∀ j, v.ownBlock = some j → B ≤ j ∧ j < W.heap.size := fun j hj => hst.rows.lt hj
  have HvB := Lib.hid hvB
  have hWB := hst.sz
  have hal := (Below.refl W.heap.size W).alloc (Nat.le_refl _) (.cells #[.int .i64 c, .int .i64 q] 32)
  have hst1 := hst.below hk hal
  have hV1 := VarAt.new W #[.int .i64 c, .int .i64 q] 32
  obtain ⟨sb, hsb⟩ : ∃ sb, sb = W.heap.size := ⟨_, rfl⟩
  rw [← hsb] at hV1
  have hz1 : W.heap.size ≤ (W.alloc (.cells #[.int .i64 c, .int .i64 q] 32)).heap.size := hal.size
  have Hsb := Lib.hid hsb
  have hlen := hok.len
  have Hok := Lib.hid hok
  have hnv := hst1.nv
  have s0 := hV1.2.2 0 _ rfl
  have s1 := hV1.2.2 1 _ rfl
  clear hk hr hT hvB hsb hok hn0
  go_enter Tryd.func28, Tryd.ntmps28
  go_upto_region 1 with fail
  rw [← Hsb.out]
  generalize W.alloc (.cells #[.int .i64 c, .int .i64 q] 32) = W1 at *
  have HC := Lib.hid (children_any av cv nodes c q W1 hlen (HR.out _ hst1.bel))
  go_wp2_with fail
  refine HC.out.mono ?_
  rintro e w2 ⟨vi, rfl, hoi, hb2⟩
  obtain ⟨ai, ci, rfl, hri, hci, hli⟩ := own_low9 hoi
  have hst2 := hst1.below HK.out hb2
  obtain ⟨il, hil⟩ : ∃ il, childF nodes c q = il := ⟨_, rfl⟩
  rw [hil] at hri hci ⊢
  have hill : il.length ≤ nodes.length := by rw [← hil]; exact List.length_filter_le _ _
  have hilm : ∀ x ∈ il, x ∈ nodes := fun x hx => by rw [← hil] at hx; exact (List.mem_filter.1 hx).1
  have Hil := Lib.hid hil
  have Hilm := Lib.hid hilm
  have HN := Lib.hid (named_any ai ci il w2 (by omega) (fun x hx => Hok.out.name x (hilm x hx)) hri (HTab.out _ hst2.bel))
  clear HC hoi hst1 hil hilm s0 s1 hnv
  go_wp2_with fail
  refine HN.out.mono ?_
  rintro e w3 ⟨vg, cg, rfl, hsg, hb3, hlg⟩
  have hst3 := hst2.below HK.out hb3
  have hri3 := hri.keeps hb3
  have hb13 := hal.trans ((hb2.trans (hb3.mono hb2.size)).mono hz1)
  have hb3z := hb3.size
  have hb2z := hb2.size
  obtain ⟨ul, hul⟩ : ∃ ul, uniqueL (il.map (·.name)) = ul := ⟨_, rfl⟩
  obtain ⟨un, hun⟩ : ∃ un, uniqueN (il.map (·.name)) = un := ⟨_, rfl⟩
  rw [hul] at hsg ⊢
  rw [hun]
  have Hul := Lib.hid hul
  have Hun := Lib.hid hun
  clear HN hul hun hri hst2
  by_cases hu0 : un = 0
  · subst hu0
    obtain ⟨hul1, hul2⟩ := given_len nodes c q (by rw [Hil.out]; exact Hun.out)
    rw [Hil.out, Hul.out] at hul1 hul2
    have Hul2 := Lib.hid hul2
    clear hul2
    have HD := Lib.hid (show downV nodes 0 c q ahead out = addV ahead true (given nodes c q) out by
      unfold downV
      rw [Hil.out, Hun.out, if_neg (by simp)])
    clear hst
    go_wp2_with fail
    go_loopw [32] (fun i wr => i = .int .i64 0 ∧ wr = w3) (fun _ _ => 0)
    case atStart => exact ⟨rfl, rfl⟩
    case round =>
      obtain ⟨rfl, hwr⟩ := hrel
      rw [← hwr] at hst3 hri3 hb13 hb3z hsg
      by_cases hne : 0 < il.length
      · obtain ⟨n, hn⟩ := at_some hne
        obtain ⟨g, hg⟩ := at_some (show 0 < ul.length by omega)
        have HD2 := Lib.hid (show downV nodes 0 c q ahead out = (out, 40) by
          rw [HD.out]
          have hz := zip_at (nodes := nodes) (c := c) (q := q) (k := 0) (n := n) (g := g) (by rw [Hil.out]; exact hn) (by rw [Hil.out, Hul.out]; exact hg)
          rw [List.drop_zero] at hz
          rw [hz]
          unfold addV
          rw [Bool.or_true, if_pos rfl])
        have hlti : (0 : Int) < (il.length : Int) := by omega
        obtain ⟨b, off, hae, hbl, c0, c1, c2, c3, c4, c5, c6⟩ := nd_at hri3 hn
        subst hae
        have hid := Hok.out.id n (Hilm.out n (List.mem_of_getElem? hn))
        have hnm := Hilm.out n (List.mem_of_getElem? hn)
        obtain ⟨xc, xw, xd, xp, xq, xn, xm⟩ := n
        dsimp only at c0 c1 c2 c3 c4 c5 c6 hid
        have hA := (Below.refl wr.heap.size wr).alloc (Nat.le_refl _) (.cells #[.int .i64 xc, .int .i64 xw, .bool xd, .int .i64 xp, .int .i64 xq, .string xn, .string xm] 46)
        have hstA := hst3.below HK.out hA
        have hmvA := hstA.mv
        have hlk0 : ∀ b, hasI out xc xw = b → (Instr.lookup 61 (.map (some mb)) (.agg #[.int .i64 xc, .int .i64 xw]) false).run Tryd.prog (wr.alloc (.cells #[.int .i64 xc, .int .i64 xw, .bool xd, .int .i64 xp, .int .i64 xq, .string xn, .string xm] 46)) = .ok (.bool b) (wr.alloc (.cells #[.int .i64 xc, .int .i64 xw, .bool xd, .int .i64 xp, .int .i64 xq, .string xn, .string xm] 46)) := fun b hb => by
          obtain ⟨nn, hm⟩ := hstA.mp
          have h1 := hm.lookup stpK Tryd.underlying61 (prOf xc xw hid) (zeroBool _)
          rw [yesG_get] at h1
          rw [← hb]
          exact h1
        simp only [Nat.zero_mul, Nat.add_zero] at c0 c1 c2 c3 c4 c5 c6
        clear hg hn hwr
        cases hh : hasI out xc xw with
        | true =>
          have hlk := hlk0 true hh
          clear hh hlk0
          go_wp2_with fail
          go_ret
          unfold DownP
          rw [HD2.out]
          exact ⟨rfl, v, hstA, hout, fun j h => .inl h, Turned.of_below (hb13.trans (hA.mono (by omega))) (Nat.le_refl _)⟩
        | false =>
          have hlk := hlk0 false hh
          clear hh hlk0
          go_wp2_with fail
          go_ret
          unfold DownP
          rw [HD2.out]
          exact ⟨rfl, v, hstA, hout, fun j h => .inl h, Turned.of_below (hb13.trans (hA.mono (by omega))) (Nat.le_refl _)⟩
      · have hl0 : il = [] := List.length_eq_zero_iff.1 (by omega)
        have HD2 := Lib.hid (show downV nodes 0 c q ahead out = (out, 0) by
          rw [HD.out]
          unfold given
          rw [Hil.out, hl0]
          rfl)
        have hlz : (il.length : Int) = 0 := by omega
        have hln : ¬ (0 : Int) < (il.length : Int) := by omega
        clear hl0 hwr
        go_wp2_with fail
        go_loopw [67] (fun i wr' => i = .int .i64 0 ∧ wr' = wr) (fun _ _ => 0)
        case atStart => exact ⟨rfl, rfl⟩
        case round =>
          obtain ⟨rfl, hwr⟩ := hrel
          rw [hwr]
          clear hwr
          go_wp2_with fail
          go_ret
          unfold DownP
          rw [HD2.out]
          exact ⟨rfl, v, hst3, hout, fun j h => .inl h, Turned.of_below hb13 (Nat.le_refl _)⟩
  · have hq0 : (un != 0) = true := bne_iff_ne.2 hu0
    have HD := Lib.hid (show downV nodes 0 c q ahead out = (out, un) by
      unfold downV
      rw [Hil.out, Hun.out, if_pos hu0])
    go_wp2_with fail
    go_ret
    unfold DownP
    rw [HD.out]
    exact ⟨rfl, v, hst3, hout, fun j h => .inl h, Turned.of_below hb13 (Nat.le_refl _)⟩
end
end Go.Proofs.YtfbdbjookkogjaaDoor
