/-
  oplog.grown. Operations and pieces that last: what grown's records are replayed as.
-/
import Derived.Test.YtgglheelhbfgiaaGreatDoorMg24
import Derived.Test.YtgglheelhbfgiaaGreatDoorMg14
import Derived.Test.YtgglheelhbfgiaaGreatDoorMg9
namespace Go.Proofs.YtgglheelhbfgiaaGreatDoor
open Go Go.RowKit Go.Lib
/-- Within grown: the state's copy, the records, the result's cells. -/
structure GIn (w wr : World) (sb tb : Nat) (a0 a : Option Addr) (vp rv : Value) (s : StO) (rec : List ByteArray) : Prop where
  st : StAt wr sb w.heap.size [] a vp s
  recs : OwnRows strLay wr w.heap.size 9 rv rec
  res : VarAt wr tb [.slice none 0 0, .slice none 0 0]
  below : Below w.heap.size w wr
  ra : a = a0 ∨ ∀ ad, a = some ad → w.heap.size ≤ ad.block
  tsb : tb ≠ sb
  tvp : vp.ownBlock ≠ some tb
  ta : ∀ ad, a = some ad → ad.block ≠ tb
  rsb : rv.ownBlock ≠ some sb
  rtb : rv.ownBlock ≠ some tb
  rvp : ∀ j, rv.ownBlock = some j → vp.ownBlock ≠ some j
  rva : ∀ ad, a = some ad → rv.ownBlock ≠ some ad.block
  sbo : w.heap.size ≤ sb
  tbo : w.heap.size ≤ tb
theorem GIn.keeps {w wr w2 : World} {sb tb : Nat} {a0 a : Option Addr} {vp rv : Value} {s : StO} {rec : List ByteArray} (h : GIn w wr sb tb a0 a vp rv s rec) (hb : Below wr.heap.size wr w2) : GIn w w2 sb tb a0 a vp rv s rec :=
  { h with st := h.st.below hb, recs := h.recs.turnedOther (T := fun _ => False) (Turned.of_below hb (Nat.le_refl _)) (fun _ _ h => h), res := h.res.keeps hb h.res.1, below := h.below.trans (hb.mono h.below.size) }
theorem GIn.go {w wr w2 : World} {sb tb : Nat} {a0 a : Option Addr} {vp rv : Value} {s s2 : StO} {rec : List ByteArray} (h : GIn w wr sb tb a0 a vp rv s rec) (hg : StGo wr sb w.heap.size [] a vp s2 w2) : ∃ a2 vp2, GIn w w2 sb tb a0 a2 vp2 rv s2 rec := by
  obtain ⟨a2, vp2, g1, g2, g3, g4⟩ := hg
  have hz := h.below.size
  have hrl : ∀ j, rv.ownBlock = some j → j < wr.heap.size := fun j e => (h.recs.lt e).2
  refine ⟨a2, vp2, g1, h.recs.turnedOther g4 fun k hk ht => ?_, h.res.same (g4.block tb h.res.1 fun ht => ?_) g4.size, ?_, ?_, h.tsb, ?_, ?_, h.rsb, h.rtb, ?_, ?_, h.sbo, h.tbo⟩
  · rcases ht with ht | ht
    · exact h.rsb (by rw [hk, ht])
    · exact h.rvp k hk ht
  · rcases ht with ht | ht
    · exact h.tsb ht
    · exact h.tvp ht
  · refine h.below.trans (g4.below hz fun k hk ht => ?_)
    rcases ht with ht | ht
    · have := h.sbo
      omega
    · have := (h.st.pcs.lt ht).1
      omega
  · rcases g2 with e | e
    · rw [e]
      exact h.ra
    · exact .inr fun ad ea => Nat.le_trans hz (e ad ea)
  · intro e
    rcases g3 with g | g
    · exact h.tvp (g.symm.trans e)
    · have := g _ e
      have := h.res.1
      omega
  · intro ad e
    rcases g2 with g | g
    · exact h.ta ad (g.symm.trans e)
    · have := g ad e
      have := h.res.1
      omega
  · intro j ej e
    rcases g3 with g | g
    · exact h.rvp j ej (g.symm.trans e)
    · have := g _ e
      have := hrl j ej
      omega
  · intro ad ea e
    rcases g2 with g | g
    · exact h.rva ad (g.symm.trans ea) e
    · have := g _ ea
      have := hrl _ e
      omega
theorem GIn.grow {w wr w2 w3 : World} {sb tb : Nat} {a0 a : Option Addr} {vp rv rv2 : Value} {s : StO} {rec rec2 : List ByteArray} (h : GIn w wr sb tb a0 a vp rv s rec) (hb : Below wr.heap.size wr w2) (hg : w2.grownBy w3 rv.ownBlock) (hr : OwnRows strLay w3 w.heap.size 9 rv2 rec2) (hv : rv2.ownBlock = rv.ownBlock ∨ rv2.ownBlock = some w2.heap.size) : GIn w w3 sb tb a0 a vp rv2 s rec2 := by
  have hT : Turned (fun k => rv.ownBlock = some k) wr.heap.size wr w3 := (Turned.of_below hb (Nat.le_refl _)).trans (Turned.of_grown hg hb.size fun k e _ => e)
  have hn : ∀ j, rv2.ownBlock = some j → rv.ownBlock = some j ∨ wr.heap.size ≤ j := fun j e => by
    rcases hv with g | g
    · exact .inl (g.symm.trans e)
    · rw [g] at e
      cases e
      exact .inr hb.size
  refine ⟨h.st.foreign hT fun k hk => ⟨fun e => h.rsb (by rw [hk, e]), h.rvp k hk, fun ad ea e => h.rva ad ea (by rw [hk, e])⟩, hr, h.res.same (hT.block tb h.res.1 fun ht => h.rtb ht) hT.size, h.below.trans (hT.below h.below.size fun k hk e => ?_), h.ra, h.tsb, h.tvp, h.ta, fun e => ?_, fun e => ?_, fun j e e2 => ?_, fun ad ea e => ?_, h.sbo, h.tbo⟩
  · have := (h.recs.lt e).1
    omega
  · rcases hn _ e with g | g
    · exact h.rsb g
    · obtain ⟨_, hc, _⟩ := h.st.cells
      have := hc.1
      omega
  · rcases hn _ e with g | g
    · exact h.rtb g
    · have := h.res.1
      omega
  · rcases hn _ e with g | g
    · exact h.rvp j g e2
    · have := (h.st.pcs.lt e2).2
      omega
  · rcases hn _ e with g | g
    · exact h.rva ad ea g
    · have := h.st.alt ad ea
      omega
/-- Behind grown. -/
def GrownIs (w : World) (a0 : Option Addr) (G : (StO × List ByteArray) × Int) (e : Ending) (w' : World) : Prop :=
  ∃ a' cap' vp' rv, e = .returned (.tuple #[.agg #[.slice a' G.1.1.ops.length cap', vp'], rv, .int .i64 G.2]) ∧ Below w.heap.size w w' ∧ OpsAt w' a' cap' G.1.1.ops ∧ OwnRows strLay w' w.heap.size 9 vp' G.1.1.pcs ∧ OwnRows strLay w' w.heap.size 9 rv G.1.2 ∧ (a' = a0 ∨ ∀ ad, a' = some ad → w.heap.size ≤ ad.block) ∧ (∀ ad, a' = some ad → ad.block < w'.heap.size ∧ vp'.ownBlock ≠ some ad.block)
theorem GrownIs.bad {w w' : World} {a0 : Option Addr} {n : Int} (hb : Below w.heap.size w w') : GrownIs w a0 ((noSt, []), n) (.returned (.tuple #[.agg #[.slice none 0 0, .slice none 0 0], .slice none 0 0, .int .i64 n])) w' :=
  ⟨none, 0, .slice none 0 0, .slice none 0 0, rfl, hb, ⟨RowsAt.nil _ _ _, fun _ => rfl, Nat.le_refl _⟩, OwnRows.nil _ _ _ _, OwnRows.nil _ _ _ _, .inr fun _ e => (by cases e), fun _ e => (by cases e)⟩
theorem grown_bad {s : StO} {ps : List ByteArray} {xs : List Opr} (h : growP s.pcs [] ps = none) : grownS s ps xs = ((noSt, []), 1) := by
  unfold grownS
  rw [h]
theorem grown_good {s : StO} {ps : List ByteArray} {xs : List Opr} {pcs rec : List ByteArray} (h : growP s.pcs [] ps = some (pcs, rec)) : grownS s ps xs = if (growO s.ops rec xs).2 ≠ 0 then ((noSt, []), (growO s.ops rec xs).2) else ((⟨(growO s.ops rec xs).1.1, pcs⟩, (growO s.ops rec xs).1.2), 0) := by
  unfold grownS
  rw [h]
theorem growP_bad {pcs rec : List ByteArray} {p : ByteArray} {ps : List ByteArray} (h : rightP p = false) : growP pcs rec (p :: ps) = none := if_pos h
theorem growP_put {pcs rec : List ByteArray} {p : ByteArray} {ps : List ByteArray} (h : rightP p = true) (hp : p ∉ pcs) : growP pcs rec (p :: ps) = growP (pcs ++ [p]) (rec ++ [⟨#[112]⟩ ++ p]) ps := by
  show (if rightP p = false then none else if p ∈ pcs then growP pcs rec ps else growP (pcs ++ [p]) (rec ++ [⟨#[112]⟩ ++ p]) ps) = _
  rw [if_neg (by rw [h]; decide), if_neg hp]
theorem growP_had {pcs rec : List ByteArray} {p : ByteArray} {ps : List ByteArray} (h : rightP p = true) (hp : p ∈ pcs) : growP pcs rec (p :: ps) = growP pcs rec ps := by
  show (if rightP p = false then none else if p ∈ pcs then growP pcs rec ps else growP (pcs ++ [p]) (rec ++ [⟨#[112]⟩ ++ p]) ps) = _
  rw [if_neg (by rw [h]; decide), if_pos hp]
theorem growO_bad {l : List Opr} {rec : List ByteArray} {x : Opr} {xs : List Opr} (h : (addO l x).2 ≠ 0) : growO l rec (x :: xs) = (([], []), (addO l x).2) := if_pos h
theorem growO_had {l : List Opr} {rec : List ByteArray} {x : Opr} {xs : List Opr} (h : (addO l x).2 = 0) (hl : (addO l x).1.length = l.length) : growO l rec (x :: xs) = growO (addO l x).1 rec xs :=
  (if_neg (fun e => e h)).trans (if_pos hl)
theorem growO_wrong {l : List Opr} {rec : List ByteArray} {x : Opr} {xs : List Opr} (h : (addO l x).2 = 0) (hl : (addO l x).1.length ≠ l.length) (hr : rightO x ≠ 0) : growO l rec (x :: xs) = (([], []), rightO x) :=
  (if_neg (fun e => e h)).trans ((if_neg hl).trans (if_pos hr))
theorem growO_new {l : List Opr} {rec : List ByteArray} {x : Opr} {xs : List Opr} (h : (addO l x).2 = 0) (hl : (addO l x).1.length ≠ l.length) (hr : rightO x = 0) : growO l rec (x :: xs) = growO (addO l x).1 (rec ++ [ByteArray.mk #[111] ++ encB x]) xs :=
  (if_neg (fun e => e h)).trans ((if_neg hl).trans (if_neg (fun e => e hr)))
theorem encB_size (x : Opr) (hn : x.name.size ≤ 100000) (hm : x.man.size ≤ 100000) : (encB x).size ≤ 99 + x.name.size + x.man.size := by
  unfold encB
  split
  · have h1 := flatN_len (numsO x)
    have h2 : (numsO x).length = 9 := rfl
    have h3 := textL_len x.name hn
    have h4 := textL_len x.man hm
    simp only [size_eq] at h3 h4 ⊢
    have h5 : (encL x).length = (flatN (numsO x)).length + (textL x.name.data.toList).length + (textL x.man.data.toList).length := by
      simp only [encL, List.length_append]
    rw [h5]
    omega
  · exact Nat.zero_le _
theorem res_set {wr : World} {tb : Nat} {x y : Value} (v0 v1 : Value) (h : VarAt wr tb [x, y]) : VarAt ((wr.setCell ⟨tb, 0, none⟩ v0).setCell ⟨tb, 1, none⟩ v1) tb [v0, v1] := by
  simpa using (h.set 0 v0 (by simp)).set 1 v1 (by simp)
set_option maxRecDepth 100000 in
set_option maxHeartbeats 6400000 in
theorem grown_any (a : Option Addr) (cap : Nat) (va : Option Addr) (vc : Nat) (s : StO) (pa : Option Addr) (pc : Nat) (ps : List ByteArray) (xa : Option Addr) (xc : Nat) (xs : List Opr) (w : World) (ho : OpsAt w a cap s.ops) (hp : RowsAt strLay w va s.pcs) (halt : ∀ ad, a = some ad → ad.block < w.heap.size) (hps : RowsAt strLay w pa ps) (hxs : RowsAt oprLay w xa xs)
    (hlo : s.ops.length + xs.length ≤ 10000) (hlp : s.pcs.length + ps.length ≤ 1000000) (hpz : ∀ p ∈ ps, p.size ≤ 100000) (hxz : ∀ x ∈ xs, x.name.size ≤ 100000 ∧ x.man.size ≤ 100000) :
    Calls Tryz.prog 77 #[.agg #[.slice a s.ops.length cap, .slice va s.pcs.length vc], .slice pa ps.length pc, .slice xa xs.length xc] w fun e w' => GrownIs w a (grownS s ps xs) e w' := by
  have HCl := Lib.hid fun W (h : RowsAt strLay W va s.pcs) => sclone_any va vc s.pcs W h (by omega)
  have hb1 : Below w.heap.size w (w.alloc (.cells #[.slice a s.ops.length cap, .slice va s.pcs.length vc] 128)) := (Below.refl _ _).alloc (Nat.le_refl _) _
  have hb2 : Below w.heap.size w ((w.alloc (.cells #[.slice a s.ops.length cap, .slice va s.pcs.length vc] 128)).alloc (.cells #[.slice none 0 0, .slice none 0 0] 128)) := hb1.alloc hb1.size _
  have hb12 : Below (w.alloc (.cells #[.slice a s.ops.length cap, .slice va s.pcs.length vc] 128)).heap.size (w.alloc (.cells #[.slice a s.ops.length cap, .slice va s.pcs.length vc] 128)) ((w.alloc (.cells #[.slice a s.ops.length cap, .slice va s.pcs.length vc] 128)).alloc (.cells #[.slice none 0 0, .slice none 0 0] 128)) := (Below.refl _ _).alloc (Nat.le_refl _) _
  have hS0 := VarAt.new w #[.slice a s.ops.length cap, .slice va s.pcs.length vc] 128
  have hS1 := hS0.keeps hb12 hS0.1
  have hR1 := VarAt.new (w.alloc (.cells #[.slice a s.ops.length cap, .slice va s.pcs.length vc] 128)) #[.slice none 0 0, .slice none 0 0] 128
  have hsz : (w.alloc (.cells #[.slice a s.ops.length cap, .slice va s.pcs.length vc] 128)).heap.size = w.heap.size + 1 := by simp
  rw [hsz] at hR1
  have hcl := HCl.out _ (hp.keeps hb2)
  have sz1 := hS1.2.2 1 _ rfl
  clear hb12 hb1 hS0
  obtain ⟨i0, hi, hz0, hz1, hz2⟩ := info_three strInfoS
  have Hi := Lib.hid hi
  have Hz0 := Lib.hid hz0
  have Hz1 := Lib.hid hz1
  have Hz2 := Lib.hid hz2
  clear hi hz0 hz1 hz2
  go_enter Tryz.func77, Tryz.ntmps77
  go_wp2_with fail
  obtain ⟨W1, hW1⟩ : ∃ W1, (w.alloc (.cells #[.slice a s.ops.length cap, .slice va s.pcs.length vc] 128)).alloc (.cells #[.slice none 0 0, .slice none 0 0] 128) = W1 := ⟨_, rfl⟩
  rw [hW1] at hb2 hS1 hR1 hcl sz1 ⊢
  clear hW1
  refine hcl.mono ?_
  rintro e w2 ⟨vq, rfl, hown, hb3⟩
  obtain ⟨va2, vc2, rfl, _, _⟩ := hown.read
  have hS2 := hS1.keeps hb3 hS1.1
  have hR2 := hR1.keeps hb3 hR1.1
  have hs1w := hS1.1
  have hr1w := hR1.1
  have f1 := hS2.2.1 1
  have k1 := hS2.2.2 1 _ rfl
  have hb4 := hb2.trans (hb3.mono hb2.size)
  clear hcl sz1 hS1 hR1 hsz
  have HS2 := Lib.hid hS2
  have HR2 := Lib.hid hR2
  have Hown := Lib.hid hown
  have hvn : ∀ j, (Value.slice va2 s.pcs.length vc2).ownBlock = some j → W1.heap.size ≤ j := fun j e => (Hown.out.lt e).1
  clear hS2 hR2 hown
  go_wp2_with fail
  have hT3 : Turned (fun k => k = w.heap.size) w2.heap.size w2 (w2.setCell ⟨w.heap.size, 1, none⟩ (.slice va2 s.pcs.length vc2)) := (Turned.refl _ _ _).set 1 _ fun _ => rfl
  have hs3 : VarAt (w2.setCell ⟨w.heap.size, 1, none⟩ (.slice va2 s.pcs.length vc2)) w.heap.size [.slice a s.ops.length cap, (.slice va2 s.pcs.length vc2)] := by simpa using HS2.out.set 1 (.slice va2 s.pcs.length vc2) (by simp)
  have hb5 : Below w.heap.size w (w2.setCell ⟨w.heap.size, 1, none⟩ (.slice va2 s.pcs.length vc2)) := hb4.trans (hT3.below hb4.size fun k hk e => by omega)
  have hsz5 := hb5.size
  have hG : GIn w (w2.setCell ⟨w.heap.size, 1, none⟩ (.slice va2 s.pcs.length vc2)) w.heap.size (w.heap.size + 1) a a (.slice va2 s.pcs.length vc2) (.slice none 0 0) s [] :=
    { st := ⟨⟨cap, hs3, ho.rows.keeps hb5, ho.nil, ho.le⟩, (Hown.out.lower hb2.size).turnedOther hT3 (fun j hj e => by have := hvn j hj; omega), fun ad e => by have := halt ad e; omega, fun e => by have := hvn _ e; omega, fun ad ea e => by have := hvn _ e; have := halt ad ea; omega, fun ad e => Nat.lt_of_lt_of_le (halt ad e) hb5.size⟩
      recs := OwnRows.nil _ _ _ _
      res := HR2.out.same (hT3.block _ HR2.out.1 (by omega)) hT3.size
      below := hb5
      ra := .inl rfl
      tsb := by omega
      tvp := fun e => by have := hvn _ e; omega
      ta := fun ad e => by have := halt ad e; omega
      rsb := fun e => by cases e
      rtb := fun e => by cases e
      rvp := fun j e => by cases e
      rva := fun ad ea e => by cases e
      sbo := Nat.le_refl _
      tbo := Nat.le_succ _ }
  obtain ⟨W3, hW3⟩ : ∃ W3, w2.setCell ⟨w.heap.size, 1, none⟩ (.slice va2 s.pcs.length vc2) = W3 := ⟨_, rfl⟩
  rw [hW3] at hG ⊢
  clear hW3 hT3 hs3 hb5 hsz5 f1 k1 hb4
  have Hvn := Lib.hid hvn
  have HO := Lib.hid ho
  have hb3w : Below w.heap.size w W3 := hG.below
  clear hvn ho hp hb2 hb3 Hown HS2 HR2 HCl hs1w hr1w
  have Hpz := Lib.hid hpz
  have Hxz := Lib.hid hxz
  have Hps := Lib.hid hps
  have Hxs := Lib.hid hxs
  clear hpz hxz hps hxs
  have Hgr := Lib.hid (grown_bad (s := s) (ps := ps) (xs := xs))
  have Hgr2 := Lib.hid (fun pcs rec => grown_good (s := s) (ps := ps) (xs := xs) (pcs := pcs) (rec := rec))
  obtain ⟨GP, hGP⟩ : ∃ GP, growP s.pcs [] ps = GP := ⟨_, rfl⟩
  have HGP := Lib.hid hGP.symm
  rw [hGP] at Hgr Hgr2
  clear hGP
  go_loopw [9, 11, 23] (fun r _ i wr => ∃ (k : Nat) (pcs rec : List ByteArray) (a1 : Option Addr) (vp : Value), k ≤ ps.length ∧ i = .int .i64 k ∧ GIn w wr w.heap.size (w.heap.size + 1) a a1 vp r { s with pcs := pcs } rec ∧ Hid (GP = growP pcs rec (ps.drop k)) ∧ pcs.length ≤ s.pcs.length + k ∧ rec.length ≤ k) (fun _ _ i _ => ps.length - (RowKit.intOf i).toNat)
  case atStart => exact ⟨0, s.pcs, [], _, _, Nat.zero_le _, rfl, hG, Lib.hid HGP.out, Nat.le_refl _, Nat.le_refl _⟩
  case round =>
    obtain ⟨k, pcs, rec, a1, vp, hk, rfl, hg, Hc, hpl, hrl⟩ := hrel
    obtain ⟨ra, rc, rfl, _, _⟩ := hg.recs.read
    by_cases hlt : k < ps.length
    · obtain ⟨x, hx⟩ := at_some hlt
      have hxx := Hpz.out x (List.mem_of_getElem? hx)
      rw [drop_at hx] at Hc
      obtain ⟨bx, off, hae, hbl, hc⟩ := (Hps.out.keeps hg.below) k _ hx
      have hc0 : wr.cell? ⟨bx, off + k, none⟩ = some (.string x) := by
        have := hc 0 _ rfl
        rwa [show off + k * strLay.sz + 0 = off + k by show off + k * 1 + 0 = _; omega] at this
      have hlti : (k : Int) < (ps.length : Int) := by omega
      subst hae
      clear hc hx
      have HR := Lib.hid fun W => pright_any x W
      have HG := Lib.hid hg
      have f0 := hg.res.2.1 0
      have f1 := hg.res.2.1 1
      have e0 := hg.res.2.2 0 _ rfl
      have e1 := hg.res.2.2 1 _ rfl
      clear hg
      by_cases hrp : rightP x = true
      · rw [hrp] at HR
        go_wp2_with fail
        refine (HR.out wr).mono ?_
        rintro e w4 ⟨rfl, hw4⟩
        rw [hw4]
        clear hw4
        have Hput := Lib.hid (put_go x HG.out.st HG.out.below.size (by show pcs.length ≤ _; omega))
        go_wp2_with fail
        refine Hput.out.mono ?_
        rintro e w4 ⟨rfl, hgo⟩
        obtain ⟨a2, vp2, hg2⟩ := HG.out.go hgo
        clear f0 f1 e0 e1 hgo
        dsimp only
        by_cases hin : x ∈ pcs
        · have Hc2 := Lib.hid (Hc.out.trans (growP_had hrp hin))
          rw [show putP pcs x = pcs from if_pos hin] at hg2
          rw [decide_eq_true hin]
          clear Hc
          go_wp2_with fail
          go_roundw
          case rel => exact ⟨k + 1, pcs, rec, a2, vp2, hlt, by go_num, hg2, Hc2, by omega, by omega⟩
          case measure => (show ps.length - (k + 1) < ps.length - k; omega)
        · have Hc2 := Lib.hid (Hc.out.trans (growP_put hrp hin))
          rw [show putP pcs x = pcs ++ [x] from if_neg hin] at hg2
          rw [decide_eq_false hin]
          have Hg2 := Lib.hid hg2
          clear Hc hg2
          go_wp2_with (at_builtin; refine wpList_append_rows _ rfl _ _ 23 rfl strLay w.heap.size 9 i0 (.string ⟨#[]⟩) 16 Tryz.underlying23 Hi.out Hz0.out Hz1.out Hz2.out rfl (by decide) _ rec rfl (Hg2.out.recs.alloc _) ⟨w4.heap.size, 0, none⟩ 1 (ByteArray.mk #[112] ++ x) rfl (cells_new_at w4 w4.heap.size #[.string (ByteArray.mk #[112] ++ x)] 9 rfl) (by unfold maxLen; omega) (by omega) (by have := Hg2.out.below.size; simp; omega) ?_; intro v3 w5 hrow5 hg5 hv5; go_frame)
          have hg3 := Hg2.out.grow ((Below.refl _ _).alloc (Nat.le_refl _) _) hg5 hrow5 hv5
          clear hrow5 hg5 hv5
          go_roundw
          case rel => exact ⟨k + 1, pcs ++ [x], rec ++ [ByteArray.mk #[112] ++ x], a2, vp2, hlt, by go_num, hg3, Hc2, by simp; omega, by simp; omega⟩
          case measure => (show ps.length - (k + 1) < ps.length - k; omega)
      · rw [Bool.not_eq_true] at hrp
        rw [hrp] at HR
        have Hg1 := Lib.hid (Hgr.out (Hc.out.trans (growP_bad hrp)))
        go_wp2_with fail
        refine (HR.out wr).mono ?_
        rintro e w4 ⟨rfl, hw4⟩
        rw [hw4]
        clear hw4
        go_wp2_with fail
        have hz := res_set (.slice none 0 0) (.slice none 0 0) HG.out.res
        have hbz : Below w.heap.size w ((wr.setCell ⟨w.heap.size + 1, 0, none⟩ (.slice none 0 0)).setCell ⟨w.heap.size + 1, 1, none⟩ (.slice none 0 0)) := (HG.out.below.setCell (p := ⟨w.heap.size + 1, 0, none⟩) (Nat.le_succ _) _).setCell (p := ⟨w.heap.size + 1, 1, none⟩) (Nat.le_succ _) _
        have z0 := hz.2.2 0 _ rfl
        have z1 := hz.2.2 1 _ rfl
        refine bodyPost_ret (v := .tuple #[.agg #[.slice none 0 0, .slice none 0 0], .slice none 0 0, .int .i64 1]) (by simp [results, Tryz.results77, go_sem, z0, z1]) rfl ?_
        rw [Hg1.out]
        exact GrownIs.bad hbz
    · have hke : k = ps.length := by omega
      subst hke
      rw [List.drop_length] at Hc
      have Hg2 := Lib.hid (Hgr2.out pcs rec Hc.out)
      clear Hgr Hgr2 HGP Hc Hpz Hps
      go_wp2_with fail
      have hr0 := hrl
      go_loopw [9, 13, 14, 15, 16, 42] (fun r _ _ _ _ i wx => ∃ (j : Nat) (l : List Opr) (rec2 : List ByteArray) (a2 : Option Addr) (vp2 : Value), j ≤ xs.length ∧ i = .int .i64 j ∧ GIn w wx w.heap.size (w.heap.size + 1) a a2 vp2 r ⟨l, pcs⟩ rec2 ∧ Hid (growO s.ops rec xs = growO l rec2 (xs.drop j)) ∧ l.length ≤ s.ops.length + j ∧ rec2.length ≤ ps.length + j) (fun _ _ _ _ _ i _ => xs.length - (RowKit.intOf i).toNat)
      case atStart => exact ⟨0, s.ops, rec, _, _, Nat.zero_le _, rfl, hg, Lib.hid rfl, Nat.le_refl _, hrl⟩
      case round =>
        obtain ⟨j, l, rec2, a2, vp2, hj, rfl, hg, Hc, hll, hrl⟩ := hrel
        obtain ⟨ra2, rc2, rfl, _, _⟩ := hg.recs.read
        by_cases hlt : j < xs.length
        · obtain ⟨x, hx⟩ := at_some hlt
          have hxx := Hxz.out x (List.mem_of_getElem? hx)
          rw [drop_at hx] at Hc
          obtain ⟨b, off, rfl, hbl, c0, c1, c2, c3, c4, c5, c6, c7, c8, c9, c10⟩ := opr_at (Hxs.out.keeps hg.below) hx
          have hlti : (j : Int) < (xs.length : Int) := by omega
          clear hx
          have hbx : Below wr.heap.size wr (wr.alloc (.cells #[.int .i64 x.cnt, .int .i64 x.who, .int .i64 x.seq, .int .i64 x.kind, .int .i64 x.nc, .int .i64 x.nw, .bool x.dir, .int .i64 x.pc, .int .i64 x.pw, .string x.name, .string x.man] 66)) := (Below.refl _ _).alloc (Nat.le_refl _) _
          have hg1 := hg.keeps hbx
          have hX1 := box_VarAt wr x
          have hvl : ∀ k, vp2.ownBlock = some k → k < wr.heap.size := fun k e => (hg.st.pcs.lt e).2
          have hsl : w.heap.size < wr.heap.size := by obtain ⟨_, hc, _⟩ := hg.st.cells; exact hc.1
          have hwz := hg.below.size
          have Hadd := Lib.hid (add_go x hg1.st (by show l.length ≤ _; omega) hxx.1 hxx.2)
          have hez := encB_size x hxx.1 hxx.2
          have HEn := Lib.hid fun W => encode_any x W hxx.1 hxx.2
          have HG1 := Lib.hid hg1
          have HX1 := Lib.hid hX1
          have Hvl := Lib.hid hvl
          have Hop := Lib.hid (show opsOf l x = if (addO l x).2 = 0 then (addO l x).1 else l from rfl)
          have Hwt := Lib.hid (show wasThere l x = decide ((addO l x).2 = 0 ∧ (addO l x).1.length = l.length) from rfl)
          have Hb1 := Lib.hid fun h => Hc.out.trans (growO_bad (l := l) (rec := rec2) (x := x) (xs := xs.drop (j + 1)) h)
          have Hb2 := Lib.hid fun h h2 => Hc.out.trans (growO_had (l := l) (rec := rec2) (x := x) (xs := xs.drop (j + 1)) h h2)
          have Hb3 := Lib.hid fun h h2 h3 => Hc.out.trans (growO_wrong (l := l) (rec := rec2) (x := x) (xs := xs.drop (j + 1)) h h2 h3)
          have Hb4 := Lib.hid fun h h2 h3 => Hc.out.trans (growO_new (l := l) (rec := rec2) (x := x) (xs := xs.drop (j + 1)) h h2 h3)
          have hal := addO_len2 l x
          clear hbx hX1 hvl hg hg1 Hc
          dsimp only at Hadd
          generalize opsOf l x = OL at *
          generalize wasThere l x = wt at *
          generalize addO l x = R at *
          go_wp2_with fail
          refine Hadd.out.mono ?_
          rintro e w4 ⟨rfl, hgo⟩
          have hX4 : VarAt w4 wr.heap.size x.cells := by
            obtain ⟨_, _, _, _, _, hT⟩ := hgo
            refine HX1.out.same (hT.block _ HX1.out.1 fun h => ?_) hT.size
            rcases h with h | h
            · omega
            · have := Hvl.out _ h
              omega
          obtain ⟨a3, vp3, hg3⟩ := HG1.out.go hgo
          clear hgo
          have x0 := hX4.2.2 0 _ rfl
          have x1 := hX4.2.2 1 _ rfl
          have x2 := hX4.2.2 2 _ rfl
          have x3 := hX4.2.2 3 _ rfl
          have x4 := hX4.2.2 4 _ rfl
          have x5 := hX4.2.2 5 _ rfl
          have x6 := hX4.2.2 6 _ rfl
          have x7 := hX4.2.2 7 _ rfl
          have x8 := hX4.2.2 8 _ rfl
          have x9 := hX4.2.2 9 _ rfl
          have x10 := hX4.2.2 10 _ rfl
          clear c0 c1 c2 c3 c4 c5 c6 c7 c8 c9 c10
          by_cases hR : R.2 = 0
          · have er : (R.2 != 0) = false := by rw [hR]; rfl
            have hOL := Hop.out.trans (if_pos hR)
            rw [hOL] at hg3
            have HG3 := Lib.hid hg3
            clear hg3 hX4
            by_cases hlen : R.1.length = l.length
            · have hwt : wt = true := Hwt.out.trans (decide_eq_true ⟨hR, hlen⟩)
              have Hc2 := Lib.hid (Hb2.out hR hlen)
              rw [hwt]
              go_wp2_with fail
              go_roundw
              case rel => exact ⟨j + 1, R.1, rec2, a3, vp3, hlt, by go_num, HG3.out, Hc2, by omega, by omega⟩
              case measure => (show xs.length - (j + 1) < xs.length - j; omega)
            · have hwt : wt = false := Hwt.out.trans (decide_eq_false fun h => hlen h.2)
              rw [hwt]
              go_wp2_with fail
              refine (HEn.out w4).mono ?_
              rintro e w5 ⟨rfl, hb5⟩
              have HG5 := Lib.hid (HG3.out.keeps hb5)
              by_cases hro : rightO x = 0
              · have eo : (rightO x != 0) = false := by rw [hro]; rfl
                have Hc2 := Lib.hid (Hb4.out hR hlen hro)
                clear hb5
                go_wp2_with (at_builtin; refine wpList_append_rows _ rfl _ _ 23 rfl strLay w.heap.size 9 i0 (.string ⟨#[]⟩) 16 Tryz.underlying23 Hi.out Hz0.out Hz1.out Hz2.out rfl (by decide) _ rec2 rfl (HG5.out.recs.alloc _) ⟨w5.heap.size, 0, none⟩ 1 (ByteArray.mk #[111] ++ encB x) rfl (cells_new_at w5 w5.heap.size #[.string (ByteArray.mk #[111] ++ encB x)] 9 rfl) (by unfold maxLen; omega) (by omega) (by have := HG5.out.below.size; simp; omega) ?_; intro v3 w6 hrow6 hg6 hv6; go_frame)
                have hg7 := HG5.out.grow ((Below.refl _ _).alloc (Nat.le_refl _) _) hg6 hrow6 hv6
                clear hrow6 hg6 hv6
                go_roundw
                case rel => exact ⟨j + 1, R.1, rec2 ++ [ByteArray.mk #[111] ++ encB x], a3, vp3, hlt, by go_num, hg7, Hc2, by omega, by simp; omega⟩
                case measure => (show xs.length - (j + 1) < xs.length - j; omega)
              · have eo : (rightO x != 0) = true := by rw [bne_iff_ne]; exact hro
                have Hc2 := Lib.hid (Hb3.out hR hlen hro)
                have f0 := HG5.out.res.2.1 0
                have f1 := HG5.out.res.2.1 1
                have e0 := HG5.out.res.2.2 0 _ rfl
                have e1 := HG5.out.res.2.2 1 _ rfl
                go_wp2_with fail
                have hz := res_set (.slice none 0 0) (.slice none 0 0) HG5.out.res
                have hbz : Below w.heap.size w ((w5.setCell ⟨w.heap.size + 1, 0, none⟩ (.slice none 0 0)).setCell ⟨w.heap.size + 1, 1, none⟩ (.slice none 0 0)) := (HG5.out.below.setCell (p := ⟨w.heap.size + 1, 0, none⟩) (Nat.le_succ _) _).setCell (p := ⟨w.heap.size + 1, 1, none⟩) (Nat.le_succ _) _
                have z0 := hz.2.2 0 _ rfl
                have z1 := hz.2.2 1 _ rfl
                refine bodyPost_ret (v := .tuple #[.agg #[.slice none 0 0, .slice none 0 0], .slice none 0 0, .int .i64 (rightO x)]) (by simp [results, Tryz.results77, go_sem, z0, z1]) rfl ?_
                rw [Hg2.out, Hc2.out, if_pos hro]
                exact GrownIs.bad hbz
          · have er : (R.2 != 0) = true := by rw [bne_iff_ne]; exact hR
            have Hc2 := Lib.hid (Hb1.out hR)
            have HG3 := Lib.hid hg3
            have f0 := hg3.res.2.1 0
            have f1 := hg3.res.2.1 1
            have e0 := hg3.res.2.2 0 _ rfl
            have e1 := hg3.res.2.2 1 _ rfl
            clear hg3 hX4
            go_wp2_with fail
            have hz := res_set (.slice none 0 0) (.slice none 0 0) HG3.out.res
            have hbz : Below w.heap.size w ((w4.setCell ⟨w.heap.size + 1, 0, none⟩ (.slice none 0 0)).setCell ⟨w.heap.size + 1, 1, none⟩ (.slice none 0 0)) := (HG3.out.below.setCell (p := ⟨w.heap.size + 1, 0, none⟩) (Nat.le_succ _) _).setCell (p := ⟨w.heap.size + 1, 1, none⟩) (Nat.le_succ _) _
            have z0 := hz.2.2 0 _ rfl
            have z1 := hz.2.2 1 _ rfl
            refine bodyPost_ret (v := .tuple #[.agg #[.slice none 0 0, .slice none 0 0], .slice none 0 0, .int .i64 R.2]) (by simp [results, Tryz.results77, go_sem, z0, z1]) rfl ?_
            rw [Hg2.out, Hc2.out, if_pos hR]
            exact GrownIs.bad hbz
        · have hje : j = xs.length := by omega
          subst hje
          rw [List.drop_length] at Hc
          have HG := Lib.hid hg
          have f0 := hg.res.2.1 0
          have f1 := hg.res.2.1 1
          have e0 := hg.res.2.2 0 _ rfl
          have e1 := hg.res.2.2 1 _ rfl
          have hgs := hg.st
          obtain ⟨⟨cap2, hc1, hc2⟩, hc3, _, _, hc6, hc7⟩ := hgs
          obtain ⟨va3, vc3, rfl, _, _⟩ := hc3.read
          have s0 := hc1.2.2 0 _ rfl
          have s1 := hc1.2.2 1 _ rfl
          have hr := HG.out.recs
          clear hg hc1
          go_wp2_with fail
          have hT : Turned (fun k => k = w.heap.size + 1) wr.heap.size wr ((wr.setCell ⟨w.heap.size + 1, 0, none⟩ (.slice a2 l.length cap2)).setCell ⟨w.heap.size + 1, 1, none⟩ (.slice va3 pcs.length vc3)) := ((Turned.refl (fun k => k = w.heap.size + 1) wr.heap.size wr).set 0 _ fun _ => rfl).set 1 _ fun _ => rfl
          have hz := res_set (.slice a2 l.length cap2) (.slice va3 pcs.length vc3) HG.out.res
          have hbz : Below w.heap.size w ((wr.setCell ⟨w.heap.size + 1, 0, none⟩ (.slice a2 l.length cap2)).setCell ⟨w.heap.size + 1, 1, none⟩ (.slice va3 pcs.length vc3)) := (HG.out.below.setCell (p := ⟨w.heap.size + 1, 0, none⟩) (Nat.le_succ _) _).setCell (p := ⟨w.heap.size + 1, 1, none⟩) (Nat.le_succ _) _
          have z0 := hz.2.2 0 _ rfl
          have z1 := hz.2.2 1 _ rfl
          refine bodyPost_ret (v := .tuple #[.agg #[.slice a2 l.length cap2, .slice va3 pcs.length vc3], .slice ra2 rec2.length rc2, .int .i64 0]) (by simp [results, Tryz.results77, go_sem, z0, z1]) rfl ?_
          rw [Hg2.out, show growO s.ops rec xs = ((l, rec2), 0) from Hc.out, if_neg (fun h => h rfl)]
          exact ⟨a2, cap2, _, _, rfl, hbz, ⟨hc2.rows.turned2 hT fun ad e _ h => HG.out.ta ad e h, hc2.nil, hc2.le⟩, hc3.turnedOther hT (fun k hk h => HG.out.tvp (by rw [hk, h])), hr.turnedOther hT (fun k hk h => HG.out.rtb (by rw [hk, h])), HG.out.ra, fun ad e => ⟨Nat.lt_of_lt_of_le (hc7 ad e) hT.size, hc6 ad e⟩⟩
end Go.Proofs.YtgglheelhbfgiaaGreatDoor

namespace Go.Proofs.YtgglheelhbfgiaaGreatDoor
open Go Go.RowKit Go.Lib
theorem mem_put {pcs : List ByteArray} {p q : ByteArray} : q ∈ putP pcs p ↔ q ∈ pcs ∨ q = p := by
  unfold putP
  split
  · constructor
    · exact .inl
    · rintro (h | rfl)
      · exact h
      · assumption
  · simp
theorem put_new {pcs : List ByteArray} {p : ByteArray} (h : p ∉ pcs) : putP pcs p = pcs ++ [p] := if_neg h
/-- What pieces' records are replayed as, and each beginning of them. -/
structure PcsRec (l : List Opr) (pcs : List ByteArray) (ps pcs2 new : List ByteArray) : Prop where
  all : replaysS ⟨l, pcs⟩ new = some ⟨l, pcs2⟩
  part : ∀ q, q <+: new → ∃ pk, replaysS ⟨l, pcs⟩ q = some ⟨l, pk⟩ ∧ (∀ p ∈ pcs, p ∈ pk) ∧ ∀ p ∈ pk, p ∈ pcs ∨ p ∈ ps
  has : ∀ p, p ∈ pcs2 ↔ p ∈ pcs ∨ p ∈ ps
  size : ∀ r ∈ new, 1 ≤ r.size ∧ r.size ≤ 257
theorem growP_some (l : List Opr) : ∀ (ps pcs rec pcs2 rec2 : List ByteArray), growP pcs rec ps = some (pcs2, rec2) → (∀ p ∈ ps, rightP p = true) ∧ ∃ new, rec2 = rec ++ new ∧ PcsRec l pcs ps pcs2 new
  | [], pcs, rec, pcs2, rec2, h => by
    cases h
    refine ⟨fun p hp => (by cases hp), [], (List.append_nil _).symm, rfl, fun q hq => ?_, fun p => by simp, fun r hr => (by cases hr)⟩
    rw [List.prefix_nil.1 hq]
    exact ⟨pcs, rfl, fun _ h => h, fun _ h => .inl h⟩
  | p :: ps, pcs, rec, pcs2, rec2, h => by
    by_cases hr : rightP p = true
    · by_cases hp : p ∈ pcs
      · rw [growP_had hr hp] at h
        obtain ⟨h1, new, h2, h3⟩ := growP_some l ps pcs rec pcs2 rec2 h
        refine ⟨fun q hq => ?_, new, h2, h3.all, fun q hq => ?_, fun q => ?_, h3.size⟩
        · rcases List.mem_cons.1 hq with rfl | hq
          · exact hr
          · exact h1 q hq
        · obtain ⟨pk, a1, a2, a3⟩ := h3.part q hq
          exact ⟨pk, a1, a2, fun x hx => (a3 x hx).imp_right (List.mem_cons_of_mem _)⟩
        · rw [h3.has q, List.mem_cons]
          constructor
          · rintro (h | h)
            · exact .inl h
            · exact .inr (.inr h)
          · rintro (h | rfl | h)
            · exact .inl h
            · exact .inl hp
            · exact .inr h
      · rw [growP_put hr hp] at h
        obtain ⟨h1, new, h2, h3⟩ := growP_some l ps (pcs ++ [p]) _ pcs2 rec2 h
        have hrep := replay_piece ⟨l, pcs⟩ p hr
        rw [show ({ (⟨l, pcs⟩ : StO) with pcs := putP pcs p } : StO) = ⟨l, pcs ++ [p]⟩ from by rw [put_new hp]] at hrep
        have hstep : ∀ q, replaysS ⟨l, pcs⟩ (recP p :: q) = replaysS ⟨l, pcs ++ [p]⟩ q := fun q => by
          rw [replays_go (by rw [hrep]), hrep]
        have hsz : 1 ≤ p.size ∧ p.size ≤ 256 := by
          unfold rightP at hr
          simpa using hr
        refine ⟨fun q hq => ?_, recP p :: new, by rw [h2, List.append_assoc]; rfl, ?_, fun q hq => ?_, fun q => ?_, fun r hr2 => ?_⟩
        · rcases List.mem_cons.1 hq with rfl | hq
          · exact hr
          · exact h1 q hq
        · rw [hstep]
          exact h3.all
        · cases q with
          | nil => exact ⟨pcs, rfl, fun _ h => h, fun _ h => .inl h⟩
          | cons x q =>
            obtain ⟨rfl, hq2⟩ := List.cons_prefix_cons.1 hq
            obtain ⟨pk, a1, a2, a3⟩ := h3.part q hq2
            refine ⟨pk, by rw [hstep]; exact a1, fun y hy => a2 y (List.mem_append_left _ hy), fun y hy => ?_⟩
            rcases a3 y hy with h | h
            · rcases List.mem_append.1 h with h | h
              · exact .inl h
              · rw [List.mem_singleton.1 h]
                exact .inr List.mem_cons_self
            · exact .inr (List.mem_cons_of_mem _ h)
        · rw [h3.has q, List.mem_append, List.mem_singleton, List.mem_cons]
          constructor
          · rintro ((h | h) | h)
            · exact .inl h
            · exact .inr (.inl h)
            · exact .inr (.inr h)
          · rintro (h | h | h)
            · exact .inl (.inl h)
            · exact .inl (.inr h)
            · exact .inr h
        · rcases List.mem_cons.1 hr2 with rfl | hr2
          · have := rec_size 112 p
            unfold recP
            omega
          · exact h3.size r hr2
    · rw [growP_bad (by simpa using hr)] at h
      cases h
theorem growP_none : ∀ (ps pcs rec : List ByteArray), growP pcs rec ps = none → ∃ p ∈ ps, rightP p = false
  | [], pcs, rec, h => by cases h
  | p :: ps, pcs, rec, h => by
    by_cases hr : rightP p = true
    · have h2 : ∃ pcs rec, growP pcs rec ps = none := by
        by_cases hp : p ∈ pcs
        · rw [growP_had hr hp] at h
          exact ⟨_, _, h⟩
        · rw [growP_put hr hp] at h
          exact ⟨_, _, h⟩
      obtain ⟨a, b, h3⟩ := h2
      obtain ⟨q, hq, e⟩ := growP_none ps a b h3
      exact ⟨q, List.mem_cons_of_mem _ hq, e⟩
    · exact ⟨p, List.mem_cons_self, by simpa using hr⟩
/-- One behind the other, until one cannot be. -/
def allO : List Opr → List Opr → List Opr × Bool
  | l, [] => (l, true)
  | l, x :: xs => if (addO l x).2 = 0 then allO (addO l x).1 xs else (l, false)
theorem allO_go {l : List Opr} {x : Opr} {xs : List Opr} (h : (addO l x).2 = 0) : allO l (x :: xs) = allO (addO l x).1 xs := if_pos h
theorem allO_stop {l : List Opr} {x : Opr} {xs : List Opr} (h : (addO l x).2 ≠ 0) : allO l (x :: xs) = (l, false) := if_neg h
structure OpsRec (l : List Opr) (pcs : List ByteArray) (xs l2 : List Opr) (new : List ByteArray) : Prop where
  all : replaysS ⟨l, pcs⟩ new = some ⟨l2, pcs⟩
  part : ∀ q, q <+: new → ∃ lk, replaysS ⟨l, pcs⟩ q = some ⟨lk, pcs⟩ ∧ GoodO lk ∧ (∀ x ∈ l, x ∈ lk) ∧ ∀ x ∈ lk, x ∈ l2
  size : ∀ r ∈ new, 1 ≤ r.size ∧ r.size ≤ 1400
theorem addO_mem {l : List Opr} {x y : Opr} (h : (addO l x).2 = 0) : y ∈ (addO l x).1 ↔ y ∈ l ∨ y = x := by
  rcases add_cases h with ⟨h1, h2⟩ | ⟨h1, _⟩
  · rw [h1]
    constructor
    · exact .inl
    · rintro (h | rfl)
      · exact h
      · exact h2
  · rw [h1, mem_ins, or_comm]
theorem allO_mem : ∀ (xs l : List Opr), ∀ y ∈ l, y ∈ (allO l xs).1
  | [], l, y, h => h
  | x :: xs, l, y, h => by
    by_cases hx : (addO l x).2 = 0
    · rw [allO_go hx]
      exact allO_mem xs _ y ((addO_mem hx).2 (.inl h))
    · rw [allO_stop hx]
      exact h
theorem growO_all (pcs : List ByteArray) : ∀ (xs l : List Opr) (rec : List ByteArray), GoodO l → (∀ x ∈ xs, x.name.size ≤ 200 ∧ x.man.size ≤ 1000) → (allO l xs).2 = true →
    (growO l rec xs).2 = 0 ∧ (growO l rec xs).1.1 = (allO l xs).1 ∧ GoodO (allO l xs).1 ∧ ∃ new, (growO l rec xs).1.2 = rec ++ new ∧ OpsRec l pcs xs (allO l xs).1 new
  | [], l, rec, hg, _, _ => by
    refine ⟨rfl, rfl, hg, [], (List.append_nil _).symm, rfl, fun q hq => ?_, fun r hr => (by cases hr)⟩
    rw [List.prefix_nil.1 hq]
    exact ⟨l, rfl, hg, fun _ h => h, fun _ h => h⟩
  | x :: xs, l, rec, hg, hz, ha => by
    by_cases hx : (addO l x).2 = 0
    · have hx1 := hz x List.mem_cons_self
      obtain ⟨g1, g2, g3⟩ := good_add hg hx
      rw [allO_go hx] at ha ⊢
      by_cases hl : (addO l x).1.length = l.length
      · rw [growO_had hx hl]
        have e : (addO l x).1 = l := by
          rcases add_cases hx with ⟨h1, _⟩ | ⟨h1, _⟩
          · exact h1
          · rw [h1, ins_len] at hl
            omega
        rw [e] at ha ⊢
        obtain ⟨a1, a2, a3, new, a4, a5⟩ := growO_all pcs xs l rec hg (fun y hy => hz y (List.mem_cons_of_mem _ hy)) ha
        exact ⟨a1, a2, a3, new, a4, a5.all, a5.part, a5.size⟩
      · have hr : rightO x = 0 := by
          rcases add_cases hx with ⟨h1, _⟩ | ⟨_, h1, _⟩
          · exact absurd (by rw [h1]) hl
          · exact h1
        rw [growO_new hx hl hr]
        obtain ⟨a1, a2, a3, new, a4, a5⟩ := growO_all pcs xs (addO l x).1 (rec ++ [ByteArray.mk #[111] ++ encB x]) g1 (fun y hy => hz y (List.mem_cons_of_mem _ hy)) ha
        have hrep := replay_op ⟨l, pcs⟩ x hr (by omega) (by omega) hx
        have hstep : ∀ q, replaysS ⟨l, pcs⟩ (recO x :: q) = replaysS ⟨(addO l x).1, pcs⟩ q := fun q => by
          rw [replays_go (by rw [hrep]), hrep]
        refine ⟨a1, a2, a3, recO x :: new, by rw [a4, List.append_assoc]; rfl, ?_, fun q hq => ?_, fun r hr2 => ?_⟩
        · rw [hstep]
          exact a5.all
        · cases q with
          | nil => exact ⟨l, rfl, hg, fun _ h => h, fun y hy => allO_mem xs _ y ((addO_mem hx).2 (.inl hy))⟩
          | cons y q =>
            obtain ⟨rfl, hq2⟩ := List.cons_prefix_cons.1 hq
            obtain ⟨lk, b1, b2, b3, b4⟩ := a5.part q hq2
            exact ⟨lk, by rw [hstep]; exact b1, b2, fun y hy => b3 y ((addO_mem hx).2 (.inl hy)), b4⟩
        · rcases List.mem_cons.1 hr2 with rfl | hr2
          · have h1 := rec_size 111 (encB x)
            have h2 := encB_size x (by omega) (by omega)
            unfold recO
            omega
          · exact a5.size r hr2
    · rw [allO_stop hx] at ha
      cases ha
theorem growO_stop : ∀ (xs l : List Opr) (rec : List ByteArray), (allO l xs).2 = false → (growO l rec xs).2 ≠ 0
  | [], l, rec, h => by cases h
  | x :: xs, l, rec, h => by
    by_cases hx : (addO l x).2 = 0
    · rw [allO_go hx] at h
      by_cases hl : (addO l x).1.length = l.length
      · rw [growO_had hx hl]
        exact growO_stop xs _ rec h
      · by_cases hr : rightO x = 0
        · rw [growO_new hx hl hr]
          exact growO_stop xs _ _ h
        · rw [growO_wrong hx hl hr]
          exact hr
    · rw [growO_bad hx]
      exact hx
end Go.Proofs.YtgglheelhbfgiaaGreatDoor

