/-
  seglog: Open. seglog: Open, walked. seglog: lay.
-/
import Derived.Test.YtgglheelhbfgiaaGreatDoorMg12
import Derived.Test.YtgglheelhbfgiaaGreatDoorMg5
namespace Go.Proofs.YtgglheelhbfgiaaGreatDoor
open Go Go.RowKit Go.Lib
theorem below_growD {B : Nat} {w : World} (os : Array Obj) (hB : B ≤ w.heap.size) : Below B w (Go.Sort.grow w os) :=
  ⟨rfl, rfl, rfl, by simp [Go.Sort.grow], fun k hk => by simp only [Go.Sort.grow]; rw [Array.getElem?_append_left (by omega)]⟩
/-- The table of powers of ten. -/
def TabD (w : World) : Prop := Lib.TabIs Tryz.prog w "internal/strconv.uint64pow10" .u64 Lib.pow10Tab
theorem TabD.keeps {W W' : World} (h : TabD W) (hb : Below W.heap.size W W') : TabD W' := by
  unfold TabD Lib.TabIs World.var? at h ⊢
  cases hg : Tryz.prog.globalNamed "internal/strconv.uint64pow10" with
  | none => simp [hg] at h
  | some g =>
    simp only [hg, Option.bind_some] at h ⊢
    have hlt : g < W.heap.size := by
      rcases Nat.lt_or_ge g W.heap.size with h' | h'
      · exact h'
      · rw [Array.getElem?_eq_none h'] at h; simp at h
    rw [hb.block g hlt]
    exact h
/-- The table lies below base, where nothing turns. -/
def TabB (base : Nat) (w : World) : Prop := ∃ w0, w0.heap.size = base ∧ TabD w0 ∧ Below base w0 w
theorem TabB.tab {base : Nat} {w : World} (h : TabB base w) : TabD w := by
  obtain ⟨w0, rfl, h1, h2⟩ := h
  exact h1.keeps h2
theorem TabB.of {w : World} (h : TabD w) : TabB w.heap.size w := ⟨w, rfl, h, Below.refl _ _⟩
theorem TabB.le {base : Nat} {w : World} (h : TabB base w) : base ≤ w.heap.size := by
  obtain ⟨w0, rfl, h1, h2⟩ := h
  exact h2.size
theorem TabB.turned {base B : Nat} {w w' : World} {S : Nat → Prop} (h : TabB base w) (ht : Turned S B w w') (hB : base ≤ B) (hS : ∀ k, S k → base ≤ k) : TabB base w' := by
  obtain ⟨w0, h0, h1, h2⟩ := h
  exact ⟨w0, h0, h1, h2.trans (ht.below hB fun k hk hs => by have := hS k hs; omega)⟩
theorem TabB.below {base : Nat} {w w' : World} (h : TabB base w) (hb : Below w.heap.size w w') : TabB base w' := by
  have hl := h.le
  obtain ⟨w0, h0, h1, h2⟩ := h
  exact ⟨w0, h0, h1, h2.trans (hb.mono hl)⟩
set_option maxRecDepth 100000 in
theorem snameT_any (k : Nat) (hk : k ≤ 9999) (w : World) (ht : TabD w) : Calls Tryz.prog 53 #[.int .i64 k] w fun e w' => e = .returned (.string (nameS k)) ∧ Below w.heap.size w w' := by
  have HI : Hid (Calls Tryz.prog 89 #[.int .i64 k] w fun e w' => e = .returned (.string ⟨(Lib.decDigits k).toArray⟩) ∧ Below w.heap.size w w') :=
    Lib.hid ((Tryz.strconv_Itoa k (by omega) (by omega) w ht).mono fun e w' ⟨he, n, os, hw⟩ => ⟨by rw [he]; unfold Lib.itoa; rw [if_neg (by omega)]; rfl, by
      rw [hw]; exact (Go.below_drewN (Below.refl _ _) n).trans (below_growD os (by simp [World.drewN]))⟩)
  have Hn := Lib.hid (show nameS k = ⟨#[115, 101, 103, 45]⟩ ++ ⟨(Lib.decDigits k).toArray⟩ by
    apply ba_ext
    rw [ByteArray.data_append, Array.toList_append]
    rfl)
  have hq := (name_size (k := k) (by omega)).2
  rw [Hn.out, ByteArray.size_append] at hq
  have hq2 : (⟨(Lib.decDigits k).toArray⟩ : ByteArray).size ≤ 24 := by omega
  clear hq ht
  generalize (⟨(Lib.decDigits k).toArray⟩ : ByteArray) = q at *
  generalize nameS k = r at *
  go_enter Tryz.func53, Tryz.ntmps53
  go_wp2_with fail
  refine HI.out.mono ?_
  rintro e w1 ⟨rfl, hb1⟩
  go_wp2_with fail
  go_ret
  exact ⟨by rw [Hn.out]; rfl, hb1⟩
/-- The disk in the world w: since B only what was the disk's has turned, and what is new is new since B. -/
def DIn (S : Nat → Prop) (B w : World) (db : Nat) (d : Dk) : Prop := ∃ T, DOk w db T d ∧ (∀ k, T k → S k ∨ B.heap.size ≤ k) ∧ Turned S B.heap.size B w
theorem DIn.start {S : Nat → Prop} {w : World} {db : Nat} {d : Dk} (h : DOk w db S d) : DIn S w w db d := ⟨S, h, fun _ hk => .inl hk, Turned.refl _ _ _⟩
theorem DIn.below {S : Nat → Prop} {B w w' : World} {db : Nat} {d : Dk} (h : DIn S B w db d) (hb : Below w.heap.size w w') : DIn S B w' db d := by
  obtain ⟨T, h1, h2, h3⟩ := h
  exact ⟨T, h1.below hb, h2, h3.trans (Turned.of_below hb h3.size)⟩
theorem DIn.step {S T : Nat → Prop} {B w w' : World} {db : Nat} {d : Dk} (h2 : ∀ k, T k → S k ∨ B.heap.size ≤ k) (h3 : Turned S B.heap.size B w) (hg : DGo w db T d w') : DIn S B w' db d := by
  obtain ⟨h1, ht⟩ := hg
  refine ⟨_, h1, fun k hk => ?_, ⟨ht.os.trans h3.os, ht.tape.trans h3.tape, ht.output.trans h3.output, Nat.le_trans h3.size ht.size, fun k hk hs => (ht.block k (Nat.lt_of_lt_of_le hk h3.size) fun hT => ?_).trans (h3.block k hk hs)⟩⟩
  · rcases hk with hk | hk
    · exact h2 k hk
    · exact .inr (Nat.le_trans h3.size hk.1)
  · rcases h2 k hT with h | h
    · exact hs h
    · omega
theorem does_parts {d : Dk} {a : ActD} (h : (doesD d a).2 = 0) : (doesD d a).1.dead = false ∧ (doesD d a).1.now = doD d.now a false ∧ (doesD d a).1.acts = d.acts ++ [a] := by
  have e := dies_same { d with acts := d.acts ++ [a] }
  cases hz : (diesD { d with acts := d.acts ++ [a] }).dead with
  | true => rw [does_dead hz] at h; cases h
  | false =>
    rw [does_alive hz]
    exact ⟨hz, congrArg (doD · a false) e.1, e.2.2.1⟩
theorem cut_alive {d : Dk} {p : ByteArray} {n : Int} (h : (cutD d p n).2 = 0) : (cutD d p n).1.dead = false ∧ (cutD d p n).1.now.length ≤ d.now.length ∧ (cutD d p n).1.acts.length ≤ d.acts.length + 1 := by
  unfold cutD at h ⊢
  by_cases hw : wrongD d p n ≠ 0
  · rw [if_pos hw] at h ⊢
    exact absurd h hw
  · rw [if_neg hw] at h ⊢
    by_cases hf : (findK d.now p).isNone = true
    · rw [if_pos hf] at h
      cases h
    · rw [if_neg hf] at h ⊢
      obtain ⟨e1, e2, e3⟩ := does_parts h
      rw [e2, e3]
      exact ⟨e1, cut_len d.now rfl false, by simp⟩
theorem read_hasN {d : Dk} {p : ByteArray} (hd : d.dead = false) (hp : p.size ≤ 24 ∧ p.size ≠ 0) : (readD d p).1 = hasD d.now p := by
  have hw : wrongD d p 0 = 0 := by
    unfold wrongD
    rw [if_neg (by rw [hd]; decide), if_neg (by omega)]
  unfold readD
  rw [if_neg (by rw [hw]; simp)]
  unfold hasD
  cases findK d.now p <;> rfl
theorem open_dead {d : Dk} (h : d.dead = true) : openD d = ⟨none, [], 42, d⟩ := if_pos h
theorem open_cut {d : Dk} (h : d.dead = false) (h2 : (cutsD (scanG d.now 800 [] []).2 (namesD d) d).2 ≠ 0) : openD d = ⟨none, [], (cutsD (scanG d.now 800 [] []).2 (namesD d) d).2, (cutsD (scanG d.now 800 [] []).2 (namesD d) d).1⟩ := by
  unfold openD
  rw [if_neg (by rw [h]; exact Bool.noConfusion), if_pos h2]
theorem open_sync {d : Dk} (h : d.dead = false) (h2 : (cutsD (scanG d.now 800 [] []).2 (namesD d) d).2 = 0) (h3 : (syncD (cutsD (scanG d.now 800 [] []).2 (namesD d) d).1).2 ≠ 0) : openD d = ⟨none, [], (syncD (cutsD (scanG d.now 800 [] []).2 (namesD d) d).1).2, (syncD (cutsD (scanG d.now 800 [] []).2 (namesD d) d).1).1⟩ := by
  unfold openD
  rw [if_neg (by rw [h]; exact Bool.noConfusion), if_neg (fun e => e h2), if_pos h3]
theorem open_fine {d : Dk} (h : d.dead = false) (h2 : (cutsD (scanG d.now 800 [] []).2 (namesD d) d).2 = 0) (h3 : (syncD (cutsD (scanG d.now 800 [] []).2 (namesD d) d).1).2 = 0) : openD d = ⟨some ⟨(scanG d.now 800 [] []).1.length, endOf (scanG d.now 800 [] []).2 (nameS ((scanG d.now 800 [] []).1.length / 8)), false⟩, (scanG d.now 800 [] []).1, 0, (syncD (cutsD (scanG d.now 800 [] []).2 (namesD d) d).1).1⟩ := by
  unfold openD
  rw [if_neg (by rw [h]; exact Bool.noConfusion), if_neg (fun e => e h2), if_neg (fun e => e h3)]
theorem cuts_skip {E : Ends} {p : ByteArray} {r : List ByteArray} {d : Dk} (h : ¬ endOf E p < (hasD d.now p).size) : cutsD E (p :: r) d = cutsD E r d := by
  rw [cutsD, if_neg h]
theorem cuts_stop {E : Ends} {p : ByteArray} {r : List ByteArray} {d : Dk} (h : endOf E p < (hasD d.now p).size) (h2 : (cutD d p (endOf E p)).2 ≠ 0) : cutsD E (p :: r) d = cutD d p (endOf E p) := by
  rw [cutsD, if_pos h, if_pos h2]
theorem cuts_go {E : Ends} {p : ByteArray} {r : List ByteArray} {d : Dk} (h : endOf E p < (hasD d.now p).size) (h2 : (cutD d p (endOf E p)).2 = 0) : cutsD E (p :: r) d = cutsD E r (cutD d p (endOf E p)).1 := by
  rw [cutsD, if_pos h, if_neg (fun e => e h2)]
/-- A log in memory. -/
def LAt (w : World) (lb db : Nat) (l : Lg) : Prop := VarAt w lb [.pointer (some ⟨db, 0, none⟩), .int .i64 l.many, .int .i64 l.fin, .bool l.dead]
/-- What an opening answers. -/
def OpenIs (w : World) (db : Nat) (S : Nat → Prop) (o : OpenR) (e : Ending) (w' : World) : Prop :=
  ∃ T, DOk w' db T o.d ∧ (∀ k, T k → S k ∨ w.heap.size ≤ k) ∧ Turned S w.heap.size w w' ∧
    ((o.log = none ∧ o.out = [] ∧ e = .returned (.tuple #[.pointer none, .slice none 0 0, .int .i64 o.err])) ∨
     ∃ l lb v, o.log = some l ∧ e = .returned (.tuple #[.pointer (some ⟨lb, 0, none⟩), v, .int .i64 o.err]) ∧ LAt w' lb db l ∧ w.heap.size ≤ lb ∧ ¬ T lb ∧ OwnRows strLay w' w.heap.size 9 v o.out ∧ ∀ k, v.ownBlock = some k → ¬ T k ∧ k ≠ lb)
end Go.Proofs.YtgglheelhbfgiaaGreatDoor

namespace Go.Proofs.YtgglheelhbfgiaaGreatDoor
open Go Go.RowKit Go.Lib
theorem OpenIs.none {w w' : World} {db : Nat} {S : Nat → Prop} {o : OpenR} {d : Dk} {n : Int} (ho : o = ⟨.none, [], n, d⟩) (h : DIn S w w' db d) : OpenIs w db S o (.returned (.tuple #[.pointer .none, .slice .none 0 0, .int .i64 n])) w' := by
  subst ho
  obtain ⟨T, h1, h2, h3⟩ := h
  exact ⟨T, h1, h2, h3, .inl ⟨rfl, rfl, rfl⟩⟩
theorem DIn.from {S : Nat → Prop} {w B w' : World} {db : Nat} {d : Dk} (hb : Below w.heap.size w B) (h : DIn S B w' db d) : DIn S w w' db d := by
  obtain ⟨T, h1, h2, h3⟩ := h
  exact ⟨T, h1, fun k hk => (h2 k hk).imp id fun h => Nat.le_trans hb.size h, (Turned.of_below hb (Nat.le_refl _)).trans (h3.mono hb.size fun _ _ h => h)⟩
set_option maxRecDepth 100000 in
set_option maxHeartbeats 3200000 in
theorem sopen_any {w : World} {db base : Nat} {S : Nat → Prop} {d : Dk} (h : DOk w db S d) (hl : d.now.length ≤ 100000) (hal : d.acts.length ≤ 900000000) (ht : TabB base w) (hS : ∀ k, S k → base ≤ k) :
    Calls Tryz.prog 9 #[.pointer (some ⟨db, 0, none⟩)] w fun e w' => OpenIs w db S (openD d) e w' := by
  have HDd := Lib.hid (ddead_any h)
  cases hd : d.dead with
  | true =>
    rw [hd] at HDd
    have Ho := Lib.hid (open_dead hd)
    have HX := Lib.hid (DIn.start h)
    clear h ht hd
    go_enter Tryz.func9, Tryz.ntmps9
    go_wp2_with fail
    refine HDd.out.mono ?_
    rintro e w1 ⟨rfl, rfl⟩
    go_wp2_with fail
    go_ret3
    exact OpenIs.none Ho.out HX.out
  | false =>
    rw [hd] at HDd
    have HSc := Lib.hid (sscan_any h hd)
    have Hcut := Lib.hid (open_cut hd)
    have Hsync := Lib.hid (open_sync hd)
    have Hfine := Lib.hid (open_fine hd)
    have HD := Lib.hid h
    have Hd := Lib.hid hd
    have HKy := Lib.hid h.ok.now.keys
    have Hslt := Lib.hid h.slt
    obtain ⟨O, hO⟩ : ∃ O, openD d = O := ⟨_, rfl⟩
    rw [hO] at Hcut Hsync Hfine ⊢
    obtain ⟨Rg, hRg⟩ : ∃ Rg, scanG d.now 800 [] [] = Rg := ⟨_, rfl⟩
    rw [hRg] at HSc Hcut Hsync Hfine
    obtain ⟨ro, E⟩ := Rg
    dsimp only at HSc Hcut Hsync Hfine
    have HT := Lib.hid ht
    have Hl := Lib.hid hl
    have Hal := Lib.hid hal
    have HSb := Lib.hid hS
    clear hO hRg h hd ht hl hal hS
    go_enter Tryz.func9, Tryz.ntmps9
    go_wp2_with fail
    refine HDd.out.mono ?_
    rintro e w0 ⟨rfl, hw0⟩
    rw [hw0]
    clear hw0
    go_wp2_with fail
    refine HSc.out.mono ?_
    rintro e w1 ⟨v, mb, rfl, ho1, hmb, hM1, hE, hEl, hrl, hb1⟩
    obtain ⟨va, vc, rfl, _, _⟩ := ho1.read
    go_wp2_with fail
    refine (dnames_any (HD.out.below hb1) Hl.out).mono ?_
    rintro e w2 ⟨u, rfl, hu2, hb2⟩
    obtain ⟨ua, uc, rfl, hur, _⟩ := hu2.read
    have hb12 := hb1.trans (hb2.mono hb1.size)
    have ho2 := ho1.below hb2
    have hM2 := hM1.keeps hb2 hM1.lt
    have Hown := Lib.hid (show ∀ W, Turned S w2.heap.size w2 W → OwnRows strLay W (w.heap.size + 1) 9 (.slice va ro.length vc) ro ∧ MapK intV Tryz.prog 9 W mb E ∧ OwnRows strLay W w1.heap.size 9 (.slice ua (namesD d).length uc) (namesD d) from fun W hW =>
      ⟨ho2.turnedOther hW fun k hk hs => by have := (ho2.lt hk).1; have := Hslt.out k hs; omega,
       hM2.same (hW.block mb hM2.lt fun hs => by have := Hslt.out mb hs; omega),
       hu2.turnedOther hW fun k hk hs => by have := (hu2.lt hk).1; have := Hslt.out k hs; have := hb1.size; omega⟩)
    have HB2 := Lib.hid hb12
    have Hvb := Lib.hid (show ∀ j, (Value.slice va ro.length vc).ownBlock = some j → j < w2.heap.size from fun j hj => (ho2.lt hj).2)
    have Hin0 := Lib.hid (DIn.start (HD.out.below hb12))
    have hnl : (namesD d).length = d.now.length := List.length_map ..
    have Hnl := Lib.hid hnl
    have hmbw := hmb
    have HMb := Lib.hid (show w.heap.size = mb ∧ w.heap.size + 1 ≤ w2.heap.size from ⟨hmb, by have := hM2.lt; omega⟩)
    have hE0 := hE
    have HE := Lib.hid hE
    have Hl100 := Lib.hid (show (namesD d).length ≤ 100000 by rw [hnl]; exact Hl.out)
    have HNm := Lib.hid (show ∀ p ∈ namesD d, p.size ≤ 24 ∧ p.size ≠ 0 from fun p hp => by
      obtain ⟨x, hx, rfl⟩ := List.mem_map.1 hp
      exact HKy.out x hx)
    clear hb1 hb2 hb12 ho1 ho2 hM1 hM2 hu2 hur hmb hmbw hE hE0 hnl hEl
    obtain ⟨ns, hNd⟩ : ∃ ns, namesD d = ns := ⟨_, rfl⟩
    rw [hNd] at Hown Hnl Hl100 HNm Hcut Hsync Hfine ⊢
    have HNd := Lib.hid hNd
    clear hNd
    go_wp2_with fail
    go_loopw [8, 9, 10, 11, 27] (fun _ _ _ _ i wr => ∃ (k : Nat) (dk : Dk), k ≤ ns.length ∧ i = .int .i64 k ∧ DIn S w2 wr db dk ∧ Hid (cutsD E ns d = cutsD E (ns.drop k) dk) ∧ Hid (dk.dead = false ∧ dk.now.length ≤ d.now.length ∧ dk.acts.length ≤ d.acts.length + k)) (fun _ _ _ _ i _ => ns.length - (RowKit.intOf i).toNat)
    case atStart => exact ⟨0, d, Nat.zero_le _, rfl, Hin0.out, Lib.hid rfl, Lib.hid ⟨Hd.out, Nat.le_refl _, Nat.le_refl _⟩⟩
    case round =>
      obtain ⟨k, dk, hk, rfl, hIn, Hc, Hdk⟩ := hrel
      by_cases hlt : k < ns.length
      · obtain ⟨p, hp⟩ := at_some hlt
        have hps := HNm.out p (List.mem_of_getElem? hp)
        have Hdrop := Lib.hid (show ns.drop k = p :: ns.drop (k + 1) from drop_at hp)
        rw [Hdrop.out] at Hc
        obtain ⟨T, hDk, hT1, hT2⟩ := hIn
        obtain ⟨ho, hM, hu⟩ := Hown.out wr hT2
        obtain ⟨ua', uc', hue, hur, _⟩ := hu.read
        cases hue
        obtain ⟨bx, off, hae, hbl, hc⟩ := hur k _ hp
        have hc0 : wr.cell? ⟨bx, off + k, none⟩ = some (.string p) := by
          have := hc 0 _ rfl
          rwa [show off + k * strLay.sz + 0 = off + k by show off + k * 1 + 0 = _; omega] at this
        have hlti : (k : Int) < (ns.length : Int) := by omega
        have hl100 := Hl100.out
        have HRd := Lib.hid (dread_any hDk p)
        have HX := Lib.hid (read_hasN Hdk.out.1 hps)
        rw [HX.out] at HRd
        have hlk : (Instr.lookup 83 (.map (some mb)) (.string p) false).run Tryz.prog wr = .ok (.int .i64 (endOf E p)) wr := MapK.look1 (t := 83) hM dkeyL Tryz.underlying9 Tryz.underlying83 (zeroIntS wr) (p := p) (by unfold maxLen; omega)
        have hlow := HE.out.low p
        have hhas := hDk.ok.now.has p
        have Hskip := Lib.hid (fun hq => Hc.out.trans (cuts_skip (E := E) (p := p) (r := ns.drop (k + 1)) (d := dk) hq))
        have Hstop := Lib.hid (fun hq hq2 => Hc.out.trans (cuts_stop (E := E) (p := p) (r := ns.drop (k + 1)) (d := dk) hq hq2))
        have Hgo := Lib.hid (fun hq hq2 => Hc.out.trans (cuts_go (E := E) (p := p) (r := ns.drop (k + 1)) (d := dk) hq hq2))
        obtain ⟨m, hm⟩ : ∃ m : Nat, endOf E p = (m : Int) := ⟨(endOf E p).toNat, by omega⟩
        rw [hm] at hlk Hskip Hstop Hgo
        have HCt := Lib.hid (dcut_any hDk p (m : Int) (by have := Hdk.out; have := Hl.out; omega) (by have := Hdk.out; have := Hal.out; have := Hl100.out; omega))
        have Hal2 := Lib.hid (cut_alive (d := dk) (p := p) (n := (m : Int)))
        have HDk := Lib.hid hDk
        subst hae
        generalize hasD dk.now p = s at *
        clear hc hp ho hM hu hur hm hlow hDk
        by_cases hgt : (m : Int) < (s.size : Int)
        · have hgtn : m < s.size := by omega
          go_wp2_with fail
          refine HRd.out.mono ?_
          rintro e w3 ⟨rfl, hw3⟩
          subst hw3
          go_wp2_with fail
          refine HCt.out.mono ?_
          rintro e w4 ⟨rfl, hg4⟩
          have hIn4 := DIn.step hT1 hT2 hg4
          by_cases he : (cutD dk p (m : Int)).2 = 0
          · have Hn := Lib.hid (Hgo.out hgt he)
            have Ha := Lib.hid (Hal2.out he)
            rw [he]
            clear he
            generalize (cutD dk p (m : Int)).1 = d4 at *
            clear hg4 hT1 hT2
            go_wp2_with fail
            go_roundw
            case rel => exact ⟨k + 1, d4, by omega, by go_num, hIn4, Hn, Lib.hid ⟨Ha.out.1, by have := Ha.out; have := Hdk.out; omega, by have := Ha.out; have := Hdk.out; omega⟩⟩
            case measure => simp [RowKit.intOf]; omega
          · have Hn := Lib.hid (Hstop.out hgt he)
            have hq := neq_int he
            have Hne := Lib.hid he
            clear he hg4 hT1 hT2
            have Ho := Lib.hid (Hcut.out (by rw [Hn.out]; exact Hne.out))
            rw [Hn.out] at Ho
            generalize (cutD dk p (m : Int)).2 = er at *
            go_wp2_with fail
            go_ret3
            exact OpenIs.none Ho.out (DIn.from HB2.out hIn4)
        · have hng : (s.size : Int) ≤ (m : Int) := by omega
          have hngn : s.size ≤ m := by omega
          have Hn := Lib.hid (Hskip.out hgt)
          go_wp2_with fail
          refine HRd.out.mono ?_
          rintro e w3 ⟨rfl, hw3⟩
          subst hw3
          go_wp2_with fail
          go_roundw
          case rel => exact ⟨k + 1, dk, by omega, by go_num, ⟨T, HDk.out, hT1, hT2⟩, Hn, Lib.hid ⟨Hdk.out.1, Hdk.out.2.1, by have := Hdk.out; omega⟩⟩
          case measure => simp [RowKit.intOf]; omega
      · obtain rfl : k = ns.length := by omega
        have hcd : cutsD E ns d = (dk, 0) := by
          have := Hc.out
          rw [List.drop_length] at this
          exact this
        obtain ⟨T, hDk, hT1, hT2⟩ := hIn
        obtain ⟨ho, hM, _⟩ := Hown.out wr hT2
        have Ho := Lib.hid ho
        have HM := Lib.hid hM
        have HDk := Lib.hid hDk
        have Hc0 := Lib.hid (show (cutsD E ns d).2 = 0 by rw [hcd])
        have Hc1 := Lib.hid (show (cutsD E ns d).1 = dk by rw [hcd])
        have HSy := Lib.hid (dsync_any hDk)
        rw [Hc1.out] at Hsync Hfine
        clear hcd ho hM hDk
        go_wp2_with fail
        refine HSy.out.mono ?_
        rintro e w4 ⟨rfl, hg4⟩
        have hIn4 := DIn.step hT1 hT2 hg4
        clear hg4 hT1
        by_cases he : (syncD dk).2 = 0
        · have HO := Lib.hid (Hfine.out Hc0.out he)
          rw [he]
          clear he
          generalize (syncD dk).1 = d4 at *
          obtain ⟨T4, hD4, hT41, hT42⟩ := hIn4
          obtain ⟨ho4, hM4, _⟩ := Hown.out w4 hT42
          have ht4 := (HT.out.below HB2.out).turned hT42 (HT.out.below HB2.out).le HSb.out
          have Htt := Lib.hid ht4.tab
          have hk8 : ro.length / 8 ≤ 9999 := by omega
          have hq8 : ((ro.length / 8 : Nat) : Int) = (ro.length : Int) / 8 := by omega
          have HNm8 := Lib.hid (snameT_any (ro.length / 8) hk8 w4 Htt.out)
          have hnz := (name_size (k := ro.length / 8) (by omega)).2
          have Hlk4 := Lib.hid fun W (hW : Below w4.heap.size w4 W) => (show (Instr.lookup 83 (.map (some mb)) (.string (nameS (ro.length / 8))) false).run Tryz.prog W = .ok (.int .i64 (endOf E (nameS (ro.length / 8)))) W from MapK.look1 (t := 83) (hM4.keeps hW hM4.lt) dkeyL Tryz.underlying9 Tryz.underlying83 (zeroIntS W) (p := nameS (ro.length / 8)) (by unfold maxLen; omega))
          have HD4 := Lib.hid hD4
          have Ho4 := Lib.hid ho4
          have HT42 := Lib.hid hT42
          clear hD4 ho4 hM4 hT42 ht4 hT2
          generalize nameS (ro.length / 8) = nm at *
          generalize endOf E nm = en at *
          go_wp2_with fail
          refine HNm8.out.mono ?_
          rintro e w5 ⟨rfl, hb5⟩
          have hlk5 := Hlk4.out w5 hb5
          have Hb5 := Lib.hid hb5
          clear hb5
          go_wp2_with fail
          go_ret3
          have hb6 : Below w4.heap.size w4 (w5.alloc (.cells #[.pointer (some ⟨db, 0, none⟩), .int .i64 ro.length, .int .i64 en, .bool false] 90)) := Hb5.out.alloc Hb5.out.size _
          have hBz := HB2.out
          have hbz : Turned S w.heap.size w (w5.alloc (.cells #[.pointer (some ⟨db, 0, none⟩), .int .i64 ro.length, .int .i64 en, .bool false] 90)) := (Turned.of_below hBz (Nat.le_refl _)).trans ((HT42.out.trans (Turned.of_below hb6 HT42.out.size)).mono hBz.size fun _ _ h => h)
          have hsz5 := Hb5.out.size
          have hsz4 := HT42.out.size
          have hszB := hBz.size
          rw [HO.out]
          refine ⟨T4, HD4.out.below hb6, fun j hj => (hT41 j hj).imp id fun h => Nat.le_trans hszB h, hbz, .inr ⟨_, w5.heap.size, .slice va ro.length vc, rfl, rfl, VarAt.new w5 _ _, by omega, fun hj => by have := HD4.out.slt _ hj; omega, ((Ho4.out.below hb6).lower (by omega)), fun j hj => ?_⟩⟩
          have hj1 := (Ho4.out.lt hj)
          refine ⟨fun hT => ?_, by omega⟩
          rcases hT41 j hT with h | h
          · have := Hslt.out j h
            omega
          · have := Hvb.out j hj
            omega
        · have hq := neq_int he
          have HO := Lib.hid (Hsync.out Hc0.out he)
          clear he
          generalize (syncD dk).2 = er at *
          go_wp2_with fail
          go_ret3
          exact OpenIs.none HO.out (DIn.from HB2.out hIn4)
end Go.Proofs.YtgglheelhbfgiaaGreatDoor

namespace Go.Proofs.YtgglheelhbfgiaaGreatDoor
open Go Go.RowKit Go.Lib
theorem write_parts {d : Dk} {p : ByteArray} {n : Int} {data : ByteArray} (h : (writeD d p n data).2 = 0) : 0 ≤ n ∧ n ≤ d.limit ∧ (writeD d p n data).1.dead = false ∧ (writeD d p n data).1.now.length ≤ d.now.length + 1 ∧ (writeD d p n data).1.acts.length ≤ d.acts.length + 1 ∧ (writeD d p n data).1.limit = d.limit := by
  unfold writeD at h ⊢
  by_cases hw : wrongD d p n ≠ 0
  · rw [if_pos hw] at h
    exact absurd h hw
  · rw [if_neg hw] at h ⊢
    obtain ⟨_, _, _, h4, h5⟩ := wrongD_ok (Decidable.not_not.1 hw)
    by_cases hf : (d.limit : Int) - max ((hasD d.now p).size : Int) (n + data.size) < (sizeF d.now : Int) - (hasD d.now p).size
    · rw [if_pos hf] at h
      cases h
    · rw [if_neg hf] at h ⊢
      obtain ⟨e1, e2, e3⟩ := does_parts h
      rw [e2, e3]
      refine ⟨h4, h5, e1, doD_len _ _ _, by simp, ?_⟩
      cases hz : (diesD { d with acts := d.acts ++ [⟨false, p, n.toNat, data⟩] }).dead with
      | true => rw [does_dead hz] at h; cases h
      | false =>
        rw [does_alive hz]
        exact (dies_same { d with acts := d.acts ++ [⟨false, p, n.toNat, data⟩] }).2.2.2
theorem lay_stop {many i : Nat} {at_ : Int} {s : ByteArray} {r : List ByteArray} {d : Dk} (h : (writeD d (nameS ((many + i) / 8)) (if (many + i) % 8 = 0 then 0 else at_) (frameB (many + i) s)).2 ≠ 0) : layG many i at_ (s :: r) d = ((writeD d (nameS ((many + i) / 8)) (if (many + i) % 8 = 0 then 0 else at_) (frameB (many + i) s)).1, 0, (writeD d (nameS ((many + i) / 8)) (if (many + i) % 8 = 0 then 0 else at_) (frameB (many + i) s)).2) := by
  rw [layG, if_pos h]
theorem lay_go {many i : Nat} {at_ : Int} {s : ByteArray} {r : List ByteArray} {d : Dk} (h : (writeD d (nameS ((many + i) / 8)) (if (many + i) % 8 = 0 then 0 else at_) (frameB (many + i) s)).2 = 0) : layG many i at_ (s :: r) d = layG many (i + 1) ((if (many + i) % 8 = 0 then 0 else at_) + (frameB (many + i) s).size) r (writeD d (nameS ((many + i) / 8)) (if (many + i) % 8 = 0 then 0 else at_) (frameB (many + i) s)).1 := by
  rw [layG, if_neg (fun e => e h)]
theorem rows_block {α : Type} {L : Lay α} {w : World} {ad : Addr} {xs : List α} (h : RowsAt L w (some ad) xs) (h0 : 0 < xs.length) : ad.block < w.heap.size := by
  obtain ⟨b, off, e, hlt, _⟩ := h 0 xs[0] (List.getElem?_eq_getElem h0)
  cases e
  exact hlt
theorem frameB_size (n : Nat) (s : ByteArray) : (frameB n s).size ≤ 36 + s.size := by
  unfold frameB
  rw [mkB_size]
  exact frame_le2
set_option maxRecDepth 100000 in
set_option maxHeartbeats 6400000 in
theorem slay_any {w : World} {db lb : Nat} {S : Nat → Prop} {d : Dk} {l : Lg} (h : DOk w db S d) (hL : LAt w lb db l) (hlb : ¬ S lb) (a : Option Addr) (cap : Nat) (rs : List ByteArray) (hR : RowsAt strLay w a rs) (hRa : ∀ ad, a = some ad → 0 < rs.length → ad.block < w.heap.size ∧ ¬ S ad.block)
    (hn : l.many + rs.length ≤ 800) (hrs : ∀ s ∈ rs, s.size ≤ 2000) (hl : d.now.length ≤ 99000) (hal : d.acts.length ≤ 900000000) :
    Calls Tryz.prog 57 #[.pointer (some ⟨lb, 0, none⟩), .slice a rs.length cap] w fun e w' => e = .returned (.tuple #[.int .i64 (layD l rs d).2.1, .int .i64 (layD l rs d).2.2]) ∧ DIn S w w' db (layD l rs d).1 := by
  have HL := Lib.hid hL
  have HR := Lib.hid hR
  have HRa := Lib.hid hRa
  have Hrs := Lib.hid hrs
  have Hlb := Lib.hid hlb
  have Hin0 := Lib.hid (DIn.start h)
  have Hld := Lib.hid (show layD l rs d = if (layG l.many 0 l.fin rs d).2.2 ≠ 0 then layG l.many 0 l.fin rs d else ((syncD (layG l.many 0 l.fin rs d).1).1, (layG l.many 0 l.fin rs d).2.1, (syncD (layG l.many 0 l.fin rs d).1).2) from rfl)
  have HK := Lib.hid (show ∀ W, Turned S w.heap.size w W → LAt W lb db l ∧ RowsAt strLay W a rs from fun W hW => ⟨hL.same (hW.block lb hL.1 hlb) hW.size, by
    by_cases h0 : 0 < rs.length
    · exact hR.turned hW fun ad e => hRa ad e h0
    · rw [show rs = [] from List.length_eq_zero_iff.1 (by omega)]
      exact RowsAt.nil _ _ _⟩)
  have c2 : w.cell? ⟨lb, 2, none⟩ = some (.int .i64 l.fin) := hL.2.2 2 _ rfl
  obtain ⟨many, fin, dead⟩ := l
  dsimp only at c2 hn Hld
  have Hlim := Lib.hid h.ok.limit
  have Hl := Lib.hid hl
  have Hal := Lib.hid hal
  clear h hL hlb hR hRa hrs hl hal
  generalize layD ⟨many, fin, dead⟩ rs d = LD at *
  go_enter Tryz.func57, Tryz.ntmps57
  go_wp2_with fail
  go_loopw [6, 7, 8, 9, 10, 11, 18] (fun q _ _ _ _ _ i wr => ∃ (k : Nat) (at_ : Int) (dk : Dk), k ≤ rs.length ∧ i = .int .i64 k ∧ q = .int .i64 at_ ∧ DIn S w wr db dk ∧ Hid (layG many 0 fin rs d = layG many k at_ (rs.drop k) dk) ∧ Hid (dk.now.length ≤ d.now.length + k ∧ dk.acts.length ≤ d.acts.length + k ∧ dk.limit = d.limit)) (fun _ _ _ _ _ _ i _ => rs.length - (RowKit.intOf i).toNat)
  case atStart => exact ⟨0, fin, d, Nat.zero_le _, rfl, rfl, Hin0.out, Lib.hid rfl, Lib.hid ⟨Nat.le_refl _, Nat.le_refl _, rfl⟩⟩
  case round =>
    obtain ⟨k, at_, dk, hk, rfl, rfl, hIn, Hc, Hdk⟩ := hrel
    by_cases hlt : k < rs.length
    · obtain ⟨s, hs⟩ := at_some hlt
      have hss := Hrs.out s (List.mem_of_getElem? hs)
      have Hdrop := Lib.hid (show rs.drop k = s :: rs.drop (k + 1) from drop_at hs)
      rw [Hdrop.out] at Hc
      obtain ⟨T, hDk, hT1, hT2⟩ := hIn
      obtain ⟨hL, hR⟩ := HK.out wr hT2
      obtain ⟨bx, off, hae, hbl, hc⟩ := hR k _ hs
      have hc0 : wr.cell? ⟨bx, off + k, none⟩ = some (.string s) := by
        have := hc 0 _ rfl
        rwa [show off + k * strLay.sz + 0 = off + k by show off + k * 1 + 0 = _; omega] at this
      have hlti : (k : Int) < (rs.length : Int) := by omega
      have c0 : wr.cell? ⟨lb, 0, none⟩ = some (.pointer (some ⟨db, 0, none⟩)) := hL.2.2 0 _ rfl
      have c1 : wr.cell? ⟨lb, 1, none⟩ = some (.int .i64 many) := hL.2.2 1 _ rfl
      subst hae
      clear hc hs hR hL c2
      have Hstop := Lib.hid (fun hq => Hc.out.trans (lay_stop (many := many) (i := k) (at_ := at_) (s := s) (r := rs.drop (k + 1)) (d := dk) hq))
      have Hgo := Lib.hid (fun hq => Hc.out.trans (lay_go (many := many) (i := k) (at_ := at_) (s := s) (r := rs.drop (k + 1)) (d := dk) hq))
      obtain ⟨n, hnk⟩ : ∃ n, many + k = n := ⟨_, rfl⟩
      have hni : (many : Int) + (k : Int) = (n : Int) := by omega
      have hn8 : n < 800 := by omega
      rw [hnk] at Hstop Hgo
      have hq8 : ((n / 8 : Nat) : Int) = (n : Int) / 8 := by omega
      have hr8 : ((n % 8 : Nat) : Int) = (n : Int) % 8 := by omega
      have HNm := Lib.hid fun W => sname_any (n / 8) (by omega) W
      rw [hq8] at HNm
      have Hwr := Lib.hid (show IntKind.i64.wrap ((n : Int) / 8) = (n : Int) / 8 from IntWalk.i64_in _ (by omega))
      have HFr := Lib.hid fun W => frame_any n s W (by omega)
      have hfz := frameB_size n s
      obtain ⟨pos, hpos⟩ : ∃ pos : Int, (if n % 8 = 0 then 0 else at_) = pos := ⟨_, rfl⟩
      rw [hpos] at Hstop Hgo
      have Hw := Lib.hid fun (W : World) (hW : Below wr.heap.size wr W) => dwrite_any (hDk.below hW) (nameS (n / 8)) pos (frameB n s) (by have := Hdk.out; have := Hl.out; omega) (by have := Hdk.out; have := Hal.out; omega) (by omega)
      have Hwp := Lib.hid fun hq => write_parts (d := dk) (p := nameS (n / 8)) (n := pos) (data := frameB n s) hq
      have HDk := Lib.hid hDk
      have Hpos := Lib.hid hpos
      clear hDk hpos hnk
      have hz8 : (n % 8 = 0 ∧ pos = 0) ∨ (n % 8 ≠ 0 ∧ pos = at_) := by
        have := Hpos.out
        by_cases h8 : n % 8 = 0
        · rw [if_pos h8] at this
          exact .inl ⟨h8, this.symm⟩
        · rw [if_neg h8] at this
          exact .inr ⟨h8, this.symm⟩
      generalize nameS (n / 8) = nm at *
      generalize frameB n s = fr at *
      rcases hz8 with ⟨h8, rfl⟩ | ⟨h8, rfl⟩
      · have hmi : (n : Int) % 8 = 0 := by omega
        go_wp2_with fail
        refine (HFr.out _).mono ?_
        rintro e w1 ⟨rfl, hb1⟩
        have hfr2 : fr.size ≤ 8000 := by omega
        have k0 : w1.drew.cell? ⟨lb, 0, none⟩ = some (.pointer (some ⟨db, 0, none⟩)) := (hb1.cell (p := ⟨lb, 0, none⟩) (block_lt_of_cell c0)).trans c0
        have j0 : w1.cell? ⟨lb, 0, none⟩ = some (.pointer (some ⟨db, 0, none⟩)) := k0
        have hbd : Below wr.heap.size wr w1.drew := belowDrew hb1 1
        have hlbl : lb < w1.drew.heap.size := block_lt_of_cell k0
        have hlbT : ¬ T lb := fun h => by
          rcases hT1 lb h with h | h
          · exact Hlb.out h
          · have := HL.out.1
            omega
        have HT1 := Lib.hid hT1
        have HT2 := Lib.hid (hT2.trans (Turned.of_below hbd hT2.size))
        clear hb1 hT1 hT2
        go_wp2_with fail
        go_region_held3 (fun w' => w'.cell? ⟨lb, 0, none⟩ = some (.pointer (some ⟨db, 0, none⟩)))
          (first | exact k0 | exact hK9 | go_keep)
          (first | (go_at_call 53; rw [Hwr.out]; refine (HNm.out _).mono ?_; rintro e w5 ⟨rfl, rfl⟩) | (go_at_call 21; refine (Hw.out _ hbd).mono ?_; rintro e w4 ⟨rfl, hg4⟩; have hK9 : w4.cell? ⟨lb, 0, none⟩ = some (.pointer (some ⟨db, 0, none⟩)) := (cell_same (hg4.2.block lb hlbl hlbT) 0).trans k0))
        have hIn4 := DIn.step HT1.out HT2.out hg4
        clear hg4 k0 hbd
        by_cases he : (writeD dk nm 0 fr).2 = 0
        · have Hn := Lib.hid (Hgo.out he)
          obtain ⟨a1, a2, a3, a4, a5, a6⟩ := Hwp.out he
          have Ha := Lib.hid (show dk.now.length + 1 ≤ d.now.length + (k + 1) ∧ dk.acts.length + 1 ≤ d.acts.length + (k + 1) from ⟨by have := Hdk.out; omega, by have := Hdk.out; omega⟩)
          have hlm : 0 ≤ 4194304 := by have := Hdk.out; have := Hlim.out; omega
          have Ha6 := Lib.hid (a6.trans Hdk.out.2.2)
          have Ha4 := Lib.hid a4
          have Ha5 := Lib.hid a5
          rw [he]
          clear he a2 a3 a4 a5 a6
          generalize (writeD dk nm 0 fr).1 = d4 at *
          go_wp2_with fail
          go_roundw
          case rel => exact ⟨k + 1, _, d4, by omega, by go_num, by go_num, hIn4, Hn, Lib.hid ⟨Nat.le_trans Ha4.out Ha.out.1, Nat.le_trans Ha5.out Ha.out.2, Ha6.out⟩⟩
          case measure => simp [RowKit.intOf]; omega
        · have Hn := Lib.hid (Hstop.out he)
          have hq := neq_int he
          have Ho := Lib.hid (Hld.out.trans (if_pos (by rw [show layG many 0 fin rs d = _ from Hn.out]; exact he)))
          rw [show layG many 0 fin rs d = _ from Hn.out] at Ho
          clear he
          generalize (writeD dk nm 0 fr).2 = er at *
          go_wp2_with fail
          go_ret2
          rw [Ho.out]
          exact ⟨rfl, hIn4⟩
      · have hmi : ¬ ((n : Int) % 8 = 0) := by omega
        have hmb : ((n : Int) % 8 == 0) = false := beq_eq_false_iff_ne.2 hmi
        go_wp2_with fail
        refine (HFr.out _).mono ?_
        rintro e w1 ⟨rfl, hb1⟩
        have hfr2 : fr.size ≤ 8000 := by omega
        have k0 : w1.drew.cell? ⟨lb, 0, none⟩ = some (.pointer (some ⟨db, 0, none⟩)) := (hb1.cell (p := ⟨lb, 0, none⟩) (block_lt_of_cell c0)).trans c0
        have j0 : w1.cell? ⟨lb, 0, none⟩ = some (.pointer (some ⟨db, 0, none⟩)) := k0
        have hbd : Below wr.heap.size wr w1.drew := belowDrew hb1 1
        have hlbl : lb < w1.drew.heap.size := block_lt_of_cell k0
        have hlbT : ¬ T lb := fun h => by
          rcases hT1 lb h with h | h
          · exact Hlb.out h
          · have := HL.out.1
            omega
        have HT1 := Lib.hid hT1
        have HT2 := Lib.hid (hT2.trans (Turned.of_below hbd hT2.size))
        clear hb1 hT1 hT2
        go_wp2_with fail
        go_region_held3 (fun w' => w'.cell? ⟨lb, 0, none⟩ = some (.pointer (some ⟨db, 0, none⟩)))
          (first | exact k0 | exact hK9 | go_keep)
          (first | (go_at_call 53; rw [Hwr.out]; refine (HNm.out _).mono ?_; rintro e w5 ⟨rfl, rfl⟩) | (go_at_call 21; refine (Hw.out _ hbd).mono ?_; rintro e w4 ⟨rfl, hg4⟩; have hK9 : w4.cell? ⟨lb, 0, none⟩ = some (.pointer (some ⟨db, 0, none⟩)) := (cell_same (hg4.2.block lb hlbl hlbT) 0).trans k0))
        have hIn4 := DIn.step HT1.out HT2.out hg4
        clear hg4 k0 hbd
        by_cases he : (writeD dk nm pos fr).2 = 0
        · have Hn := Lib.hid (Hgo.out he)
          obtain ⟨a1, a2, a3, a4, a5, a6⟩ := Hwp.out he
          have Ha := Lib.hid (show dk.now.length + 1 ≤ d.now.length + (k + 1) ∧ dk.acts.length + 1 ≤ d.acts.length + (k + 1) from ⟨by have := Hdk.out; omega, by have := Hdk.out; omega⟩)
          have hlm : pos ≤ 4194304 := by have := Hdk.out; have := Hlim.out; omega
          have Ha6 := Lib.hid (a6.trans Hdk.out.2.2)
          have Ha4 := Lib.hid a4
          have Ha5 := Lib.hid a5
          rw [he]
          clear he a2 a3 a4 a5 a6
          generalize (writeD dk nm pos fr).1 = d4 at *
          go_wp2_with fail
          go_roundw
          case rel => exact ⟨k + 1, _, d4, by omega, by go_num, by go_num, hIn4, Hn, Lib.hid ⟨Nat.le_trans Ha4.out Ha.out.1, Nat.le_trans Ha5.out Ha.out.2, Ha6.out⟩⟩
          case measure => simp [RowKit.intOf]; omega
        · have Hn := Lib.hid (Hstop.out he)
          have hq := neq_int he
          have Ho := Lib.hid (Hld.out.trans (if_pos (by rw [show layG many 0 fin rs d = _ from Hn.out]; exact he)))
          rw [show layG many 0 fin rs d = _ from Hn.out] at Ho
          clear he
          generalize (writeD dk nm pos fr).2 = er at *
          go_wp2_with fail
          go_ret2
          rw [Ho.out]
          exact ⟨rfl, hIn4⟩
    · obtain rfl : k = rs.length := by omega
      have hG : layG many 0 fin rs d = (dk, at_, 0) := by
        have := Hc.out
        rw [List.drop_length] at this
        exact this
      have Ho := Lib.hid (Hld.out.trans (if_neg (by rw [hG]; exact fun e => e rfl)))
      rw [hG] at Ho
      obtain ⟨T, hDk, hT1, hT2⟩ := hIn
      obtain ⟨hL, hR⟩ := HK.out wr hT2
      have c0 : wr.cell? ⟨lb, 0, none⟩ = some (.pointer (some ⟨db, 0, none⟩)) := hL.2.2 0 _ rfl
      have HSy := Lib.hid (dsync_any hDk)
      clear hG hDk hL hR
      go_wp2_with fail
      refine HSy.out.mono ?_
      rintro e w4 ⟨rfl, hg4⟩
      have hIn4 := DIn.step hT1 hT2 hg4
      clear hg4
      go_wp2_with fail
      go_ret2
      rw [Ho.out]
      exact ⟨rfl, hIn4⟩
end Go.Proofs.YtgglheelhbfgiaaGreatDoor

