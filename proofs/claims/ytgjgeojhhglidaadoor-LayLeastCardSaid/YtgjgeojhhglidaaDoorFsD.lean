/-
  What acts make of a file system. What acts make of the reference's file system.
-/
import Derived.Test.YtgjgeojhhglidaaDoorFsR
import Derived.Deep.RegionHeld3
namespace Go.Proofs.YtgjgeojhhglidaaDoor
open Go Go.RowKit Go.Lib

/-- What an act does. -/
def actF (f : Fs) (x : Act3) : Fs × Int := if x.kind = 1 then removeF f x.path else if x.kind = 2 then mkdirF f x.path else if x.kind = 3 then writeF f x.path x.data else (f, 1)
/-- What acts do, up to the first error. -/
def doF (f : Fs) : List Act3 → Fs × Int
  | [] => (f, 0)
  | x :: l => if (actF f x).2 = 0 then doF (actF f x).1 l else actF f x
theorem act_1 {f : Fs} {x : Act3} (h : x.kind = 1) : actF f x = removeF f x.path := if_pos h
theorem act_2 {f : Fs} {x : Act3} (h : x.kind = 2) : actF f x = mkdirF f x.path := by
  unfold actF
  rw [if_neg (by omega), if_pos h]
theorem act_3 {f : Fs} {x : Act3} (h : x.kind = 3) : actF f x = writeF f x.path x.data := by
  unfold actF
  rw [if_neg (by omega), if_neg (by omega), if_pos h]
theorem act_4 {f : Fs} {x : Act3} (h1 : x.kind ≠ 1) (h2 : x.kind ≠ 2) (h3 : x.kind ≠ 3) : actF f x = (f, 1) := by
  unfold actF
  rw [if_neg h1, if_neg h2, if_neg h3]
theorem act_as (f : Fs) (x : Act3) : (∃ y, actF f x = opF f y) ∨ actF f x = (f, 1) := by
  by_cases h1 : x.kind = 1
  · exact .inl ⟨⟨3, x.path, x.path, x.data⟩, by rw [act_1 h1]; rfl⟩
  by_cases h2 : x.kind = 2
  · exact .inl ⟨⟨0, x.path, x.path, x.data⟩, by rw [act_2 h2]; rfl⟩
  by_cases h3 : x.kind = 3
  · exact .inl ⟨⟨1, x.path, x.path, x.data⟩, by rw [act_3 h3]; rfl⟩
  exact .inr (act_4 h1 h2 h3)
theorem ok_act {f : Fs} (h : FsOK f) (x : Act3) : FsOK (actF f x).1 := by
  rcases act_as f x with ⟨y, e⟩ | e
  · rw [e]
    exact ok_op h y
  · rw [e]
    exact h
theorem step_act {f : Fs} (h : IdsOK f) (x : Act3) : StepOK f (actF f x) := by
  rcases act_as f x with ⟨y, e⟩ | e
  · rw [e]
    exact step_op h y
  · rw [e]
    exact step_stay h 1
theorem act_n {f : Fs} (h : IdsOK f) (x : Act3) : (actF f x).1.n ≤ f.n + 1 := by
  rcases (step_act h x).num with h1 | ⟨h1, _⟩ <;> omega
theorem do_go {f : Fs} {l : List Act3} {k : Nat} {x : Act3} (h : l[k]? = some x) (he : (actF f x).2 = 0) : doF f (l.drop k) = doF (actF f x).1 (l.drop (k + 1)) := by
  obtain ⟨hk, hx⟩ := List.getElem?_eq_some_iff.1 h
  rw [List.drop_eq_getElem_cons hk, hx]
  exact if_pos he
theorem do_stop {f : Fs} {l : List Act3} {k : Nat} {x : Act3} (h : l[k]? = some x) (he : (actF f x).2 ≠ 0) : doF f (l.drop k) = actF f x := by
  obtain ⟨hk, hx⟩ := List.getElem?_eq_some_iff.1 h
  rw [List.drop_eq_getElem_cons hk, hx]
  exact if_neg he
theorem do_end (f : Fs) (l : List Act3) : doF f (l.drop l.length) = (f, 0) := by
  rw [List.drop_length]
  rfl
theorem RowsAt.turned2 {α : Type} {L : Lay α} {W W' : World} {S : Nat → Prop} {a : Option Addr} {xs : List α} (h : RowsAt L W a xs) (ht : Turned S W.heap.size W W') (hS : ∀ ad, a = some ad → ad.block < W.heap.size → ¬ S ad.block) : RowsAt L W' a xs := by
  intro j x hj
  obtain ⟨b, off, e, hlt, hc⟩ := h j x hj
  exact ⟨b, off, e, Nat.lt_of_lt_of_le hlt ht.size, fun f v hf => by rw [cell_same (ht.block b hlt (hS _ e hlt))]; exact hc f v hf⟩
def Act3.val (x : Act3) : Value := .agg #[.int .i64 x.kind, .string x.path, .string x.data]
theorem int_neq {a b : Int} (h : a ≠ b) : (a == b) = false := beq_eq_false_iff_ne.2 h
set_option maxRecDepth 100000 in
set_option maxHeartbeats 1600000 in
/-- **lay's do.** -/
theorem ldo_any (fb mb : Nat) (f : Fs) (x : Act3) (w : World) (h : FAt w fb mb f) (hok : FsOK f) (hn : f.n ≤ 1000000) (hp : x.path.size ≤ 100000) (hm : MaxAt w) :
    Calls Tryd.prog 60 #[.pointer (some ⟨fb, 0, none⟩), x.val] w fun e w' => e = .returned (.int .i64 (actF f x).2) ∧ FAt w' fb mb (actF f x).1 ∧ Turned (FsS fb mb) w.heap.size w w' := by
  have H1 := act_1 (f := f) (x := x)
  have H2 := act_2 (f := f) (x := x)
  have H3 := act_3 (f := f) (x := x)
  have H4 := act_4 (f := f) (x := x)
  obtain ⟨r, hr⟩ : ∃ r, actF f x = r := ⟨_, rfl⟩
  rw [hr] at H1 H2 H3 H4 ⊢
  clear hr
  obtain ⟨xk, xp, xs⟩ := x
  dsimp only at H1 H2 H3 H4 hp
  show Calls _ _ #[_, .agg #[.int .i64 xk, .string xp, .string xs]] _ _
  have hb := (Below.refl w.heap.size w).alloc (Nat.le_refl _) (.cells #[.int .i64 xk, .string xp, .string xs] 54)
  have hF := h.below hb
  have hM := hm.keeps hb
  have hfew := hok.few
  by_cases h1 : xk = 1
  · have Hr := Lib.hid (H1 h1)
    have HC := Lib.hid (fremove_any fb mb f xp _ hF hok hp)
    subst h1
    clear H1 H2 H3 H4
    go_enter Tryd.func60, Tryd.ntmps60
    go_wp2_with fail
    refine HC.out.mono ?_
    rintro e w1 ⟨rfl, hF1, ht1⟩
    go_wp2_with fail
    go_ret
    rw [Hr.out]
    exact ⟨rfl, hF1, (Turned.of_below hb (Nat.le_refl _)).trans (ht1.mono hb.size (fun _ _ h => h))⟩
  have e1 := int_neq h1
  by_cases h2 : xk = 2
  · have Hr := Lib.hid (H2 h2)
    have HC := Lib.hid (fmkdir_any fb mb f xp _ hF hp hfew hn hM)
    subst h2
    clear H1 H2 H3 H4 h1
    go_enter Tryd.func60, Tryd.ntmps60
    go_wp2_with fail
    refine HC.out.mono ?_
    rintro e w1 ⟨rfl, hF1, ht1⟩
    go_wp2_with fail
    go_ret
    rw [Hr.out]
    exact ⟨rfl, hF1, (Turned.of_below hb (Nat.le_refl _)).trans (ht1.mono hb.size (fun _ _ h => h))⟩
  have e2 := int_neq h2
  by_cases h3 : xk = 3
  · have Hr := Lib.hid (H3 h3)
    have HC := Lib.hid (fwrite_any fb mb f xp xs _ hF hp hfew hn hM)
    subst h3
    clear H1 H2 H3 H4 h1 h2
    go_enter Tryd.func60, Tryd.ntmps60
    go_wp2_with fail
    refine HC.out.mono ?_
    rintro e w1 ⟨rfl, hF1, ht1⟩
    go_wp2_with fail
    go_ret
    rw [Hr.out]
    exact ⟨rfl, hF1, (Turned.of_below hb (Nat.le_refl _)).trans (ht1.mono hb.size (fun _ _ h => h))⟩
  have e3 := int_neq h3
  have Hr := Lib.hid (H4 h1 h2 h3)
  clear H1 H2 H3 H4 h1 h2 h3
  go_enter Tryd.func60, Tryd.ntmps60
  go_wp2_with fail
  go_ret
  rw [Hr.out]
  exact ⟨rfl, hF, Turned.of_below hb (Nat.le_refl _)⟩
set_option maxRecDepth 100000 in
set_option maxHeartbeats 1600000 in
/-- **lay's Do.** -/
theorem lays_any (fb mb : Nat) (f : Fs) (a : Option Addr) (cap : Nat) (xs : List Act3) (w : World) (h : FAt w fb mb f) (hok : FsOK f) (hids : IdsOK f) (hn : f.n ≤ 1000) (hl : xs.length ≤ 1000) (hp : ∀ x ∈ xs, x.path.size ≤ 100000) (hm : MaxAt w)
    (hR : RowsAt act3Lay w a xs) (hna : 0 < xs.length → ∀ ad, a = some ad → ¬ FsS fb mb ad.block) (hmf : ¬ FsS fb mb 0) :
    Calls Tryd.prog 38 #[.pointer (some ⟨fb, 0, none⟩), .slice a xs.length cap] w fun e w' => e = .returned (.int .i64 (doF f xs).2) ∧ FAt w' fb mb (doF f xs).1 ∧ Turned (FsS fb mb) w.heap.size w w' := by
  have HR := Lib.hid hR
  have Hp := Lib.hid hp
  have H0 := Lib.hid (show doF f xs = doF f (xs.drop 0) by rw [List.drop_zero])
  rw [H0.out]
  have hM0 : MaxAt w := hm
  go_enter Tryd.func38, Tryd.ntmps38
  go_wp2_with fail
  go_loopw [6, 7, 12] (fun _ _ i wr => ∃ (k : Nat) (g : Fs), k ≤ xs.length ∧ i = .int .i64 k ∧ FAt wr fb mb g ∧ Hid (FsOK g ∧ IdsOK g) ∧ g.n ≤ f.n + k ∧ Hid (doF f (xs.drop 0) = doF g (xs.drop k)) ∧ Turned (FsS fb mb) w.heap.size w wr) (fun _ _ i _ => xs.length - (RowKit.intOf i).toNat)
  case atStart => exact ⟨0, f, Nat.zero_le _, rfl, h, Lib.hid ⟨hok, hids⟩, Nat.le_refl _, Lib.hid rfl, Turned.refl _ _ _⟩
  case round =>
    obtain ⟨k, g, hk, rfl, hF, Hok, hgn, HD, ht⟩ := hrel
    by_cases hlt : k < xs.length
    · obtain ⟨x, hx⟩ := at_some hlt
      obtain ⟨b, off, hae, hbl, c0, c1, c2⟩ := act3_at (HR.out.turned2 ht (fun ad e _ => hna (by omega) ad e)) hx
      have hps := Hp.out x (List.mem_of_getElem? hx)
      have HL := Lib.hid fun W hF hM => ldo_any fb mb g x W hF Hok.out.1 (by omega) hps hM
      have Hgo := Lib.hid fun he => do_go (f := g) hx he
      have Hstop := Lib.hid fun he => do_stop (f := g) hx he
      have Hst := Lib.hid (step_act Hok.out.2 x)
      have Hok2 := Lib.hid (ok_act Hok.out.1 x)
      have hn2 := act_n Hok.out.2 x
      obtain ⟨r, hr⟩ : ∃ r, actF g x = r := ⟨_, rfl⟩
      rw [hr] at HL Hgo Hstop Hst Hok2 hn2
      obtain ⟨g', er⟩ := r
      obtain ⟨xk, xp, xd⟩ := x
      rw [show Act3.val ⟨xk, xp, xd⟩ = .agg #[.int .i64 xk, .string xp, .string xd] from rfl] at HL
      dsimp only at c0 c1 c2 hps HL hn2
      have hlti : (k : Int) < (xs.length : Int) := by omega
      subst hae
      have hMr : MaxAt wr := by
        obtain ⟨m, hmm⟩ := hM0
        exact ⟨m, by rw [cell_same (ht.block _ (MaxAt.lt ⟨m, hmm⟩) hmf)]; exact hmm⟩
      have hal := (Below.refl wr.heap.size wr).alloc (Nat.le_refl _) (.cells #[.int .i64 xk, .string xp, .string xd] 54)
      have hF2 := hF.below hal
      have hM2 := hMr.keeps hal
      have ht2 := ht.alloc ht.size (.cells #[.int .i64 xk, .string xp, .string xd] 54)
      clear hx hr hF
      go_wp2_with fail
      refine (HL.out _ hF2 hM2).mono ?_
      rintro e w3 ⟨rfl, hF3, ht3⟩
      have ht3w := ht2.trans (ht3.mono ht2.size (fun _ _ h => h))
      by_cases he : er = 0
      · have Hn := Lib.hid (HD.out.trans (Hgo.out he))
        subst he
        go_wp2_with fail
        go_roundw
        case rel => exact ⟨k + 1, g', by omega, by go_num, hF3, Lib.hid ⟨Hok2.out, Hst.out.ids⟩, by omega, Hn, ht3w⟩
        case measure => simp [RowKit.intOf]; omega
      · have hq : (er != 0) = true := bne_iff_ne.2 he
        have Hn := Lib.hid (HD.out.trans (Hstop.out he))
        clear he
        go_wp2_with fail
        go_ret
        rw [Hn.out]
        exact ⟨rfl, hF3, ht3w⟩
    · obtain rfl : k = xs.length := by omega
      have Hn := Lib.hid (HD.out.trans (do_end g xs))
      go_wp2_with fail
      go_ret
      rw [Hn.out]
      exact ⟨rfl, hF, ht⟩
end Go.Proofs.YtgjgeojhhglidaaDoor

namespace Go.Proofs.YtgjgeojhhglidaaDoor
open Go Go.RowKit Go.Lib

end Go.Proofs.YtgjgeojhhglidaaDoor

