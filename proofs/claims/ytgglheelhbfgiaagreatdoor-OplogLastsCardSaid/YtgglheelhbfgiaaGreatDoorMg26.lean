/-
  Operations and pieces that last: a round. oplog.Add. oplog: what is read; the nil receivers. clock.Next.
-/
import Derived.Test.YtgglheelhbfgiaaGreatDoorMg25
namespace Go.Proofs.YtgglheelhbfgiaaGreatDoor
open Go Go.RowKit Go.Lib
/-- Between two states. -/
structure Betw (s : StO) (ps : List ByteArray) (l2 : List Opr) (sk : StO) : Prop where
  good : GoodO sk.ops
  ops : ∀ x ∈ s.ops, x ∈ sk.ops
  opsIn : ∀ x ∈ sk.ops, x ∈ l2
  pcs : ∀ p ∈ s.pcs, p ∈ sk.pcs
  pcsIn : ∀ p ∈ sk.pcs, p ∈ s.pcs ∨ p ∈ ps
structure GrownOk (s : StO) (ps : List ByteArray) (xs : List Opr) (G : (StO × List ByteArray) × Int) : Prop where
  err : G.2 = 0
  ops : G.1.1.ops = (allO s.ops xs).1
  good : GoodO G.1.1.ops
  pcs : ∀ p, p ∈ G.1.1.pcs ↔ p ∈ s.pcs ∨ p ∈ ps
  all : replaysS s G.1.2 = some G.1.1
  part : ∀ q, q <+: G.1.2 → ∃ sk, replaysS s q = some sk ∧ Betw s ps (allO s.ops xs).1 sk
  right : G.1.2.all rightR = true
theorem prefix_app {α : Type} {q a b : List α} (h : q <+: a ++ b) : q <+: a ∨ ∃ c, q = a ++ c ∧ c <+: b := by
  rcases Nat.le_total q.length a.length with hl | hl
  · exact .inl (List.prefix_of_prefix_length_le h (List.prefix_append a b) hl)
  · have h2 := List.prefix_of_prefix_length_le (List.prefix_append a b) h hl
    obtain ⟨c, rfl⟩ := h2
    exact .inr ⟨c, rfl, (List.prefix_append_right_inj _).1 h⟩
theorem grownS_ok {s : StO} {ps : List ByteArray} {xs : List Opr} (hg : GoodO s.ops) (hz : ∀ x ∈ xs, x.name.size ≤ 200 ∧ x.man.size ≤ 1000) (h1 : ps.all rightP = true) (h2 : (allO s.ops xs).2 = true) : GrownOk s ps xs (grownS s ps xs) := by
  cases hp : growP s.pcs [] ps with
  | none =>
    obtain ⟨p, hpm, e⟩ := growP_none _ _ _ hp
    rw [List.all_eq_true.1 h1 p hpm] at e
    cases e
  | some r =>
    obtain ⟨pcs2, rec2⟩ := r
    obtain ⟨_, new, hrec, hP⟩ := growP_some s.ops ps _ _ _ _ hp
    rw [List.nil_append] at hrec
    subst hrec
    obtain ⟨a1, a2, a3, new2, a4, hO⟩ := growO_all pcs2 xs s.ops rec2 hg hz h2
    rw [grown_good hp, if_neg (fun h => h a1), a2, a4]
    have hall : replaysS s (rec2 ++ new2) = some ⟨(allO s.ops xs).1, pcs2⟩ := by
      rw [replays_app rec2 new2 s ⟨s.ops, pcs2⟩ hP.all]
      exact hO.all
    refine ⟨rfl, rfl, a3, hP.has, hall, fun q hq => ?_, List.all_eq_true.2 fun r hr => ?_⟩
    · rcases prefix_app hq with h | ⟨c, rfl, h⟩
      · obtain ⟨pk, b1, b2, b3⟩ := hP.part q h
        exact ⟨⟨s.ops, pk⟩, b1, hg, fun _ h => h, fun y hy => allO_mem xs _ y hy, b2, b3⟩
      · obtain ⟨lk, b1, b2, b3, b4⟩ := hO.part c h
        refine ⟨⟨lk, pcs2⟩, by rw [replays_app rec2 c s ⟨s.ops, pcs2⟩ hP.all]; exact b1, b2, b3, b4, fun p hp => (hP.has p).2 (.inl hp), fun p hp => (hP.has p).1 hp⟩
    · have : 1 ≤ r.size ∧ r.size ≤ 1400 := by
        rcases List.mem_append.1 hr with h | h
        · have := hP.size r h
          omega
        · exact hO.size r h
      unfold rightR
      rw [decide_eq_true this.1, decide_eq_true (by omega)]
      rfl
theorem grownS_bad2 {s : StO} {ps : List ByteArray} {xs : List Opr} (h : (ps.all rightP && (allO s.ops xs).2) = false) : (grownS s ps xs).2 ≠ 0 := by
  cases hp : growP s.pcs [] ps with
  | none =>
    rw [grown_bad hp]
    decide
  | some r =>
    obtain ⟨pcs2, rec2⟩ := r
    obtain ⟨h1, _⟩ := growP_some s.ops ps _ _ _ _ hp
    rw [List.all_eq_true.2 h1, Bool.true_and] at h
    have := growO_stop xs s.ops rec2 h
    rw [grown_good hp, if_pos this]
    exact this
theorem prefix_anti {α : Type} {a b : List α} (h : a <+: b) (h' : b <+: a) : a = b := h.eq_of_length (Nat.le_antisymm h.length_le h'.length_le)
/-- What is known behind a round's crash. -/
structure RoundO (s : StO) (ps : List ByteArray) (xs : List Opr) (cut : Int) (e : Int) (d : Dk) (Q : List (List UInt8)) (sk : StO) : Prop where
  mid : MidL 4194304 d Q
  rep : replaysS noSt (Q.map mkB) = some sk
  good : GoodO sk.ops
  wrong : (ps.all rightP && (allO s.ops xs).2) = false → e ≠ 0
  fine : (ps.all rightP && (allO s.ops xs).2) = true → e = 0 ∨ (e = 42 ∧ 0 < cut) ∨ e = 40
  now : ∀ x ∈ (if e = 0 then (allO s.ops xs).1 else s.ops), x ∈ sk.ops
  within : ∀ x ∈ sk.ops, x ∈ (if (ps.all rightP && (allO s.ops xs).2) = true ∧ e ≠ 40 then (allO s.ops xs).1 else s.ops)
  have_ : ∀ p ∈ (if e = 0 then s.pcs ++ ps else s.pcs), p ∈ sk.pcs
  handed : ∀ p ∈ sk.pcs, p ∈ (if (ps.all rightP && (allO s.ops xs).2) = true ∧ e ≠ 40 then s.pcs ++ ps else s.pcs)
theorem round_olog {d : Dk} {R : List (List UInt8)} {s : StO} (h : StL 4194304 d R) (hs : replaysS noSt (R.map mkB) = some s) (hg : GoodO s.ops) (ps : List ByteArray) (xs : List Opr) (hz : ∀ x ∈ xs, x.name.size ≤ 200 ∧ x.man.size ≤ 1000) (cut keep : Int) (torn : Bool) :
    ∃ Q sk, RoundO s ps xs cut (addS ⟨s, logOf R, false⟩ ps xs (armD d cut)).2.2 (crashD (addS ⟨s, logOf R, false⟩ ps xs (armD d cut)).2.1 keep torn) Q sk := by
  have ha : addS ⟨s, logOf R, false⟩ ps xs (armD d cut) = if (grownS s ps xs).2 ≠ 0 then (⟨s, logOf R, false⟩, armD d cut, (grownS s ps xs).2)
    else if (appendD (logOf R) (grownS s ps xs).1.2 (armD d cut)).2.2 = 0 then (⟨(grownS s ps xs).1.1, (appendD (logOf R) (grownS s ps xs).1.2 (armD d cut)).1, false⟩, (appendD (logOf R) (grownS s ps xs).1.2 (armD d cut)).2.1, 0)
    else (⟨s, (appendD (logOf R) (grownS s ps xs).1.2 (armD d cut)).1, decide ((appendD (logOf R) (grownS s ps xs).1.2 (armD d cut)).2.2 = 42 ∨ (appendD (logOf R) (grownS s ps xs).1.2 (armD d cut)).2.2 = 41)⟩, (appendD (logOf R) (grownS s ps xs).1.2 (armD d cut)).2.1, (appendD (logOf R) (grownS s ps xs).1.2 (armD d cut)).2.2) := if_neg (fun h => Bool.noConfusion h)
  cases hr : (ps.all rightP && (allO s.ops xs).2) with
  | false =>
    have hb := grownS_bad2 hr
    rw [ha, if_pos hb]
    obtain ⟨Q, hQ⟩ := round_append h [] cut keep torn
    have e0 : appendD (logOf R) [] (armD d cut) = (logOf R, armD d cut, 0) := by
      unfold appendD
      rw [if_neg (by simp [logOf]), if_neg (by decide), if_neg (by have := h.clean.len; show ¬ 800 < R.length + 0; omega), if_pos (show ([] : List ByteArray).length = 0 from rfl)]
    rw [e0] at hQ
    have hp1 : R.map mkB <+: Q.map mkB := by simpa using hQ.has
    have hp2 : Q.map mkB <+: R.map mkB := by simpa using hQ.within
    have hQR : Q.map mkB = R.map mkB := prefix_anti hp2 hp1
    refine ⟨Q, s, hQ.mid, by rw [hQR]; exact hs, hg, fun _ => hb, fun h2 => (by rw [hr] at h2; cases h2), ?_, ?_, ?_, ?_⟩
    · rw [if_neg hb]
      exact fun _ h => h
    · rw [if_neg (fun h2 => (by rw [hr] at h2; exact Bool.noConfusion h2.1))]
      exact fun _ h => h
    · rw [if_neg hb]
      exact fun _ h => h
    · rw [if_neg (fun h2 => (by rw [hr] at h2; exact Bool.noConfusion h2.1))]
      exact fun _ h => h
  | true =>
    obtain ⟨h1, h2⟩ : ps.all rightP = true ∧ (allO s.ops xs).2 = true := by simpa only [Bool.and_eq_true] using hr
    have G := grownS_ok hg hz h1 h2
    rw [ha, if_neg (fun h => h G.err)]
    obtain ⟨Q, hQ⟩ := round_append h (grownS s ps xs).1.2 cut keep torn
    by_cases e0 : (appendD (logOf R) (grownS s ps xs).1.2 (armD d cut)).2.2 = 0
    · rw [if_pos e0]
      have q1 := hQ.has
      have q2 := hQ.within
      rw [if_pos e0] at q1
      rw [if_pos ⟨G.right, by rw [e0]; decide⟩] at q2
      have hQR := prefix_anti q2 q1
      refine ⟨Q, (grownS s ps xs).1.1, hQ.mid, ?_, G.good, fun h3 => (by rw [hr] at h3; cases h3), fun _ => .inl rfl, ?_, ?_, ?_, ?_⟩
      · rw [hQR, replays_app _ _ _ _ hs]
        exact G.all
      · rw [if_pos rfl, G.ops]
        exact fun _ h => h
      · rw [if_pos ⟨hr, by show (0 : Int) ≠ 40; decide⟩, G.ops]
        exact fun _ h => h
      · rw [if_pos rfl]
        exact fun p hp => (G.pcs p).2 (List.mem_append.1 hp)
      · rw [if_pos ⟨hr, by show (0 : Int) ≠ 40; decide⟩]
        exact fun p hp => List.mem_append.2 ((G.pcs p).1 hp)
    · rw [if_neg e0]
      have q1 := hQ.has
      have q2 := hQ.within
      have q3 := hQ.fine G.right
      rw [if_neg e0] at q1
      obtain ⟨c, hc⟩ := q1
      have hc2 : c <+: (grownS s ps xs).1.2 ∧ ((appendD (logOf R) (grownS s ps xs).1.2 (armD d cut)).2.2 = 40 → c = []) := by
        by_cases h40 : (appendD (logOf R) (grownS s ps xs).1.2 (armD d cut)).2.2 = 40
        · rw [if_neg (fun h3 => h3.2 h40), ← hc] at q2
          have hl := q2.length_le
          rw [List.length_append] at hl
          have : c = [] := List.length_eq_zero_iff.1 (by omega)
          rw [this]
          exact ⟨List.nil_prefix, fun _ => rfl⟩
        · rw [if_pos ⟨G.right, h40⟩, ← hc] at q2
          exact ⟨(List.prefix_append_right_inj _).1 q2, fun h => absurd h h40⟩
      obtain ⟨sk, k1, k2⟩ := G.part c hc2.1
      refine ⟨Q, sk, hQ.mid, ?_, k2.good, fun h3 => (by rw [hr] at h3; cases h3), fun _ => ?_, ?_, ?_, ?_, ?_⟩
      · rw [← hc, replays_app _ _ _ _ hs]
        exact k1
      · rcases q3 with h3 | h3 | h3
        · exact .inl h3
        · exact .inr (.inl h3)
        · exact .inr (.inr h3.1)
      · rw [if_neg e0]
        exact k2.ops
      · by_cases h40 : (appendD (logOf R) (grownS s ps xs).1.2 (armD d cut)).2.2 = 40
        · rw [if_neg (fun h3 => h3.2 h40)]
          rw [hc2.2 h40] at k1
          cases k1
          exact fun _ h => h
        · rw [if_pos ⟨hr, h40⟩]
          exact k2.opsIn
      · rw [if_neg e0]
        exact k2.pcs
      · by_cases h40 : (appendD (logOf R) (grownS s ps xs).1.2 (armD d cut)).2.2 = 40
        · rw [if_neg (fun h3 => h3.2 h40)]
          rw [hc2.2 h40] at k1
          cases k1
          exact fun _ h => h
        · rw [if_pos ⟨hr, h40⟩]
          exact fun p hp => List.mem_append.2 (k2.pcsIn p hp)
end Go.Proofs.YtgglheelhbfgiaaGreatDoor

namespace Go.Proofs.YtgglheelhbfgiaaGreatDoor
open Go Go.RowKit Go.Lib
theorem OlIn.keeps {w0 w w' : World} {db ob lb : Nat} {T : Nat → Prop} {d : Dk} {o : Ol} (h : OlIn w0 w db ob lb T d o) (hb : Below w.heap.size w w') : OlIn w0 w' db ob lb T d o := by
  obtain ⟨h1, ⟨a, vp, h2, h3, h4⟩, h5, h6, h7⟩ := h
  exact ⟨h1.keeps hb, ⟨a, vp, h2.below hb, h3, h4⟩, h5, h6, h7⟩
theorem OlIn.step {w0 w w' : World} {db ob lb : Nat} {T : Nat → Prop} {d : Dk} {o : Ol} {r : Lg × Dk × Int} {e : Ending} (h : OlIn w0 w db ob lb T d o) (ha : AppIs w db lb T r e w') :
    e = .returned (.int .i64 r.2.2) ∧ ∃ T', OlIn w0 w' db ob lb T' r.2.1 { o with log := r.1 } ∧ (∀ k, T' k → T k ∨ w.heap.size ≤ k) ∧ Turned (fun k => T k ∨ k = lb) w.heap.size w w' := by
  obtain ⟨h1, ⟨a, vp, h2, h3, h4⟩, h5, h6, h7⟩ := h
  obtain ⟨he, T', g1, g2, g3⟩ := h1.app ha
  have hob : ob < w.heap.size := by obtain ⟨_, hc, _⟩ := h2.cells; exact hc.1
  have hn : ∀ k, k < w.heap.size → ¬ T k → ¬ T' k := fun k hk ht h => by
    rcases g2 k h with h | h
    · exact ht h
    · omega
  refine ⟨he, T', ⟨g1, ⟨a, vp, h2.foreign g3 fun k hk => ⟨fun e => ?_, fun e => ?_, fun ad e1 e => ?_⟩, fun ad e => ⟨(h3 ad e).1, hn _ (h2.alt ad e) (h3 ad e).2.1, (h3 ad e).2.2⟩, fun k e => ⟨hn _ (h2.pcs.lt e).2 (h4 k e).1, (h4 k e).2⟩⟩, h5, hn _ hob h6, h7⟩, g2, g3⟩
  · subst e
    rcases hk with hk | hk
    · exact h6 hk
    · exact h7 hk
  · rcases hk with hk | hk
    · exact (h4 k e).1 hk
    · exact (h4 k e).2 hk
  · subst e
    rcases hk with hk | hk
    · exact (h3 ad e1).2.1 hk
    · exact (h3 ad e1).2.2 hk
/-- The disk and the log, where another block of ours was turned. -/
theorem LIn.off {w0 w w' : World} {db ob lb : Nat} {T : Nat → Prop} {d : Dk} {l : Lg} (h : LIn w0 w db lb T d l) (ht : Turned (fun k => k = ob) w.heap.size w w') (h1 : ¬ T ob) (h2 : ob ≠ lb) (h3 : w0.heap.size ≤ ob) : LIn w0 w' db lb T d l :=
  ⟨h.disk.foreign ht fun k hk => by rw [hk]; exact h1, h.log.same (ht.block lb h.log.1 fun e => h2 e.symm) ht.size, h.old, h.lbT, h.lbo, below_turned h.below ht fun k hk => by rw [hk]; exact h3⟩
theorem OlIn.setDead {w0 w : World} {db ob lb : Nat} {T : Nat → Prop} {d : Dk} {o : Ol} (h : OlIn w0 w db ob lb T d o) (b : Bool) : OlIn w0 (w.setCell ⟨ob, 3, none⟩ (.bool b)) db ob lb T d { o with dead := b } := by
  obtain ⟨h1, ⟨a, vp, h2, h3, h4⟩, h5, h6, h7⟩ := h
  have ht : Turned (fun k => k = ob) w.heap.size w (w.setCell ⟨ob, 3, none⟩ (.bool b)) := (Turned.refl (fun k => k = ob) w.heap.size w).set 3 _ fun _ => rfl
  obtain ⟨⟨cap, g1, g2⟩, g3, g4, g5, g6, g7⟩ := h2
  refine ⟨h1.off ht h6 h7 h5, ⟨a, vp, ⟨⟨cap, by simpa using g1.set 3 (.bool b) (by simp), g2.rows.turned2 ht fun ad e _ h => g4 ad e h, g2.nil, g2.le⟩, g3.turnedOther ht fun k hk h => g5 (by rw [hk, h]), g4, g5, g6, fun ad e => Nat.lt_of_lt_of_le (g7 ad e) ht.size⟩, h3, h4⟩, h5, h6, h7⟩
theorem OlIn.setSt {w0 w : World} {db ob lb : Nat} {T : Nat → Prop} {d : Dk} {o : Ol} (h : OlIn w0 w db ob lb T d o) (s : StO) (a : Option Addr) (cap : Nat) (vp : Value) (ho : OpsAt w a cap s.ops) (hp : OwnRows strLay w w0.heap.size 9 vp s.pcs) (ha : ∀ ad, a = some ad → (w0.heap.size ≤ ad.block ∧ ¬ T ad.block ∧ ad.block ≠ lb) ∧ ad.block ≠ ob ∧ ad.block < w.heap.size ∧ vp.ownBlock ≠ some ad.block) (hv : ∀ k, vp.ownBlock = some k → (¬ T k ∧ k ≠ lb) ∧ k ≠ ob) :
    OlIn w0 ((w.setCell ⟨ob, 0, none⟩ (.slice a s.ops.length cap)).setCell ⟨ob, 1, none⟩ vp) db ob lb T d { o with st := s } := by
  obtain ⟨h1, ⟨a1, vp1, h2, h3, h4⟩, h5, h6, h7⟩ := h
  have ht : Turned (fun k => k = ob) w.heap.size w ((w.setCell ⟨ob, 0, none⟩ (.slice a s.ops.length cap)).setCell ⟨ob, 1, none⟩ vp) := ((Turned.refl (fun k => k = ob) w.heap.size w).set 0 _ fun _ => rfl).set 1 _ fun _ => rfl
  obtain ⟨⟨cap1, g1, g2⟩, g3, g4, g5, g6, g7⟩ := h2
  refine ⟨h1.off ht h6 h7 h5, ⟨a, vp, ⟨⟨cap, by simpa using (g1.set 0 (.slice a s.ops.length cap) (by simp)).set 1 vp (by simp), ho.rows.turned2 ht fun ad e _ h => (ha ad e).2.1 h, ho.nil, ho.le⟩, hp.turnedOther ht fun k hk h => (hv k hk).2 h, fun ad e => (ha ad e).2.1, fun e => (hv _ e).2 rfl, fun ad e => (ha ad e).2.2.2, fun ad e => Nat.lt_of_lt_of_le (ha ad e).2.2.1 ht.size⟩, fun ad e => (ha ad e).1, fun k e => (hv k e).1⟩, h5, h6, h7⟩
/-- What a call may have turned. -/
structure OStp (w w' : World) (T T' : Nat → Prop) (ob lb : Nat) : Prop where
  turned : Turned (fun k => T k ∨ k = lb ∨ k = ob) w.heap.size w w'
  grown : ∀ k, T' k → T k ∨ w.heap.size ≤ k
theorem growP_len : ∀ (ps pcs rec : List ByteArray) (r : List ByteArray × List ByteArray), growP pcs rec ps = some r → r.2.length ≤ rec.length + ps.length
  | [], pcs, rec, r, h => by
    cases h
    exact Nat.le_refl _
  | p :: ps, pcs, rec, r, h => by
    by_cases hr : rightP p = true
    · by_cases hp : p ∈ pcs
      · rw [growP_had hr hp] at h
        have := growP_len ps _ _ _ h
        simp only [List.length_cons]
        omega
      · rw [growP_put hr hp] at h
        have := growP_len ps _ _ _ h
        simp only [List.length_cons, List.length_append, List.length_nil] at this ⊢
        omega
    · rw [growP_bad (by simpa using hr)] at h
      cases h
theorem growO_len : ∀ (xs : List Opr) (l : List Opr) (rec : List ByteArray), (growO l rec xs).1.2.length ≤ rec.length + xs.length
  | [], l, rec => Nat.le_refl _
  | x :: xs, l, rec => by
    by_cases h : (addO l x).2 = 0
    · by_cases hl : (addO l x).1.length = l.length
      · rw [growO_had h hl]
        have := growO_len xs (addO l x).1 rec
        simp only [List.length_cons]
        omega
      · by_cases hr : rightO x = 0
        · rw [growO_new h hl hr]
          have := growO_len xs (addO l x).1 (rec ++ [ByteArray.mk #[111] ++ encB x])
          simp only [List.length_cons, List.length_append, List.length_nil] at this ⊢
          omega
        · rw [growO_wrong h hl hr]
          exact Nat.zero_le _
    · rw [growO_bad h]
      exact Nat.zero_le _
theorem grownS_len (s : StO) (ps : List ByteArray) (xs : List Opr) : (grownS s ps xs).1.2.length ≤ ps.length + xs.length := by
  cases h : growP s.pcs [] ps with
  | none => rw [grown_bad h]; exact Nat.zero_le _
  | some r =>
    obtain ⟨pcs, rec⟩ := r
    rw [grown_good h]
    have h1 := growP_len _ _ _ _ h
    have h2 := growO_len xs s.ops rec
    dsimp only at h1
    split
    · exact Nat.zero_le _
    · dsimp only
      simp only [List.length_nil] at h1
      omega
set_option maxRecDepth 100000 in
set_option maxHeartbeats 6400000 in
theorem oadd_any {w0 w : World} {db ob lb : Nat} {T : Nat → Prop} {d : Dk} {o : Ol} (h : OlIn w0 w db ob lb T d o) (pa : Option Addr) (pc : Nat) (ps : List ByteArray) (xa : Option Addr) (xc : Nat) (xs : List Opr) (hps : RowsAt strLay w pa ps) (hxs : RowsAt oprLay w xa xs)
    (hlo : o.st.ops.length + xs.length ≤ 10000) (hlp : o.st.pcs.length + ps.length ≤ 100000) (hpz : ∀ p ∈ ps, p.size ≤ 100000) (hxz : ∀ x ∈ xs, x.name.size ≤ 100000 ∧ x.man.size ≤ 100000)
    (hm : o.log.many ≤ 1000000) (hl : d.now.length ≤ 99000) (hal : d.acts.length ≤ 900000000) :
    Calls Tryz.prog 37 #[.pointer (some ⟨ob, 0, none⟩), .slice pa ps.length pc, .slice xa xs.length xc] w fun e w' => e = .returned (.int .i64 (addS o ps xs d).2.2) ∧ ∃ T', OlIn w0 w' db ob lb T' (addS o ps xs d).2.1 (addS o ps xs d).1 ∧ OStp w w' T T' ob lb := by
  have HG := Lib.hid h
  obtain ⟨a, vp, hst, ha3, ha4⟩ := h.st
  obtain ⟨⟨cap, hc1, hc2⟩, hc3, hc4, hc5, hc6, hc7⟩ := hst
  obtain ⟨va, vc, rfl, hvr, _⟩ := hc3.read
  have Hgrw := Lib.hid (grown_any a cap va vc o.st pa pc ps xa xc xs w hc2 hvr hc7 hps hxs (by omega) (by omega) hpz hxz)
  have hgl : (grownS o.st ps xs).1.2.length ≤ 110000 := Nat.le_trans (grownS_len o.st ps xs) (by omega)
  have Ha := Lib.hid (show addS o ps xs d = if o.dead = true then (o, d, 42)
  else if (grownS o.st ps xs).2 ≠ 0 then (o, d, (grownS o.st ps xs).2)
  else if (appendD o.log (grownS o.st ps xs).1.2 d).2.2 = 0 then (⟨(grownS o.st ps xs).1.1, (appendD o.log (grownS o.st ps xs).1.2 d).1, o.dead⟩, (appendD o.log (grownS o.st ps xs).1.2 d).2.1, 0)
  else (⟨o.st, (appendD o.log (grownS o.st ps xs).1.2 d).1, decide ((appendD o.log (grownS o.st ps xs).1.2 d).2.2 = 42 ∨ (appendD o.log (grownS o.st ps xs).1.2 d).2.2 = 41)⟩, (appendD o.log (grownS o.st ps xs).1.2 d).2.1, (appendD o.log (grownS o.st ps xs).1.2 d).2.2) from rfl)
  have k0 := hc1.2.2 0 _ rfl
  have k1 := hc1.2.2 1 _ rfl
  have k2 := hc1.2.2 2 _ rfl
  have k3 := hc1.2.2 3 _ rfl
  have hHc : Hid (∀ ad, a = some ad → (w0.heap.size ≤ ad.block ∧ ¬ T ad.block ∧ ad.block ≠ lb) ∧ ad.block ≠ ob) := Lib.hid fun ad e => ⟨ha3 ad e, hc4 ad e⟩
  have Hc7 := Lib.hid hc7
  have Hm := Lib.hid hm
  have Hl := Lib.hid hl
  have Hal := Lib.hid hal
  clear hps hxs hlo hlp hpz hxz hm hl hal hc1 hc2 hc3 hc4 hc5 hc6 hc7 hvr ha3 ha4
  generalize addS o ps xs d = R at *
  generalize grownS o.st ps xs = G at *
  obtain ⟨ost, olog, dead⟩ := o
  dsimp only at *
  cases dead with
  | true =>
    have HR := Lib.hid (Ha.out.trans (if_pos rfl))
    clear Ha
    go_enter Tryz.func37, Tryz.ntmps37
    go_wp2_with fail
    go_ret
    rw [HR.out]
    exact ⟨rfl, T, HG.out, Turned.refl _ _ _, fun _ h => .inl h⟩
  | false =>
    have Ha2 := Lib.hid (Ha.out.trans (if_neg (by decide)))
    clear Ha
    go_enter Tryz.func37, Tryz.ntmps37
    go_wp2_with fail
    refine Hgrw.out.mono ?_
    rintro e w1 ⟨a1, cap1, vp1, rv, rfl, hb1, ho1, hp1, hr1, hor, had⟩
    obtain ⟨va1, vc1, rfl, _, _⟩ := hp1.read
    obtain ⟨ra, rc, rfl, _, _⟩ := hr1.read
    have HG1 := Lib.hid (HG.out.keeps hb1)
    by_cases hG : G.2 = 0
    · have Ha3 := Lib.hid (Ha2.out.trans (if_neg (fun h => h hG)))
      have er : (G.2 == 0) = true := by rw [hG]; rfl
      clear Ha2
      have c2 : w1.cell? ⟨ob, 2, none⟩ = some (.pointer (some ⟨lb, 0, none⟩)) := (hb1.cell (p := ⟨ob, 2, none⟩) (block_lt_of_cell k2)).trans k2
      have hbx : Below w1.heap.size w1 (w1.alloc (.cells #[.slice a1 G.1.1.ops.length cap1, .slice va1 G.1.1.pcs.length vc1] 128)) := (Below.refl _ _).alloc (Nat.le_refl _) _
      have hbox := VarAt.new w1 #[.slice a1 G.1.1.ops.length cap1, .slice va1 G.1.1.pcs.length vc1] 128
      have c2x : (w1.alloc (.cells #[.slice a1 G.1.1.ops.length cap1, .slice va1 G.1.1.pcs.length vc1] 128)).cell? ⟨ob, 2, none⟩ = some (.pointer (some ⟨lb, 0, none⟩)) := (hbx.cell (p := ⟨ob, 2, none⟩) (block_lt_of_cell c2)).trans c2
      have HX := HG1.out.keeps hbx
      have hTlt : ∀ k, T k → k < w.heap.size := HG.out.lin.disk.slt
      have hr2 := hr1.turnedOther (Turned.of_below hbx (Nat.le_refl _) (S := fun _ => False)) (fun _ _ h => h)
      obtain ⟨_, _, hq, hrr, _⟩ := hr2.read
      cases hq
      have happ := sappend_any HX.lin.disk HX.lin.log HX.lin.lbT ra rc G.1.2 hrr (fun ad e _ => by
        subst e
        have h1 := hr2.lt (k := ad.block) rfl
        exact ⟨h1.2, fun h => by have := hTlt _ h; omega⟩) Hm.out (by omega) Hl.out Hal.out
      have Happ := Lib.hid happ
      have HX2 := Lib.hid HX
      have Hbox := Lib.hid hbox
      have Ho1 := Lib.hid ho1
      have Hp1 := Lib.hid hp1
      have Hor := Lib.hid hor
      have Had := Lib.hid had
      have Hbx := Lib.hid hbx
      have Hb1 := Lib.hid hb1
      have HTlt := Lib.hid hTlt
      clear happ HX hbox hrr hr2 hr1 ho1 hp1 hor had hbx hb1 hTlt
      generalize appendD olog G.1.2 d = A at *
      go_wp2_with fail
      refine Happ.out.mono ?_
      rintro e w3 hA
      obtain ⟨rfl, T', hO3, hT', hTu⟩ := HX2.out.step hA
      clear hA
      have hw1 := Hb1.out.size
      have hob : ob < w.heap.size := block_lt_of_cell k0
      have hlbl : lb < w.heap.size := HG.out.lin.log.1
      have hbx3 : VarAt w3 w1.heap.size [.slice a1 G.1.1.ops.length cap1, .slice va1 G.1.1.pcs.length vc1] := Hbox.out.same (hTu.block _ Hbox.out.1 fun h => by
        rcases h with h | h
        · have := HTlt.out _ h
          omega
        · omega) hTu.size
      obtain ⟨_, _, ⟨⟨_, hc3, _⟩, _, _, _, _, _⟩, _, _⟩ := hO3.st
      have m0 := hc3.2.2 0 _ rfl
      have m1 := hc3.2.2 1 _ rfl
      have m3 := hc3.2.2 3 _ rfl
      have f0 := hc3.2.1 0
      have f1 := hc3.2.1 1
      have f3 := hc3.2.1 3
      have b0 := hbx3.2.2 0 _ rfl
      have b1 := hbx3.2.2 1 _ rfl
      have hne : w1.heap.size ≠ ob := by omega
      have HO3 := Lib.hid hO3
      clear hO3 hc3 hbx3
      by_cases hA0 : A.2.2 = 0
      · have Ha4 := Lib.hid (Ha3.out.trans (if_pos hA0))
        have q0 : (A.2.2 == 0) = true := by rw [hA0]; rfl
        have q1 : (A.2.2 == 42) = false := by rw [hA0]; rfl
        have q2 : (A.2.2 == 41) = false := by rw [hA0]; rfl
        clear Ha3
        go_wp2_with fail
        go_ret
        rw [Ha4.out]
        have hT3 : Turned (fun k => T k ∨ k = lb ∨ k = ob) w.heap.size w w3 := (Turned.of_below (Hb1.out.trans (Hbx.out.mono Hb1.out.size)) (Nat.le_refl _)).trans (hTu.mono (Nat.le_trans hw1 Hbx.out.size) fun k _ hk => hk.elim .inl fun h => .inr (.inl h))
        have hW2 := Hbx.out.size
        have hA1 : ∀ ad, a1 = some ad → (w0.heap.size ≤ ad.block ∧ ¬ T ad.block ∧ ad.block ≠ lb) ∧ ad.block ≠ ob ∧ ad.block < w1.heap.size := fun ad e => by
          rcases Hor.out with h | h
          · have h2 := hHc.out ad (h.symm.trans e)
            exact ⟨h2.1, h2.2, (Had.out ad e).1⟩
          · have h2 := h ad e
            have h3 := HG.out.lin.below.size
            exact ⟨⟨Nat.le_trans h3 h2, fun ht => (by have := HTlt.out _ ht; omega), fun he => (by omega)⟩, fun he => (by omega), (Had.out ad e).1⟩
        have hV1 : ∀ k, (Value.slice va1 G.1.1.pcs.length vc1).ownBlock = some k → (¬ T k ∧ k ≠ lb) ∧ k ≠ ob ∧ k < w1.heap.size := fun k e => by
          have h2 := Hp1.out.lt e
          exact ⟨⟨fun ht => (by have := HTlt.out _ ht; omega), fun he => (by omega)⟩, fun he => (by omega), h2.2⟩
        have hnT : ∀ k, k < w1.heap.size → ¬ T k → ¬ T' k := fun k hk ht h => by
          rcases hT' k h with h | h
          · exact ht h
          · omega
        have hs3 : Turned (fun k => T k ∨ k = lb ∨ k = ob) w1.heap.size w1 (w3.setCell ⟨ob, 3, none⟩ (.bool false)) := ((Turned.of_below Hbx.out (Nat.le_refl _)).trans (hTu.mono hW2 fun k _ hk => hk.elim .inl fun h => .inr (.inl h))).set 3 _ fun _ => .inr (.inr rfl)
        have hfin := (HO3.out.setDead false).setSt G.1.1 a1 cap1 (.slice va1 G.1.1.pcs.length vc1) ⟨Ho1.out.rows.turned2 hs3 (fun ad e _ h => by
            have h2 := hA1 ad e
            rcases h with h | h | h
            · exact h2.1.2.1 h
            · exact h2.1.2.2 h
            · exact h2.2.1 h), Ho1.out.nil, Ho1.out.le⟩ ((Hp1.out.lower HG.out.lin.below.size).turnedOther hs3 (fun k hk h => by
            have h2 := hV1 k hk
            rcases h with h | h | h
            · exact h2.1.1 h
            · exact h2.1.2 h
            · exact h2.2.1 h)) (fun ad e => ⟨⟨(hA1 ad e).1.1, hnT _ (hA1 ad e).2.2 (hA1 ad e).1.2.1, (hA1 ad e).1.2.2⟩, (hA1 ad e).2.1, Nat.lt_of_lt_of_le (hA1 ad e).2.2 hs3.size, (Had.out ad e).2⟩) (fun k e => ⟨⟨hnT _ (hV1 k e).2.2 (hV1 k e).1.1, (hV1 k e).1.2⟩, (hV1 k e).2.1⟩)
        refine ⟨rfl, T', hfin, ?_, fun k hk => (hT' k hk).imp_right fun h => Nat.le_trans hw1 (Nat.le_trans hW2 h)⟩
        exact ((hT3.set 3 _ fun _ => .inr (.inr rfl)).set 0 _ fun _ => .inr (.inr rfl)).set 1 _ fun _ => .inr (.inr rfl)
      · have Ha4 := Lib.hid (Ha3.out.trans (if_neg hA0))
        have q0 : (A.2.2 == 0) = false := by rw [beq_eq_false_iff_ne]; exact hA0
        clear Ha3
        have hW2 := Hbx.out.size
        have hT3 : Turned (fun k => T k ∨ k = lb ∨ k = ob) w.heap.size w w3 := (Turned.of_below (Hb1.out.trans (Hbx.out.mono Hb1.out.size)) (Nat.le_refl _)).trans (hTu.mono (Nat.le_trans hw1 Hbx.out.size) fun k _ hk => hk.elim .inl fun h => .inr (.inl h))
        have HT3 := Lib.hid hT3
        have HT' := Lib.hid hT'
        clear hT3 hT' hTu
        by_cases hA2 : A.2.2 = 42
        · have q1 : (A.2.2 == 42) = true := by rw [hA2]; rfl
          have Hd := Lib.hid (show decide (A.2.2 = 42 ∨ A.2.2 = 41) = true from decide_eq_true (.inl hA2))
          have HA2 := Lib.hid hA2
          clear hA2
          go_wp2_with fail
          go_ret
          rw [Ha4.out, Hd.out]
          exact ⟨rfl, T', HO3.out.setDead true, HT3.out.set 3 _ fun _ => .inr (.inr rfl), fun k hk => (HT'.out k hk).imp_right fun h => Nat.le_trans hw1 (Nat.le_trans hW2 h)⟩
        · have q1 : (A.2.2 == 42) = false := by rw [beq_eq_false_iff_ne]; exact hA2
          obtain ⟨dd, hdd⟩ : ∃ dd, decide (A.2.2 = 42 ∨ A.2.2 = 41) = dd := ⟨_, rfl⟩
          have q2 : (A.2.2 == 41) = dd := by
            rw [← hdd, Bool.eq_iff_iff, beq_iff_eq, decide_eq_true_iff]
            exact ⟨.inr, fun h => h.resolve_left hA2⟩
          have Hd := Lib.hid hdd
          clear hdd
          go_wp2_with fail
          go_ret
          rw [Ha4.out, Hd.out]
          exact ⟨rfl, T', HO3.out.setDead dd, HT3.out.set 3 _ fun _ => .inr (.inr rfl), fun k hk => (HT'.out k hk).imp_right fun h => Nat.le_trans hw1 (Nat.le_trans hW2 h)⟩
    · have Ha3 := Lib.hid (Ha2.out.trans (if_pos hG))
      have er : (G.2 == 0) = false := by rw [beq_eq_false_iff_ne]; exact hG
      clear Ha2
      have HX := Lib.hid ((HG1.out.keeps ((Below.refl _ _).alloc (Nat.le_refl _) (.cells #[.slice a1 G.1.1.ops.length cap1, .slice va1 G.1.1.pcs.length vc1] 128))))
      go_wp2_with fail
      go_ret
      rw [Ha3.out]
      exact ⟨rfl, T, HX.out, Turned.of_below (hb1.alloc hb1.size _) (Nat.le_refl _), fun _ h => .inl h⟩
end Go.Proofs.YtgglheelhbfgiaaGreatDoor

namespace Go.Proofs.YtgglheelhbfgiaaGreatDoor
open Go Go.RowKit Go.Lib
theorem oops_any {w0 w : World} {db ob lb : Nat} {T : Nat → Prop} {d : Dk} {o : Ol} (h : OlIn w0 w db ob lb T d o) (hl : o.st.ops.length ≤ 10000) :
    Calls Tryz.prog 39 #[.pointer (some ⟨ob, 0, none⟩)] w fun e w' => ∃ v, e = .returned v ∧ OwnRows oprLay w' w.heap.size 66 v o.st.ops ∧ Below w.heap.size w w' := by
  obtain ⟨a, vp, hst, _, _⟩ := h.st
  obtain ⟨⟨cap, hc1, hc2⟩, _, _, _, _, _⟩ := hst
  have k0 := hc1.2.2 0 _ rfl
  have HC := Lib.hid (clone_any a cap o.st.ops w hl hc2.nil hc2.rows)
  clear h hc1 hc2
  go_enter Tryz.func39, Tryz.ntmps39
  go_wp2_with fail
  refine HC.out.mono ?_
  rintro e w1 ⟨v, rfl, hown, hb⟩
  obtain ⟨a1, c1, rfl, _, _⟩ := hown.read
  go_wp2_with fail
  go_ret
  exact ⟨_, rfl, hown, hb⟩
theorem opieces_any {w0 w : World} {db ob lb : Nat} {T : Nat → Prop} {d : Dk} {o : Ol} (h : OlIn w0 w db ob lb T d o) (hl : o.st.pcs.length ≤ 1000000000) :
    Calls Tryz.prog 40 #[.pointer (some ⟨ob, 0, none⟩)] w fun e w' => ∃ v, e = .returned v ∧ OwnRows strLay w' w.heap.size 9 v o.st.pcs ∧ Below w.heap.size w w' := by
  obtain ⟨a, vp, hst, _, _⟩ := h.st
  obtain ⟨⟨cap, hc1, hc2⟩, hc3, _, _, _, _⟩ := hst
  obtain ⟨va, vc, rfl, hvr, _⟩ := hc3.read
  have k1 := hc1.2.2 1 _ rfl
  have HC := Lib.hid (sclone_any va vc o.st.pcs w hvr hl)
  clear h hc1 hc2 hc3 hvr
  go_enter Tryz.func40, Tryz.ntmps40
  go_wp2_with fail
  refine HC.out.mono ?_
  rintro e w1 ⟨v, rfl, hown, hb⟩
  obtain ⟨a1, c1, rfl, _, _⟩ := hown.read
  go_wp2_with fail
  go_ret
  exact ⟨_, rfl, hown, hb⟩
theorem oops_nil (w : World) : Calls Tryz.prog 39 #[.pointer none] w fun e w' => e = .returned (.slice none 0 0) ∧ w' = w := by
  go_enter Tryz.func39, Tryz.ntmps39
  go_wp2_with fail
  go_ret
  exact ⟨rfl, rfl⟩
theorem opieces_nil (w : World) : Calls Tryz.prog 40 #[.pointer none] w fun e w' => e = .returned (.slice none 0 0) ∧ w' = w := by
  go_enter Tryz.func40, Tryz.ntmps40
  go_wp2_with fail
  go_ret
  exact ⟨rfl, rfl⟩
theorem odead_nil (w : World) : Calls Tryz.prog 41 #[.pointer none] w fun e w' => e = .returned (.bool false) ∧ w' = w := by
  go_enter Tryz.func41, Tryz.ntmps41
  go_wp2_with fail
  go_ret
  exact ⟨rfl, rfl⟩
theorem oadd_nil (v u : Value) (w : World) : Calls Tryz.prog 37 #[.pointer none, v, u] w fun e w' => e = .returned (.int .i64 2) ∧ w' = w := by
  go_enter Tryz.func37, Tryz.ntmps37
  go_wp2_with fail
  go_ret
  exact ⟨rfl, rfl⟩
theorem oopen_nil (w : World) : Calls Tryz.prog 35 #[.pointer none] w fun e w' => e = .returned (.tuple #[.pointer none, .int .i64 2]) ∧ w' = w := by
  have HO := Lib.hid (sopen_nil w)
  go_enter Tryz.func35, Tryz.ntmps35
  go_wp2_with fail
  refine HO.out.mono ?_
  rintro e w1 ⟨rfl, hw1⟩
  rw [hw1]
  clear hw1
  go_wp2_with fail
  go_ret2
  exact ⟨rfl, rfl⟩
theorem onext_nil (who : Int) (w : World) : Calls Tryz.prog 36 #[.pointer none, .int .i64 who] w fun e w' => e = .returned (.tuple #[.agg #[.int .i64 0, .int .i64 0], .int .i64 0, .int .i64 2]) ∧ Below w.heap.size w w' := by
  have hR := VarAt.new w #[.int .i64 0, .int .i64 0] 61
  go_enter Tryz.func36, Tryz.ntmps36
  go_wp2_with fail
  have z0 := hR.2.2 0 _ rfl
  have z1 := hR.2.2 1 _ rfl
  exact bodyPost_ret (v := .tuple #[.agg #[.int .i64 0, .int .i64 0], .int .i64 0, .int .i64 2]) (by simp [results, Tryz.results36, go_sem, z0, z1]) rfl ⟨rfl, (Below.refl _ _).alloc (Nat.le_refl _) _⟩
end Go.Proofs.YtgglheelhbfgiaaGreatDoor

namespace Go.Proofs.YtgglheelhbfgiaaGreatDoor
open Go Go.RowKit Go.Lib
def snLay : Lay (Int × Int) := { sz := 2, cells := fun x => [.int .i64 x.1, .int .i64 x.2], len := fun _ => rfl, one := fun x v hv => by simp only [List.mem_cons, List.mem_nil_iff, or_false] at hv; rcases hv with rfl | rfl <;> rfl }
theorem sn_at {w : World} {a : Option Addr} {xs : List (Int × Int)} (h : RowsAt snLay w a xs) {k : Nat} {x : Int × Int} (hk : xs[k]? = some x) : ∃ b off, a = some ⟨b, off, none⟩ ∧ b < w.heap.size ∧ w.cell? ⟨b, off + k * 2, none⟩ = some (.int .i64 x.1) ∧ w.cell? ⟨b, off + k * 2 + 1, none⟩ = some (.int .i64 x.2) := by
  obtain ⟨b, off, e, hlt, hc⟩ := h k x hk
  exact ⟨b, off, e, hlt, hc 0 _ rfl, hc 1 _ rfl⟩
def lastC (l : List (Int × Int)) : Int := l.foldl (fun m x => max m x.1) 0
def nextC2 (l : List (Int × Int)) (who : Int) : (Int × Int) × Int :=
  if who < 0 ∨ 15 ≤ who then ((0, 0), 1)
  else if 1099511627776 ≤ lastC l then ((0, 0), 21)
  else ((lastC l + 1, who), 0)
theorem lastC_snoc {l : List (Int × Int)} {k : Nat} {x : Int × Int} (h : l[k]? = some x) : lastC (l.take (k + 1)) = max (lastC (l.take k)) x.1 := by
  unfold lastC
  rw [List.take_add_one, h, List.foldl_append]
  rfl
theorem lastC_nn (l : List (Int × Int)) : 0 ≤ lastC l := by
  unfold lastC
  suffices h : ∀ (l : List (Int × Int)) (m : Int), 0 ≤ m → 0 ≤ l.foldl (fun m x => max m x.1) m from h l 0 (Int.le_refl _)
  intro l
  induction l with
  | nil => exact fun m h => h
  | cons x l ih => exact fun m h => ih _ (show 0 ≤ max m x.1 by omega)
set_option maxRecDepth 100000 in
set_option maxHeartbeats 3200000 in
theorem cnext_any (who : Int) (a : Option Addr) (cap : Nat) (l : List (Int × Int)) (w : World) (hl : l.length ≤ 1000000) (h : RowsAt snLay w a l) :
    Calls Tryz.prog 76 #[.int .i64 who, .slice a l.length cap] w fun e w' => e = .returned (.tuple #[.agg #[.int .i64 (nextC2 l who).1.1, .int .i64 (nextC2 l who).1.2], .int .i64 (nextC2 l who).2]) ∧ Below w.heap.size w w' := by
  have hR := VarAt.new w #[.int .i64 0, .int .i64 0] 61
  have hb0 : Below w.heap.size w (w.alloc (.cells #[.int .i64 0, .int .i64 0] 61)) := (Below.refl _ _).alloc (Nat.le_refl _) _
  have Hn := Lib.hid (show nextC2 l who = if who < 0 ∨ 15 ≤ who then ((0, 0), 1) else if 1099511627776 ≤ lastC l then ((0, 0), 21) else ((lastC l + 1, who), 0) from rfl)
  have hnn := lastC_nn l
  generalize nextC2 l who = R at *
  by_cases hw : who < 0 ∨ 15 ≤ who
  · have HR := Lib.hid (Hn.out.trans (if_pos hw))
    clear Hn
    have z0 := hR.2.2 0 _ rfl
    have z1 := hR.2.2 1 _ rfl
    have f0 := hR.2.1 0
    have f1 := hR.2.1 1
    go_enter Tryz.func76, Tryz.ntmps76
    rcases hw with hw | hw
    · go_wp2_with fail
      rw [HR.out]
      exact bodyPost_ret (v := .tuple #[.agg #[.int .i64 0, .int .i64 0], .int .i64 1]) (by simp [results, Tryz.results76, go_sem, z0, z1]) rfl ⟨rfl, hb0⟩
    · have hw2 : ¬ who < 0 := by omega
      go_wp2_with fail
      rw [HR.out]
      exact bodyPost_ret (v := .tuple #[.agg #[.int .i64 0, .int .i64 0], .int .i64 1]) (by simp [results, Tryz.results76, go_sem, z0, z1]) rfl ⟨rfl, hb0⟩
  · have Hn2 := Lib.hid (Hn.out.trans (if_neg hw))
    clear Hn
    have hw1 : ¬ who < 0 := by omega
    have hw2 : ¬ who ≥ 15 := by omega
    go_enter Tryz.func76, Tryz.ntmps76
    go_wp2_with fail
    obtain ⟨W0, hW0⟩ : ∃ W0, w.alloc (.cells #[.int .i64 0, .int .i64 0] 61) = W0 := ⟨_, rfl⟩
    rw [hW0] at hR hb0 ⊢
    clear hW0
    go_loopw [6, 8, 18] (fun m _ i wr => ∃ k : Nat, k ≤ l.length ∧ m = .int .i64 (lastC (l.take k)) ∧ i = .int .i64 k ∧ Below W0.heap.size W0 wr) (fun _ _ i _ => l.length - (RowKit.intOf i).toNat)
    case atStart => exact ⟨0, Nat.zero_le _, rfl, rfl, Below.refl _ _⟩
    case round =>
      obtain ⟨k, hk, rfl, rfl, hb⟩ := hrel
      by_cases hlt : k < l.length
      · obtain ⟨x, hx2⟩ := at_some hlt
        obtain ⟨b, off, rfl, hbl, c0, c1⟩ := sn_at (h.keeps (hb0.trans (hb.mono hb0.size))) hx2
        have hlti : (k : Int) < (l.length : Int) := by omega
        have Hl := Lib.hid (lastC_snoc hx2)
        have hbx := hb.alloc hb.size (.cells #[.int .i64 x.1, .int .i64 x.2] 61)
        clear hx2
        go_wp2_with fail
        go_roundw
        case rel => exact ⟨k + 1, hlt, by rw [Hl.out], by go_num, hbx⟩
        case measure => (show l.length - (k + 1) < l.length - k; omega)
      · have hke : k = l.length := by omega
        subst hke
        rw [List.take_length]
        have HRx := Lib.hid (hR.keeps hb hR.1)
        have f0 := HRx.out.2.1 0
        have f1 := HRx.out.2.1 1
        have z0 := HRx.out.2.2 0 _ rfl
        have z1 := HRx.out.2.2 1 _ rfl
        have hbw := hb0.trans (hb.mono hb0.size)
        have hbz : ∀ u v, Below w.heap.size w ((wr.setCell ⟨w.heap.size, 0, none⟩ u).setCell ⟨w.heap.size, 1, none⟩ v) := fun u v => (hbw.setCell (p := ⟨w.heap.size, 0, none⟩) (Nat.le_refl _) _).setCell (p := ⟨w.heap.size, 1, none⟩) (Nat.le_refl _) _
        by_cases hm : 1099511627776 ≤ lastC l
        · have HR := Lib.hid (Hn2.out.trans (if_pos hm))
          have hm2 : lastC l ≥ 1099511627776 := hm
          clear Hn2
          go_wp2_with fail
          have hz := res_set (.int .i64 0) (.int .i64 0) HRx.out
          have y0 := hz.2.2 0 _ rfl
          have y1 := hz.2.2 1 _ rfl
          rw [HR.out]
          exact bodyPost_ret (v := .tuple #[.agg #[.int .i64 0, .int .i64 0], .int .i64 21]) (by simp [results, Tryz.results76, go_sem, y0, y1]) rfl ⟨rfl, hbz _ _⟩
        · have HR := Lib.hid (Hn2.out.trans (if_neg hm))
          have hm2 : ¬ lastC l ≥ 1099511627776 := hm
          have hwr : IntKind.i64.wrap (lastC l + 1) = lastC l + 1 := IntWalk.i64_in _ (by omega)
          clear Hn2
          go_wp2_with fail
          have hz := res_set (.int .i64 (lastC l + 1)) (.int .i64 who) HRx.out
          have y0 := hz.2.2 0 _ rfl
          have y1 := hz.2.2 1 _ rfl
          rw [HR.out]
          exact bodyPost_ret (v := .tuple #[.agg #[.int .i64 (lastC l + 1), .int .i64 who], .int .i64 0]) (by simp [results, Tryz.results76, go_sem, y0, y1]) rfl ⟨rfl, hbz _ _⟩
end Go.Proofs.YtgglheelhbfgiaaGreatDoor

