/-
  arbourref15: New, Names; and, in plain Lean, which acts a crash keeps. arbourref15: Crash.
-/
import Derived.Test.YtgglheelhbfgiaaGreatDoorMg14
namespace Go.Proofs.YtgglheelhbfgiaaGreatDoor
open Go Go.RowKit Go.Lib
set_option maxRecDepth 100000 in
theorem rnames_any {w : World} {rb : Nat} {R : Nat → Prop} {d : Dk} (h : ROk w rb R d) (hl : d.now.length ≤ 100000) :
    Calls Tryz.prog 28 #[.pointer (some ⟨rb, 0, none⟩)] w fun e w' => ∃ u, e = .returned u ∧ OwnRows strLay w' w.heap.size 9 u (namesD d) ∧ Below w.heap.size w w' := by
  obtain ⟨i0, hi, hz0, hz1, hz2⟩ := info_parts strInfo
  have Hi := Lib.hid hi
  have Hz0 := Lib.hid hz0
  have Hz1 := Lib.hid hz1
  have Hz2 := Lib.hid hz2
  clear hi hz0 hz1 hz2
  obtain ⟨⟨v, na, nc, fa, fc, k1, k2, _⟩, hR⟩ := h
  have HC := Lib.hid fun W (hW : Below w.heap.size w W) => (k1.keeps hW k1.1).2.2 0 _ rfl
  have HF := Lib.hid fun W (hW : Below w.heap.size w W) => k2.rows.keeps hW
  have Hn := Lib.hid (show namesD d = d.now.map (·.1) from rfl)
  clear k1 k2
  generalize d.now = l at *
  generalize namesD d = N at *
  go_enter Tryz.func28, Tryz.ntmps28
  go_wp2_with fail
  go_loopw [3, 4] (fun o i wr => ∃ k : Nat, k ≤ l.length ∧ i = .int .i64 k ∧ OwnRows strLay wr w.heap.size 9 o ((l.take k).map (·.1)) ∧ Below w.heap.size w wr) (fun _ i _ => l.length - (RowKit.intOf i).toNat)
  case atStart => exact ⟨0, Nat.zero_le _, rfl, OwnRows.nil _ _ _ _, Below.refl _ _⟩
  case round =>
    obtain ⟨k, hk, rfl, hq, hb⟩ := hrel
    have c0 := HC.out wr hb
    by_cases hlt : k < l.length
    · obtain ⟨x, hx⟩ := at_some hlt
      obtain ⟨b, off, hae, hbl, c1, _⟩ := fl_at (HF.out wr hb) hx
      have Htk := Lib.hid (show (l.take (k + 1)).map (·.1) = (l.take k).map (·.1) ++ [x.1] by rw [List.take_add_one, hx, Option.toList_some, List.map_append]; rfl)
      have hlen : ((l.take k).map (·.1)).length ≤ 100000 := by rw [List.length_map, List.length_take]; omega
      have hki : (k : Int) < (l.length : Int) := by omega
      subst hae
      clear hx
      generalize hacc : (l.take k).map (·.1) = acc at *
      have Hq := Lib.hid hq
      have Hb := Lib.hid hb
      have hbs := hb.size
      clear hq hacc hb
      go_wp2_with (at_builtin; refine wpList_append_rows _ rfl _ _ 23 rfl strLay w.heap.size 9 i0 (.string ⟨#[]⟩) 16 Tryz.underlying23 Hi.out Hz0.out Hz1.out Hz2.out rfl (by decide) _ acc rfl (Hq.out.alloc _) ⟨wr.heap.size, 0, none⟩ 1 x.1 rfl (cells_new_at wr wr.heap.size #[.string x.1] 9 rfl) (by unfold maxLen; omega) (by omega) (by simp; omega) ?_; intro va w3 hrow3 hg3 _; go_frame)
      have hb3 := (Hb.out.alloc hbs (.cells #[.string x.1] 9)).grown hg3 (by simp; omega) (fun j ej => (Hq.out.lt ej).1)
      go_roundw
      case rel => exact ⟨k + 1, by omega, by go_num, by rw [Htk.out]; exact hrow3, hb3⟩
      case measure => simp [RowKit.intOf]; omega
    · obtain rfl : k = l.length := by omega
      rw [List.take_length, ← Hn.out] at hq
      go_wp2_with fail
      go_ret
      exact ⟨_, rfl, hq, hb⟩
set_option maxRecDepth 100000 in
theorem rnew_any (w : World) (n : Nat) (h0 : 1 ≤ n) (h1 : n ≤ 4194304) :
    Calls Tryz.prog 15 #[.int .i64 n] w fun e w' => ∃ rb, e = .returned (.tuple #[.pointer (some ⟨rb, 0, none⟩), .int .i64 0]) ∧ w.heap.size ≤ rb ∧ ROk w' rb (fun k => k = rb) (newD n) ∧ Below w.heap.size w w' := by
  have e1 : ¬ ((n : Int) < 1) := by omega
  have e2 : ¬ ((16777216 : Int) < (n : Int)) := by omega
  go_enter Tryz.func15, Tryz.ntmps15
  go_wp2_with fail
  go_ret2
  have hb := (Below.refl w.heap.size w).alloc (Nat.le_refl _) (.cells #[.slice none 0 0, .slice none 0 0, .slice none 0 0, .int .i64 n, .int .i64 0, .bool false] 105)
  have hF : ∀ W : World, FlAt W none 0 ([] : Fls) := fun W => ⟨fun k x hk => by simp at hk, fun _ => rfl, Nat.le_refl _⟩
  exact ⟨w.heap.size, rfl, Nat.le_refl _, ⟨⟨.slice none 0 0, none, 0, none, 0, VarAt.new w #[.slice none 0 0, .slice none 0 0, .slice none 0 0, .int .i64 n, .int .i64 0, .bool false] 105, hF _, hF _, OwnRows.nil _ _ _ _, fun ad e => (by cases e), fun ad e => (by cases e), fun e => (by cases e), rfl, fun k e => (by cases e)⟩, fun k hk => by rw [hk]; simp⟩, hb⟩
theorem rnew_wrong (w : World) (n : Int) (h : n < 1) :
    Calls Tryz.prog 15 #[.int .i64 n] w fun e w' => e = .returned (.tuple #[.pointer none, .int .i64 1]) ∧ w' = w := by
  go_enter Tryz.func15, Tryz.ntmps15
  go_wp2_with fail
  go_ret2
  exact ⟨rfl, rfl⟩
/-! ### a crash, in plain Lean -/
/-- The last act of so many that is kept. -/
def lastD (keep : Int) : Nat → Int
  | 0 => -1
  | n + 1 => if bitD keep n then (n : Int) else lastD keep n
theorem lastD_lt (keep : Int) : ∀ n, lastD keep n < n
  | 0 => by
    show (-1 : Int) < 0
    decide
  | n + 1 => by
    unfold lastD
    have := lastD_lt keep n
    split <;> omega
theorem lastD_is {keep : Int} : ∀ {n j : Nat}, j < n → bitD keep j = true → (lastD keep n = j ↔ ∀ i, j < i → i < n → bitD keep i = false)
  | n + 1, j, hj, hb => by
    unfold lastD
    by_cases hn : bitD keep n = true
    · rw [if_pos hn]
      constructor
      · intro h i h1 h2
        omega
      · intro h
        rcases Nat.lt_or_ge j n with h1 | h1
        · have := h n h1 (by omega)
          rw [hn] at this
          cases this
        · omega
    · rw [if_neg hn]
      have hjn : j < n := by
        rcases Nat.lt_or_ge j n with h1 | h1
        · exact h1
        · obtain rfl : j = n := by omega
          exact absurd hb hn
      rw [lastD_is hjn hb]
      constructor
      · intro h i h1 h2
        rcases Nat.lt_or_ge i n with h3 | h3
        · exact h i h1 h3
        · obtain rfl : i = n := by omega
          simpa using hn
      · exact fun h i h1 h2 => h i h1 (by omega)
/-- Files behind one act more: it is kept, or not; torn, if it is the last one. -/
def stepR (keep : Int) (torn : Bool) (last : Int) (i : Nat) (es : Fls) (a : ActD) : Fls := if bitD keep i then doD es a (torn && decide ((i : Int) = last)) else es
def runR (keep : Int) (torn : Bool) (last : Int) : Nat → Fls → List ActD → Fls
  | _, es, [] => es
  | i, es, a :: r => runR keep torn last (i + 1) (stepR keep torn last i es a) r
theorem runR_snoc (keep : Int) (torn : Bool) (last : Int) : ∀ (l : List ActD) (i : Nat) (es : Fls) (a : ActD), runR keep torn last i es (l ++ [a]) = stepR keep torn last (i + l.length) (runR keep torn last i es l) a
  | [], i, es, a => rfl
  | x :: r, i, es, a => by
    show runR keep torn last (i + 1) _ (r ++ [a]) = stepR keep torn last (i + (r.length + 1)) (runR keep torn last (i + 1) _ r) a
    rw [runR_snoc, show i + 1 + r.length = i + (r.length + 1) by omega]
theorem runR_none {keep : Int} {torn : Bool} {last : Int} : ∀ {l : List ActD} {i : Nat} {es : Fls}, (∀ j, j < l.length → bitD keep (i + j) = false) → keptD keep i l = [] ∧ runR keep torn last i es l = es
  | [], i, es, _ => ⟨rfl, rfl⟩
  | a :: r, i, es, h => by
    have h0 : bitD keep i = false := h 0 (Nat.succ_pos _)
    obtain ⟨h1, h2⟩ := runR_none (torn := torn) (last := last) (l := r) (i := i + 1) (es := es) fun j hj => by
      have := h (j + 1) (Nat.succ_lt_succ hj)
      rwa [show i + (j + 1) = i + 1 + j by omega] at this
    constructor
    · show (if bitD keep i then a :: keptD keep (i + 1) r else keptD keep (i + 1) r) = []
      rw [h0, if_neg Bool.noConfusion, h1]
    · show runR keep torn last (i + 1) (stepR keep torn last i es a) r = es
      unfold stepR
      rw [h0, if_neg Bool.noConfusion, h2]
theorem kept_nil {keep : Int} : ∀ {l : List ActD} {i : Nat}, keptD keep i l = [] → ∀ j, j < l.length → bitD keep (i + j) = false
  | [], i, _, j, hj => absurd hj (Nat.not_lt_zero j)
  | a :: r, i, h, j, hj => by
    have h' : (if bitD keep i then a :: keptD keep (i + 1) r else keptD keep (i + 1) r) = [] := h
    cases hb : bitD keep i with
    | true =>
      rw [hb, if_pos rfl] at h'
      cases h'
    | false =>
      rw [hb, if_neg Bool.noConfusion] at h'
      cases j with
      | zero => exact hb
      | succ j =>
        have := kept_nil h' j (Nat.lt_of_succ_lt_succ hj)
        rwa [show i + 1 + j = i + (j + 1) by omega] at this
theorem runR_is {keep : Int} {torn : Bool} {last : Int} : ∀ {l : List ActD} {i : Nat} {es : Fls}, (∀ j, j < l.length → bitD keep (i + j) = true → (last = ((i + j : Nat) : Int) ↔ ∀ k, j < k → k < l.length → bitD keep (i + k) = false)) → runR keep torn last i es l = runD torn es (keptD keep i l)
  | [], i, es, _ => rfl
  | a :: r, i, es, h => by
    have ih : ∀ es2, runR keep torn last (i + 1) es2 r = runD torn es2 (keptD keep (i + 1) r) := fun es2 => runR_is fun j hj hb => by
      have hj1 : j + 1 < (a :: r).length := Nat.succ_lt_succ hj
      have h1 := h (j + 1) hj1 (by rwa [show i + (j + 1) = i + 1 + j by omega])
      rw [show i + 1 + j = i + (j + 1) by omega, h1]
      constructor
      · intro h2 k hk1 hk2
        have := h2 (k + 1) (by omega) (Nat.succ_lt_succ hk2)
        rwa [show i + (k + 1) = i + 1 + k by omega] at this
      · intro h2 k hk1 hk2
        cases k with
        | zero => omega
        | succ k =>
          have := h2 k (by omega) (Nat.lt_of_succ_lt_succ hk2)
          rwa [show i + 1 + k = i + (k + 1) by omega] at this
    show runR keep torn last (i + 1) (stepR keep torn last i es a) r = runD torn es (if bitD keep i then a :: keptD keep (i + 1) r else keptD keep (i + 1) r)
    rw [ih]
    unfold stepR
    cases hb : bitD keep i with
    | false => rw [if_neg Bool.noConfusion, if_neg Bool.noConfusion]
    | true =>
      rw [if_pos rfl, if_pos rfl]
      have h0 := h 0 (Nat.succ_pos _) hb
      cases hk : keptD keep (i + 1) r with
      | nil =>
        have hl : last = ((i + 0 : Nat) : Int) := h0.2 fun k hk1 hk2 => by
          cases k with
          | zero => omega
          | succ k =>
            have := kept_nil hk k (Nat.lt_of_succ_lt_succ hk2)
            rwa [show i + 1 + k = i + (k + 1) by omega] at this
        rw [decide_eq_true (show (i : Int) = last from hl.symm), Bool.and_true]
        rfl
      | cons b t =>
        have hl : ¬ (i : Int) = last := fun e => by
          have h2 := h0.1 e.symm
          have h3 := (runR_none (keep := keep) (torn := torn) (last := last) (l := r) (i := i + 1) (es := es) fun j hj => by
            have := h2 (j + 1) (Nat.succ_pos _) (Nat.succ_lt_succ hj)
            rwa [show i + (j + 1) = i + 1 + j by omega] at this).1
          rw [hk] at h3
          cases h3
        rw [decide_eq_false hl, Bool.and_false]
        rfl
theorem crash_ref (keep : Int) (torn : Bool) (es : Fls) (l : List ActD) : runR keep torn (lastD keep l.length) 0 es l = runD torn es (keptD keep 0 l) :=
  runR_is fun j hj hb => by
    rw [Nat.zero_add] at hb ⊢
    rw [lastD_is hj hb]
    constructor
    · intro h k h1 h2
      rw [Nat.zero_add]
      exact h k h1 h2
    · intro h k h1 h2
      have := h k h1 h2
      rwa [Nat.zero_add] at this
/-- An act whose bytes are torn. -/
def tornA (a : ActD) (t : Bool) : ActD := if t then { a with data := halfB a.data } else a
theorem doD_torn (es : Fls) (a : ActD) (t : Bool) : doD es (tornA a t) false = doD es a t := by
  cases t with
  | false => rfl
  | true =>
    unfold tornA doD
    rw [if_pos rfl]
    cases a.cut <;> rfl
theorem tornA_ok {a : ActD} (h : ActOK a) (t : Bool) : ActOK (tornA a t) := by
  cases t with
  | false => exact h
  | true =>
    obtain ⟨h1, h2, h3⟩ := h
    exact ⟨h1, Nat.le_trans (half_le _) h2, h3⟩
end Go.Proofs.YtgglheelhbfgiaaGreatDoor

namespace Go.Proofs.YtgglheelhbfgiaaGreatDoor
open Go Go.RowKit Go.Lib
theorem act15_at {w : World} {a : Option Addr} {xs : List ActD} (h : RowsAt act15Lay w a xs) {k : Nat} {x : ActD} (hk : xs[k]? = some x) : ∃ b off, a = some ⟨b, off, none⟩ ∧ b < w.heap.size ∧ w.cell? ⟨b, off + k * 4, none⟩ = some (.string x.name) ∧ w.cell? ⟨b, off + k * 4 + 1, none⟩ = some (.int .i64 x.at_) ∧ w.cell? ⟨b, off + k * 4 + 2, none⟩ = some (.string x.data) ∧ w.cell? ⟨b, off + k * 4 + 3, none⟩ = some (.int .i64 x.size_) := by
  obtain ⟨b, off, e, hlt, hc⟩ := h k x hk
  exact ⟨b, off, e, hlt, hc 0 _ rfl, hc 1 _ rfl, hc 2 _ rfl, hc 3 _ rfl⟩
theorem RD.setFirm {w : World} {rb : Nat} {Q : Nat → Prop} {v : Value} {d : Dk} {a : Option Addr} {cap : Nat} {es E : Fls} (h : RD w rb Q v { d with firm := es }) (h1 : FlAt w a cap E) (h2 : FarB w rb Q v a) :
    RD (w.setCell ⟨rb, 1, none⟩ (.slice a E.length cap)) rb Q v { d with firm := E } ∧ Turned (fun k => k = rb) w.heap.size w (w.setCell ⟨rb, 1, none⟩ (.slice a E.length cap)) := by
  obtain ⟨na, nc, fa, fc, k1, k2, k3, k4, k5, k6, k7, k8, k9⟩ := h
  have hT := (Turned.refl (fun j => j = rb) w.heap.size w).set (b := rb) 1 (.slice a E.length cap) (fun _ => rfl)
  have hV := k1.set 1 (.slice a E.length cap) (by simp)
  exact ⟨⟨na, nc, a, cap, by simpa using hV, k2.turned hT fun ad e => (k5 ad e).1, h1.turned hT fun ad e => (h2 ad e).1, k4.turnedOther hT fun k hk hh => k7 (by rw [hk, hh]), k5.later hT.size, h2.later hT.size, k7, k8, k9⟩, hT⟩
theorem RD.crashed {w : World} {rb : Nat} {Q : Nat → Prop} {v : Value} {d : Dk} {es : Fls} (h : RD w rb Q v { d with firm := es }) : ∀ fa fc, w.cell? ⟨rb, 1, none⟩ = some (.slice fa es.length fc) →
    RD ((((w.setCell ⟨rb, 0, none⟩ (.slice fa es.length fc)).setCell ⟨rb, 2, none⟩ (.slice none 0 0)).setCell ⟨rb, 5, none⟩ (.bool false)).setCell ⟨rb, 4, none⟩ (.int .i64 0)) rb Q (.slice none 0 0) { d with firm := es, now := es, acts := [], armed := 0, dead := false } ∧
    Turned (fun k => k = rb) w.heap.size w ((((w.setCell ⟨rb, 0, none⟩ (.slice fa es.length fc)).setCell ⟨rb, 2, none⟩ (.slice none 0 0)).setCell ⟨rb, 5, none⟩ (.bool false)).setCell ⟨rb, 4, none⟩ (.int .i64 0)) := by
  intro fa fc hc
  obtain ⟨na, nc, fa', fc', k1, k2, k3, k4, k5, k6, k7, k8, k9⟩ := h
  have e1 := (k1.2.2 1 _ rfl).symm.trans hc
  simp only [Option.some.injEq, Value.slice.injEq] at e1
  obtain ⟨rfl, -, rfl⟩ := e1
  have hT := ((((Turned.refl (fun j => j = rb) w.heap.size w).set (b := rb) 0 (.slice fa' es.length fc') (fun _ => rfl)).set (b := rb) 2 (.slice none 0 0) (fun _ => rfl)).set (b := rb) 5 (.bool false) (fun _ => rfl)).set (b := rb) 4 (.int .i64 0) (fun _ => rfl)
  have hV := (((k1.set 0 (.slice fa' es.length fc') (by simp)).set 2 (.slice none 0 0) (by simp)).set 5 (.bool false) (by simp)).set 4 (.int .i64 0) (by simp)
  have hno : ∀ W : World, W.heap.size = w.heap.size → FarB W rb Q (.slice none 0 0) fa' := fun W hW ad e =>
    ⟨(k6 ad e).1, fun e2 => (by cases e2), (k6 ad e).2.2.1, by rw [hW]; exact (k6 ad e).2.2.2⟩
  have hF := k3.turned hT fun ad e => (k6 ad e).1
  exact ⟨⟨fa', fc', fa', fc', by simpa using hV, hF, hF, OwnRows.nil _ _ _ _, hno _ (by simp), hno _ (by simp), fun e => (by cases e), k8, fun k e => (by cases e)⟩, hT⟩
theorem RD.firmed {w w1 w5 : World} {rb : Nat} {R : Nat → Prop} {v : Value} {d : Dk} {es E : Fls} {fa a5 : Option Addr} {cap5 : Nat} (hs : w.heap.size ≤ w1.heap.size) (h : RD w1 rb (GrowS R w w1) v { d with firm := es }) (hfa : FarB w1 rb (GrowS R w w1) v fa) (hb : Below w1.heap.size w1 w5) (hf : FlAt w5 a5 cap5 E)
    (ho : a5 = fa ∨ ∀ ad, a5 = some ad → w1.heap.size ≤ ad.block ∧ ad.block < w5.heap.size) :
    RD (w5.setCell ⟨rb, 1, none⟩ (.slice a5 E.length cap5)) rb (GrowS R w (w5.setCell ⟨rb, 1, none⟩ (.slice a5 E.length cap5))) v { d with firm := E } ∧ Turned (fun k => k = rb) w5.heap.size w5 (w5.setCell ⟨rb, 1, none⟩ (.slice a5 E.length cap5)) := by
  have hg : ∀ k, GrowS R w w1 k → GrowS R w w5 k := fun k hk => hk.imp id fun e => ⟨e.1, Nat.lt_of_lt_of_le e.2 hb.size⟩
  have h5 := (h.below hb).mono (R := GrowS R w w5) fun k _ hk => hg k hk
  have hlt := h.lt
  have hfar : FarB w5 rb (GrowS R w w5) v a5 := by
    rcases ho with e | e
    · rw [e]
      exact fun ad ea => ⟨(hfa ad ea).1, (hfa ad ea).2.1, hg _ (hfa ad ea).2.2.1, Nat.lt_of_lt_of_le (hfa ad ea).2.2.2 hb.size⟩
    · intro ad ea
      obtain ⟨e1, e2⟩ := e ad ea
      exact ⟨by omega, fun e3 => (by have := hlt.2 _ e3; omega), .inr ⟨by omega, e2⟩, e2⟩
  obtain ⟨h6, h7⟩ := h5.setFirm hf hfar
  exact ⟨h6.mono fun k _ hk => hk.imp id fun e => ⟨e.1, by simpa using e.2⟩, h7⟩
set_option maxRecDepth 100000 in
set_option maxHeartbeats 6400000 in
theorem rcrash_false {w : World} {rb : Nat} {R : Nat → Prop} {d : Dk} (h : ROk w rb R d) (hok : DkOK d) (keep : Int) (hl : d.firm.length + d.acts.length ≤ 100000) :
    Calls Tryz.prog 24 #[.pointer (some ⟨rb, 0, none⟩), .int .i64 keep, .bool false] w fun e w' => e = .returned (.tuple #[]) ∧ RGo w rb R (crashD d keep false) w' := by
  obtain ⟨⟨v, hv⟩, hR⟩ := h
  have HV := Lib.hid hv
  have HR := Lib.hid hR
  have hcr : crashD d keep false = { d with firm := runD false d.firm (keptD keep 0 d.acts), now := runD false d.firm (keptD keep 0 d.acts), acts := [], armed := 0, dead := false } := rfl
  rw [← crash_ref] at hcr
  have Hcr := Lib.hid hcr
  obtain ⟨na, nc, fa, fc, k1, k2, k3, k4, k5, k6, k7⟩ := hv
  obtain ⟨va, vc, rfl, k8, k9⟩ := k4.read
  have c2 := k1.2.2 2 _ rfl
  have hal : d.acts.length ≤ 100000 := by omega
  have Hl := Lib.hid hl
  have Hok := Lib.hid hok
  clear hR hcr k1 k2 k3 k4 k5 k6 k7 k8 k9 hl hok
  generalize crashD d keep false = D at *
  go_enter Tryz.func24, Tryz.ntmps24
  go_wp2_with fail
  go_loopw [6, 7] (fun q i wr => ∃ k : Nat, k ≤ d.acts.length ∧ i = .int .i64 k ∧ q = .int .i64 (lastD keep k) ∧ wr = w) (fun _ i _ => d.acts.length - (RowKit.intOf i).toNat)
  case atStart => exact ⟨0, Nat.zero_le _, rfl, rfl, rfl⟩
  case round =>
    obtain ⟨k, hk, rfl, rfl, hwr⟩ := hrel
    rw [hwr]
    clear hwr
    by_cases hlt : k < d.acts.length
    · have hlti : (k : Int) < (d.acts.length : Int) := by omega
      have hbt := bit_test keep k
      have hls : lastD keep (k + 1) = if bitD keep k then (k : Int) else lastD keep k := rfl
      cases hbd : bitD keep k with
      | true =>
        rw [hbd] at hbt
        rw [hbd, if_pos rfl] at hls
        have Hls := Lib.hid hls
        clear hbd hls
        go_wp2_with fail
        go_roundw
        case rel => exact ⟨k + 1, by omega, by go_num, by rw [Hls.out], (by first | rfl | trivial)⟩
        case measure => simp [RowKit.intOf]; omega
      | false =>
        rw [hbd] at hbt
        rw [hbd, if_neg Bool.noConfusion] at hls
        have Hls := Lib.hid hls
        clear hbd hls
        go_wp2_with fail
        go_roundw
        case rel => exact ⟨k + 1, by omega, by go_num, by rw [Hls.out], (by first | rfl | trivial)⟩
        case measure => simp [RowKit.intOf]; omega
    · obtain rfl : k = d.acts.length := by omega
      obtain ⟨last, hlast⟩ : ∃ last, lastD keep d.acts.length = last := ⟨_, rfl⟩
      rw [hlast] at Hcr ⊢
      clear hlast hlt
      go_wp2_with fail
      clear c2
      go_loopw [8, 9] (fun i _ wx => ∃ (k : Nat) (es : Fls), k ≤ d.acts.length ∧ i = .int .i64 k ∧ Hid (RD wx rb (GrowS R w wx) (.slice va d.acts.length vc) { d with firm := es }) ∧ Hid (runR keep false last 0 d.firm (d.acts.take k) = es) ∧ Hid (FilesOK es) ∧ Hid (es.length ≤ d.firm.length + k) ∧ Hid (Turned (RSD rb (.slice va d.acts.length vc)) w.heap.size w wx)) (fun i _ _ => d.acts.length - (RowKit.intOf i).toNat)
      case atStart => exact ⟨0, d.firm, Nat.zero_le _, rfl, Lib.hid (HV.out.mono fun k _ h => .inl h), Lib.hid rfl, Lib.hid Hok.out.firm, Lib.hid (Nat.le_refl _), Lib.hid (Turned.refl _ _ _)⟩
      case round =>
        obtain ⟨k, es, hk, rfl, hD, HRun, HEok, Hes, HT⟩ := hrel
        have HD := hD
        obtain ⟨na2, nc2, fa2, fc2, k1, k2, k3, k4, k5, k6, k7, k8, k9⟩ := hD.out
        obtain ⟨va2, vc2, hve, k10, _⟩ := k4.read
        cases hve
        have c2 := k1.2.2 2 _ rfl
        by_cases hlt : k < d.acts.length
        · have hlti : (k : Int) < (d.acts.length : Int) := by omega
          have hbt := bit_test keep k
          obtain ⟨x, hx⟩ := at_some hlt
          have hsn : runR keep false last 0 d.firm (d.acts.take (k + 1)) = stepR keep false last k es x := by
            rw [List.take_add_one, hx, Option.toList_some, runR_snoc, HRun.out, List.length_take, Nat.min_eq_left hk, Nat.zero_add]
          have hst : stepR keep false last k es x = if bitD keep k then doD es x (false && decide ((k : Int) = last)) else es := rfl
          cases hbd : bitD keep k with
          | false =>
            rw [hbd, if_neg Bool.noConfusion] at hst
            rw [hbd] at hbt
            have Hsn := Lib.hid (hsn.trans hst)
            clear hbd hst hsn hx k1 k2 k3 k4 k5 k6 k7 k8 k9 k10
            go_wp2_with fail
            go_roundw
            case rel => exact ⟨k + 1, es, by omega, by go_num, HD, Hsn, HEok, Lib.hid (Nat.le_succ_of_le Hes.out), HT⟩
            case measure => simp [RowKit.intOf]; omega
          | true =>
            rw [hbd, if_pos rfl] at hst
            rw [hbd] at hbt
            have Hsn := Lib.hid (hsn.trans hst)
            have Hx := Lib.hid (Hok.out.acts x (List.mem_of_getElem? hx))
            obtain ⟨b, off, hae, hbl, c0, c1, c3, c4⟩ := act15_at k10 hx
            subst hae
            obtain ⟨tl, htl⟩ : ∃ tl, (false && decide ((k : Int) = last)) = tl := ⟨_, rfl⟩
            rw [htl] at Hsn
            clear hbd hst hsn hx k1 k2 k3 k4 k5 k6 k7 k8 k9 k10
            have hal3 := (Below.refl wr.heap.size wr).alloc (Nat.le_refl _) (.cells #[.string x.name, .int .i64 x.at_, .string x.data, .int .i64 x.size_] 117)
            have hV3 := VarAt.new wr #[.string x.name, .int .i64 x.at_, .string x.data, .int .i64 x.size_] 117
            have HD3 := Lib.hid (HD.out.below hal3)
            have HV3 := Lib.hid hV3
            have Hal3 := Lib.hid hal3
            have Htl := Lib.hid htl
            clear hal3 hV3 htl
            go_upto_region 11 with fail
            go_cut [53] from 40 to 53 (fun c wx => c = .bool tl ∧ wx = wr.alloc (.cells #[.string x.name, .int .i64 x.at_, .string x.data, .int .i64 x.size_] 117))
            case first =>
              have Ht := Lib.hid (show tl = false by rw [← Htl.out, Bool.false_and])
              go_wp2_with fail
              go_meet
              case rel => exact ⟨by rw [Ht.out], rfl⟩
            case rest =>
              obtain ⟨hcv, hwc⟩ := hcut
              subst hcv
              rw [hwc]
              clear hwc
              go_upto_if 53 with fail
              go_cut [] from 53 to 53 (fun wx => ∃ y : ActD, VarAt wx wr.heap.size (actCells y) ∧ Hid (ActOK y) ∧ Hid (doD es y false = doD es x tl) ∧ Hid (Below wr.heap.size wr wx) ∧ wr.heap.size < wx.heap.size)
              case first =>
                have hV3 := HV3.out
                have hz : wr.heap.size < (wr.alloc (.cells #[.string x.name, .int .i64 x.at_, .string x.data, .int .i64 x.size_] 117)).heap.size := by simp
                cases tl with
                | true =>
                  have g2 := hV3.2.2 2 _ rfl
                  have f2 := hV3.2.1 2
                  have HS2 := Lib.hid (VarAt.new wr #[.string x.name, .int .i64 x.at_, .string (halfB x.data), .int .i64 x.size_] 117)
                  have HB2 := Lib.hid ((Below.refl wr.heap.size wr).alloc (Nat.le_refl _) (.cells #[.string x.name, .int .i64 x.at_, .string (halfB x.data), .int .i64 x.size_] 117))
                  have Hdo := Lib.hid (doD_torn es x true)
                  have Hto := Lib.hid (tornA_ok Hx.out true)
                  have hh : halfB x.data = x.data.extract 0 (x.data.size / 2) := rfl
                  have hxs := Hx.out.2.1
                  have hq : IntKind.i64.wrap ((x.data.size : Int).tdiv 2) = ((x.data.size / 2 : Nat) : Int) := by
                    rw [Int.tdiv_eq_ediv_of_nonneg (Int.natCast_nonneg _)]
                    exact (IntWalk.i64_in _ (by omega)).trans (by omega)
                  rw [hh] at HS2 HB2
                  have hle : x.data.size / 2 ≤ x.data.size := by omega
                  clear hV3 hh
                  go_wp2_with fail
                  go_meet
                  case rel => exact ⟨tornA x true, HS2.out, Hto, Hdo, HB2, by simp⟩
                | false =>
                  clear hV3
                  go_wp2_with fail
                  go_meet
                  case rel => exact ⟨x, HV3.out, Hx, Lib.hid rfl, Hal3, hz⟩
              case rest =>
                obtain ⟨y, hy, Hy, Hdy, HB, hlt3⟩ := hcut
                have hD4 := HD.out.below HB.out
                obtain ⟨na4, nc4, fa4, fc4, k1, k2, k3, k4, k5, k6, _⟩ := hD4
                have e1 := k1.2.2 1 _ rfl
                have z1 := k1.2.1 1
                have g0 := hy.2.2 0 _ rfl
                have g1 := hy.2.2 1 _ rfl
                have g2 := hy.2.2 2 _ rfl
                have g3 := hy.2.2 3 _ rfl
                have HD4 := Lib.hid (HD.out.below HB.out)
                have HK3 := Lib.hid k3
                have HK6 := Lib.hid k6
                have HEs := Lib.hid (show es.length ≤ 1000000 by have := Hes.out; have := Hl.out; omega)
                have HDo := Lib.hid fun W (hW : Below wc.heap.size wc W) => r15done_any fa4 fc4 es y W HEok.out.rise HEs.out HEok.out.sizes (HK3.out.keeps hW) Hy.out.1 Hy.out.2.1
                have HZ := Lib.hid fun W (hW : Below wc.heap.size wc W) => (⟨(k1.keeps hW k1.1).2.1 1, (k1.keeps hW k1.1).2.2 1 _ rfl⟩ : W.frozen? ⟨rb, 1, none⟩ = false ∧ W.cell? ⟨rb, 1, none⟩ = some (.slice fa4 es.length fc4))
                clear k1 k2 k3 k4 k5 k6 hy c0 c1 c2 c3 c4 hbt
                go_upto_region 13 with fail
                go_region_law (first
                  | (rw [if_pos (by simp [Region.wanted])]; go_simp; go_at_call 72; refine (HDo.out _ (Below.refl _ _).drew).mono ?_; rintro e w5 ⟨a5, cap5, rfl, hfl5, hb5, hor5⟩; obtain ⟨z5, e5⟩ := HZ.out _ ((Below.refl _ _).drew.trans hb5)))
                all_goals
                  go_wp2_with fail
                  have hs1 := HT.out.size
                  have hs2 := HB.out.size
                  have hgr : ∀ k, GrowS R w wr k → GrowS R w wc k := fun k hk => hk.imp id fun e => ⟨e.1, Nat.lt_of_lt_of_le e.2 hs2⟩
                  have hbW : Below wc.heap.size wc w5 := (Below.refl _ _).drew.trans hb5
                  obtain ⟨q1, q2⟩ := RD.firmed (w := w) (by omega) (HD4.out.mono fun k _ hk => hgr k hk) (fun ad ea => ⟨(HK6.out ad ea).1, (HK6.out ad ea).2.1, hgr _ (HK6.out ad ea).2.2.1, (HK6.out ad ea).2.2.2⟩) hbW hfl5 hor5
                  refine ⟨⟨k + 1, doD es y false, by omega, by go_num, Lib.hid q1, Lib.hid ?_, Lib.hid (doD_ok _ HEok.out Hy.out), Lib.hid ?_, Lib.hid ?_⟩, ?_⟩
                  · rw [Hsn.out, Hdy.out]
                  · have := Hes.out
                    have := doD_len es y false
                    omega
                  · exact ((HT.out.trans (Turned.of_below HB.out (by omega))).trans (Turned.of_below hbW (by omega))).trans (q2.mono (by have := hbW.size; omega) fun _ _ h => .inl h)
                  · simp [RowKit.intOf]
                    omega
        · obtain rfl : k = d.acts.length := by omega
          have hc1 := k1.2.2 1 _ rfl
          have HC := Lib.hid (HD.out.crashed _ _ hc1)
          have y0 := k1.2.1 0
          have y2 := k1.2.1 2
          have y4 := k1.2.1 4
          have y5 := k1.2.1 5
          have x0 := k1.2.2 0 _ rfl
          have x2 := k1.2.2 2 _ rfl
          have x4 := k1.2.2 4 _ rfl
          have x5 := k1.2.2 5 _ rfl
          rw [List.take_length] at HRun
          have Hcr2 := Lib.hid (show D = { d with firm := es, now := es, acts := [], armed := 0, dead := false } by rw [Hcr.out, HRun.out])
          clear k1 k2 k3 k4 k5 k6 k7 k8 k9 k10 Hcr
          go_wp2_with fail
          go_end0
          rw [Hcr2.out]
          have hTT := HT.out.trans (HC.out.2.mono (S' := RSD rb (.slice va d.acts.length vc)) HT.out.size fun _ _ h => .inl h)
          exact ⟨rfl, ⟨⟨_, HC.out.1.mono fun k hk h => h.imp id fun e => ⟨e.1, hk⟩⟩, grow_lt HR.out hTT.size⟩, hTT.mono (Nat.le_refl _) fun _ _ h => HV.out.rsd _ h⟩
set_option maxRecDepth 100000 in
set_option maxHeartbeats 6400000 in
theorem rcrash_true {w : World} {rb : Nat} {R : Nat → Prop} {d : Dk} (h : ROk w rb R d) (hok : DkOK d) (keep : Int) (hl : d.firm.length + d.acts.length ≤ 100000) :
    Calls Tryz.prog 24 #[.pointer (some ⟨rb, 0, none⟩), .int .i64 keep, .bool true] w fun e w' => e = .returned (.tuple #[]) ∧ RGo w rb R (crashD d keep true) w' := by
  obtain ⟨⟨v, hv⟩, hR⟩ := h
  have HV := Lib.hid hv
  have HR := Lib.hid hR
  have hcr : crashD d keep true = { d with firm := runD true d.firm (keptD keep 0 d.acts), now := runD true d.firm (keptD keep 0 d.acts), acts := [], armed := 0, dead := false } := rfl
  rw [← crash_ref] at hcr
  have Hcr := Lib.hid hcr
  obtain ⟨na, nc, fa, fc, k1, k2, k3, k4, k5, k6, k7⟩ := hv
  obtain ⟨va, vc, rfl, k8, k9⟩ := k4.read
  have c2 := k1.2.2 2 _ rfl
  have hal : d.acts.length ≤ 100000 := by omega
  have Hl := Lib.hid hl
  have Hok := Lib.hid hok
  clear hR hcr k1 k2 k3 k4 k5 k6 k7 k8 k9 hl hok
  generalize crashD d keep true = D at *
  go_enter Tryz.func24, Tryz.ntmps24
  go_wp2_with fail
  go_loopw [6, 7] (fun q i wr => ∃ k : Nat, k ≤ d.acts.length ∧ i = .int .i64 k ∧ q = .int .i64 (lastD keep k) ∧ wr = w) (fun _ i _ => d.acts.length - (RowKit.intOf i).toNat)
  case atStart => exact ⟨0, Nat.zero_le _, rfl, rfl, rfl⟩
  case round =>
    obtain ⟨k, hk, rfl, rfl, hwr⟩ := hrel
    rw [hwr]
    clear hwr
    by_cases hlt : k < d.acts.length
    · have hlti : (k : Int) < (d.acts.length : Int) := by omega
      have hbt := bit_test keep k
      have hls : lastD keep (k + 1) = if bitD keep k then (k : Int) else lastD keep k := rfl
      cases hbd : bitD keep k with
      | true =>
        rw [hbd] at hbt
        rw [hbd, if_pos rfl] at hls
        have Hls := Lib.hid hls
        clear hbd hls
        go_wp2_with fail
        go_roundw
        case rel => exact ⟨k + 1, by omega, by go_num, by rw [Hls.out], (by first | rfl | trivial)⟩
        case measure => simp [RowKit.intOf]; omega
      | false =>
        rw [hbd] at hbt
        rw [hbd, if_neg Bool.noConfusion] at hls
        have Hls := Lib.hid hls
        clear hbd hls
        go_wp2_with fail
        go_roundw
        case rel => exact ⟨k + 1, by omega, by go_num, by rw [Hls.out], (by first | rfl | trivial)⟩
        case measure => simp [RowKit.intOf]; omega
    · obtain rfl : k = d.acts.length := by omega
      obtain ⟨last, hlast⟩ : ∃ last, lastD keep d.acts.length = last := ⟨_, rfl⟩
      rw [hlast] at Hcr ⊢
      clear hlast hlt
      go_wp2_with fail
      clear c2
      go_loopw [8, 9] (fun i _ wx => ∃ (k : Nat) (es : Fls), k ≤ d.acts.length ∧ i = .int .i64 k ∧ Hid (RD wx rb (GrowS R w wx) (.slice va d.acts.length vc) { d with firm := es }) ∧ Hid (runR keep true last 0 d.firm (d.acts.take k) = es) ∧ Hid (FilesOK es) ∧ Hid (es.length ≤ d.firm.length + k) ∧ Hid (Turned (RSD rb (.slice va d.acts.length vc)) w.heap.size w wx)) (fun i _ _ => d.acts.length - (RowKit.intOf i).toNat)
      case atStart => exact ⟨0, d.firm, Nat.zero_le _, rfl, Lib.hid (HV.out.mono fun k _ h => .inl h), Lib.hid rfl, Lib.hid Hok.out.firm, Lib.hid (Nat.le_refl _), Lib.hid (Turned.refl _ _ _)⟩
      case round =>
        obtain ⟨k, es, hk, rfl, hD, HRun, HEok, Hes, HT⟩ := hrel
        have HD := hD
        obtain ⟨na2, nc2, fa2, fc2, k1, k2, k3, k4, k5, k6, k7, k8, k9⟩ := hD.out
        obtain ⟨va2, vc2, hve, k10, _⟩ := k4.read
        cases hve
        have c2 := k1.2.2 2 _ rfl
        by_cases hlt : k < d.acts.length
        · have hlti : (k : Int) < (d.acts.length : Int) := by omega
          have hbt := bit_test keep k
          obtain ⟨x, hx⟩ := at_some hlt
          have hsn : runR keep true last 0 d.firm (d.acts.take (k + 1)) = stepR keep true last k es x := by
            rw [List.take_add_one, hx, Option.toList_some, runR_snoc, HRun.out, List.length_take, Nat.min_eq_left hk, Nat.zero_add]
          have hst : stepR keep true last k es x = if bitD keep k then doD es x (true && decide ((k : Int) = last)) else es := rfl
          cases hbd : bitD keep k with
          | false =>
            rw [hbd, if_neg Bool.noConfusion] at hst
            rw [hbd] at hbt
            have Hsn := Lib.hid (hsn.trans hst)
            clear hbd hst hsn hx k1 k2 k3 k4 k5 k6 k7 k8 k9 k10
            go_wp2_with fail
            go_roundw
            case rel => exact ⟨k + 1, es, by omega, by go_num, HD, Hsn, HEok, Lib.hid (Nat.le_succ_of_le Hes.out), HT⟩
            case measure => simp [RowKit.intOf]; omega
          | true =>
            rw [hbd, if_pos rfl] at hst
            rw [hbd] at hbt
            have Hsn := Lib.hid (hsn.trans hst)
            have Hx := Lib.hid (Hok.out.acts x (List.mem_of_getElem? hx))
            obtain ⟨b, off, hae, hbl, c0, c1, c3, c4⟩ := act15_at k10 hx
            subst hae
            obtain ⟨tl, htl⟩ : ∃ tl, (true && decide ((k : Int) = last)) = tl := ⟨_, rfl⟩
            rw [htl] at Hsn
            clear hbd hst hsn hx k1 k2 k3 k4 k5 k6 k7 k8 k9 k10
            have hal3 := (Below.refl wr.heap.size wr).alloc (Nat.le_refl _) (.cells #[.string x.name, .int .i64 x.at_, .string x.data, .int .i64 x.size_] 117)
            have hV3 := VarAt.new wr #[.string x.name, .int .i64 x.at_, .string x.data, .int .i64 x.size_] 117
            have HD3 := Lib.hid (HD.out.below hal3)
            have HV3 := Lib.hid hV3
            have Hal3 := Lib.hid hal3
            have Htl := Lib.hid htl
            clear hal3 hV3 htl
            go_upto_region 11 with fail
            go_cut [53] from 40 to 53 (fun c wx => c = .bool tl ∧ wx = wr.alloc (.cells #[.string x.name, .int .i64 x.at_, .string x.data, .int .i64 x.size_] 117))
            case first =>
              have Ht := Lib.hid (show tl = decide ((k : Int) = last) by rw [← Htl.out, Bool.true_and])
              by_cases hkl : (k : Int) = last
              · have Ht2 := Lib.hid (Ht.out.trans (decide_eq_true hkl))
                have hkb : ((k : Int) == last) = true := beq_iff_eq.2 hkl
                clear hkl
                go_wp2_with fail
                go_meet
                case rel => exact ⟨by rw [Ht2.out], rfl⟩
              · have Ht2 := Lib.hid (Ht.out.trans (decide_eq_false hkl))
                have hkb : ((k : Int) == last) = false := beq_eq_false_iff_ne.2 hkl
                clear hkl
                go_wp2_with fail
                go_meet
                case rel => exact ⟨by rw [Ht2.out], rfl⟩
            case rest =>
              obtain ⟨hcv, hwc⟩ := hcut
              subst hcv
              rw [hwc]
              clear hwc
              go_upto_if 53 with fail
              go_cut [] from 53 to 53 (fun wx => ∃ y : ActD, VarAt wx wr.heap.size (actCells y) ∧ Hid (ActOK y) ∧ Hid (doD es y false = doD es x tl) ∧ Hid (Below wr.heap.size wr wx) ∧ wr.heap.size < wx.heap.size)
              case first =>
                have hV3 := HV3.out
                have hz : wr.heap.size < (wr.alloc (.cells #[.string x.name, .int .i64 x.at_, .string x.data, .int .i64 x.size_] 117)).heap.size := by simp
                cases tl with
                | true =>
                  have g2 := hV3.2.2 2 _ rfl
                  have f2 := hV3.2.1 2
                  have HS2 := Lib.hid (VarAt.new wr #[.string x.name, .int .i64 x.at_, .string (halfB x.data), .int .i64 x.size_] 117)
                  have HB2 := Lib.hid ((Below.refl wr.heap.size wr).alloc (Nat.le_refl _) (.cells #[.string x.name, .int .i64 x.at_, .string (halfB x.data), .int .i64 x.size_] 117))
                  have Hdo := Lib.hid (doD_torn es x true)
                  have Hto := Lib.hid (tornA_ok Hx.out true)
                  have hh : halfB x.data = x.data.extract 0 (x.data.size / 2) := rfl
                  have hxs := Hx.out.2.1
                  have hq : IntKind.i64.wrap ((x.data.size : Int).tdiv 2) = ((x.data.size / 2 : Nat) : Int) := by
                    rw [Int.tdiv_eq_ediv_of_nonneg (Int.natCast_nonneg _)]
                    exact (IntWalk.i64_in _ (by omega)).trans (by omega)
                  rw [hh] at HS2 HB2
                  have hle : x.data.size / 2 ≤ x.data.size := by omega
                  clear hV3 hh
                  go_wp2_with fail
                  go_meet
                  case rel => exact ⟨tornA x true, HS2.out, Hto, Hdo, HB2, by simp⟩
                | false =>
                  clear hV3
                  go_wp2_with fail
                  go_meet
                  case rel => exact ⟨x, HV3.out, Hx, Lib.hid rfl, Hal3, hz⟩
              case rest =>
                obtain ⟨y, hy, Hy, Hdy, HB, hlt3⟩ := hcut
                have hD4 := HD.out.below HB.out
                obtain ⟨na4, nc4, fa4, fc4, k1, k2, k3, k4, k5, k6, _⟩ := hD4
                have e1 := k1.2.2 1 _ rfl
                have z1 := k1.2.1 1
                have g0 := hy.2.2 0 _ rfl
                have g1 := hy.2.2 1 _ rfl
                have g2 := hy.2.2 2 _ rfl
                have g3 := hy.2.2 3 _ rfl
                have HD4 := Lib.hid (HD.out.below HB.out)
                have HK3 := Lib.hid k3
                have HK6 := Lib.hid k6
                have HEs := Lib.hid (show es.length ≤ 1000000 by have := Hes.out; have := Hl.out; omega)
                have HDo := Lib.hid fun W (hW : Below wc.heap.size wc W) => r15done_any fa4 fc4 es y W HEok.out.rise HEs.out HEok.out.sizes (HK3.out.keeps hW) Hy.out.1 Hy.out.2.1
                have HZ := Lib.hid fun W (hW : Below wc.heap.size wc W) => (⟨(k1.keeps hW k1.1).2.1 1, (k1.keeps hW k1.1).2.2 1 _ rfl⟩ : W.frozen? ⟨rb, 1, none⟩ = false ∧ W.cell? ⟨rb, 1, none⟩ = some (.slice fa4 es.length fc4))
                clear k1 k2 k3 k4 k5 k6 hy c0 c1 c2 c3 c4 hbt
                go_upto_region 13 with fail
                go_region_law (first
                  | (rw [if_pos (by simp [Region.wanted])]; go_simp; go_at_call 72; refine (HDo.out _ (Below.refl _ _).drew).mono ?_; rintro e w5 ⟨a5, cap5, rfl, hfl5, hb5, hor5⟩; obtain ⟨z5, e5⟩ := HZ.out _ ((Below.refl _ _).drew.trans hb5)))
                all_goals
                  go_wp2_with fail
                  have hs1 := HT.out.size
                  have hs2 := HB.out.size
                  have hgr : ∀ k, GrowS R w wr k → GrowS R w wc k := fun k hk => hk.imp id fun e => ⟨e.1, Nat.lt_of_lt_of_le e.2 hs2⟩
                  have hbW : Below wc.heap.size wc w5 := (Below.refl _ _).drew.trans hb5
                  obtain ⟨q1, q2⟩ := RD.firmed (w := w) (by omega) (HD4.out.mono fun k _ hk => hgr k hk) (fun ad ea => ⟨(HK6.out ad ea).1, (HK6.out ad ea).2.1, hgr _ (HK6.out ad ea).2.2.1, (HK6.out ad ea).2.2.2⟩) hbW hfl5 hor5
                  refine ⟨⟨k + 1, doD es y false, by omega, by go_num, Lib.hid q1, Lib.hid ?_, Lib.hid (doD_ok _ HEok.out Hy.out), Lib.hid ?_, Lib.hid ?_⟩, ?_⟩
                  · rw [Hsn.out, Hdy.out]
                  · have := Hes.out
                    have := doD_len es y false
                    omega
                  · exact ((HT.out.trans (Turned.of_below HB.out (by omega))).trans (Turned.of_below hbW (by omega))).trans (q2.mono (by have := hbW.size; omega) fun _ _ h => .inl h)
                  · simp [RowKit.intOf]
                    omega
        · obtain rfl : k = d.acts.length := by omega
          have hc1 := k1.2.2 1 _ rfl
          have HC := Lib.hid (HD.out.crashed _ _ hc1)
          have y0 := k1.2.1 0
          have y2 := k1.2.1 2
          have y4 := k1.2.1 4
          have y5 := k1.2.1 5
          have x0 := k1.2.2 0 _ rfl
          have x2 := k1.2.2 2 _ rfl
          have x4 := k1.2.2 4 _ rfl
          have x5 := k1.2.2 5 _ rfl
          rw [List.take_length] at HRun
          have Hcr2 := Lib.hid (show D = { d with firm := es, now := es, acts := [], armed := 0, dead := false } by rw [Hcr.out, HRun.out])
          clear k1 k2 k3 k4 k5 k6 k7 k8 k9 k10 Hcr
          go_wp2_with fail
          go_end0
          rw [Hcr2.out]
          have hTT := HT.out.trans (HC.out.2.mono (S' := RSD rb (.slice va d.acts.length vc)) HT.out.size fun _ _ h => .inl h)
          exact ⟨rfl, ⟨⟨_, HC.out.1.mono fun k hk h => h.imp id fun e => ⟨e.1, hk⟩⟩, grow_lt HR.out hTT.size⟩, hTT.mono (Nat.le_refl _) fun _ _ h => HV.out.rsd _ h⟩
theorem rcrash_any {w : World} {rb : Nat} {R : Nat → Prop} {d : Dk} (h : ROk w rb R d) (hok : DkOK d) (keep : Int) (torn : Bool) (hl : d.firm.length + d.acts.length ≤ 100000) :
    Calls Tryz.prog 24 #[.pointer (some ⟨rb, 0, none⟩), .int .i64 keep, .bool torn] w fun e w' => e = .returned (.tuple #[]) ∧ RGo w rb R (crashD d keep torn) w' := by
  cases torn with
  | true => exact rcrash_true h hok keep hl
  | false => exact rcrash_false h hok keep hl
end Go.Proofs.YtgglheelhbfgiaaGreatDoor

