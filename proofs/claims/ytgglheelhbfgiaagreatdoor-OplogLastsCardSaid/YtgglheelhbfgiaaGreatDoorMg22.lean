/-
  seglog: Append, Len. seglog: nothing is done by nil; two lists held against each other. oplog: right, put. oplog: a state with one operation more. oplog: a state in the world; replay.
-/
import Derived.Test.YtgglheelhbfgiaaGreatDoorMg21
import Derived.Test.YtgglheelhbfgiaaGreatDoorMg14
import Derived.Test.YtgglheelhbfgiaaGreatDoorMg1
import Derived.Test.YtgglheelhbfgiaaGreatDoorMg11
import Derived.Test.YtgglheelhbfgiaaGreatDoorMg15
import Derived.Lib.QuietBelow
namespace Go.Proofs.YtgglheelhbfgiaaGreatDoor
open Go Go.RowKit Go.Lib
set_option maxRecDepth 100000 in
theorem wrongR_any (s : ByteArray) (w : World) : Calls Tryz.prog 55 #[.string s] w fun e w' => e = .returned (.bool (!rightR s)) ∧ w' = w := by
  have HR := Lib.hid (right_any s w)
  generalize rightR s = r at *
  go_enter Tryz.func55, Tryz.ntmps55
  go_wp2_with fail
  refine HR.out.mono ?_
  rintro e w' ⟨rfl, rfl⟩
  go_wp2_with fail
  go_ret
  exact ⟨rfl, rfl⟩
theorem rows_cells {w : World} {b off : Nat} {xs : List ByteArray} (h : RowsAt strLay w (some ⟨b, off, none⟩) xs) : ∀ j, j < xs.length → w.cell? ⟨b, off + j, none⟩ = some (Value.string xs[j]!) := by
  intro j hj
  obtain ⟨b', off', e, _, hc⟩ := h j xs[j] (List.getElem?_eq_getElem hj)
  cases e
  have := hc 0 _ rfl
  rw [show off + j * strLay.sz + 0 = off + j by show off + j * 1 + 0 = _; omega] at this
  rw [this, getElem!_pos xs j hj]
theorem contains_any (a : Option Addr) (cap : Nat) (rs : List ByteArray) (w : World) (hR : RowsAt strLay w a rs) (hl : rs.length ≤ 1000000000) :
    Calls Tryz.prog 54 #[.slice a rs.length cap, .func (.func 55) #[] #[]] w fun e w' => e = .returned (.bool (rs.any fun s => !rightR s)) ∧ ∃ q, w' = w.drewN q := by
  cases rs with
  | nil => exact (Tryz.slices_ContainsFunc_empty (α := ByteArray) a cap _ w).mono fun _ _ h => ⟨h.1, 0, by rw [h.2, World.drewN_zero]⟩
  | cons s r =>
    obtain ⟨b, off, e, _, _⟩ := hR 0 s rfl
    subst e
    have := Tryz.slices_ContainsFunc (α := ByteArray) Value.string (fun s => !rightR s) 55 #[] (enters_of Tryz.func55 (by kernel_rfl) rfl) b off (s :: r).length cap (s :: r) w (fun W x _ => (wrongR_any x W).mono fun _ _ h => ⟨h.1, 0, by rw [h.2, World.drewN_zero]⟩) (Nat.le_refl _) (by omega) (rows_cells hR)
    rw [List.take_length] at this
    exact this
set_option maxRecDepth 100000 in
theorem slen_any (lb db : Nat) (l : Lg) (w : World) (hL : LAt w lb db l) : Calls Tryz.prog 11 #[.pointer (some ⟨lb, 0, none⟩)] w fun e w' => e = .returned (.int .i64 l.many) ∧ w' = w := by
  have c1 : w.cell? ⟨lb, 1, none⟩ = some (.int .i64 l.many) := hL.2.2 1 _ rfl
  clear hL
  go_enter Tryz.func11, Tryz.ntmps11
  go_wp2_with fail
  go_ret
  exact ⟨rfl, rfl⟩
theorem append_dead {l : Lg} {rs : List ByteArray} {d : Dk} (h : l.dead = true) : appendD l rs d = (l, d, 42) := if_pos h
theorem append_wrong {l : Lg} {rs : List ByteArray} {d : Dk} (h : l.dead = false) (h2 : (rs.any fun s => !rightR s) = true) : appendD l rs d = (l, d, 1) := by
  unfold appendD
  rw [if_neg (by rw [h]; exact Bool.noConfusion), if_pos (by rw [List.any_eq_not_all_not] at h2; simpa using h2)]
theorem all_of {rs : List ByteArray} (h2 : (rs.any fun s => !rightR s) = false) : rs.all rightR = true := by
  rw [List.any_eq_not_all_not] at h2
  simpa using h2
theorem append_big {l : Lg} {rs : List ByteArray} {d : Dk} (h : l.dead = false) (h2 : (rs.any fun s => !rightR s) = false) (h3 : 800 < l.many + rs.length) : appendD l rs d = (l, d, 40) := by
  unfold appendD
  rw [if_neg (by rw [h]; exact Bool.noConfusion), if_neg (by rw [all_of h2]; exact Bool.noConfusion), if_pos h3]
theorem append_none {l : Lg} {rs : List ByteArray} {d : Dk} (h : l.dead = false) (h2 : (rs.any fun s => !rightR s) = false) (h3 : ¬ 800 < l.many + rs.length) (h4 : rs.length = 0) : appendD l rs d = (l, d, 0) := by
  unfold appendD
  rw [if_neg (by rw [h]; exact Bool.noConfusion), if_neg (by rw [all_of h2]; exact Bool.noConfusion), if_neg h3, if_pos h4]
theorem append_fell {l : Lg} {rs : List ByteArray} {d : Dk} (h : l.dead = false) (h2 : (rs.any fun s => !rightR s) = false) (h3 : ¬ 800 < l.many + rs.length) (h4 : ¬ rs.length = 0) (h5 : (layD l rs d).2.2 ≠ 0) : appendD l rs d = ({ l with dead := true }, (layD l rs d).1, (layD l rs d).2.2) := by
  unfold appendD
  rw [if_neg (by rw [h]; exact Bool.noConfusion), if_neg (by rw [all_of h2]; exact Bool.noConfusion), if_neg h3, if_neg h4, if_pos h5]
theorem append_fine {l : Lg} {rs : List ByteArray} {d : Dk} (h : l.dead = false) (h2 : (rs.any fun s => !rightR s) = false) (h3 : ¬ 800 < l.many + rs.length) (h4 : ¬ rs.length = 0) (h5 : (layD l rs d).2.2 = 0) : appendD l rs d = ({ l with many := l.many + rs.length, fin := (layD l rs d).2.1 }, (layD l rs d).1, 0) := by
  unfold appendD
  rw [if_neg (by rw [h]; exact Bool.noConfusion), if_neg (by rw [all_of h2]; exact Bool.noConfusion), if_neg h3, if_neg h4, if_neg (fun e => e h5)]
/-- What an appending answers. -/
def AppIs (w : World) (db lb : Nat) (S : Nat → Prop) (r : Lg × Dk × Int) (e : Ending) (w' : World) : Prop :=
  e = .returned (.int .i64 r.2.2) ∧ LAt w' lb db r.1 ∧ ∃ T, DOk w' db T r.2.1 ∧ (∀ k, T k → S k ∨ w.heap.size ≤ k) ∧ ¬ T lb ∧ Turned (fun k => S k ∨ k = lb) w.heap.size w w'
theorem AppIs.below {w w' : World} {db lb : Nat} {S : Nat → Prop} {d : Dk} {l : Lg} {n : Int} {R : Lg × Dk × Int} (hr : R = (l, d, n)) (h : DOk w db S d) (hL : LAt w lb db l) (hlb : ¬ S lb) (hb : Below w.heap.size w w') : AppIs w db lb S R (.returned (.int .i64 n)) w' := by
  subst hr
  exact ⟨rfl, hL.keeps hb hL.1, S, h.below hb, fun _ hk => .inl hk, hlb, Turned.of_below hb (Nat.le_refl _)⟩
theorem notT {w : World} {lb : Nat} {S T : Nat → Prop} (h1 : ∀ k, T k → S k ∨ w.heap.size ≤ k) (hlb : ¬ S lb) (hlt : lb < w.heap.size) : ¬ T lb := fun h => by
  rcases h1 lb h with h | h
  · exact hlb h
  · omega
set_option maxRecDepth 100000 in
set_option maxHeartbeats 3200000 in
theorem sappend_any {w : World} {db lb : Nat} {S : Nat → Prop} {d : Dk} {l : Lg} (h : DOk w db S d) (hL : LAt w lb db l) (hlb : ¬ S lb) (a : Option Addr) (cap : Nat) (rs : List ByteArray) (hR : RowsAt strLay w a rs) (hRa : ∀ ad, a = some ad → 0 < rs.length → ad.block < w.heap.size ∧ ¬ S ad.block)
    (hm : l.many ≤ 1000000) (hrl : rs.length ≤ 1000000) (hl : d.now.length ≤ 99000) (hal : d.acts.length ≤ 900000000) :
    Calls Tryz.prog 10 #[.pointer (some ⟨lb, 0, none⟩), .slice a rs.length cap] w fun e w' => AppIs w db lb S (appendD l rs d) e w' := by
  have c1 : w.cell? ⟨lb, 1, none⟩ = some (.int .i64 l.many) := hL.2.2 1 _ rfl
  have c3 : w.cell? ⟨lb, 3, none⟩ = some (.bool l.dead) := hL.2.2 3 _ rfl
  have HC := Lib.hid (contains_any a cap rs w hR (by omega))
  have HLy := Lib.hid fun q h8 hrs => slay_any (w := w.drewN q) (h.below (belowDrew (Below.refl _ _) q)) (hL.keeps (belowDrew (Below.refl _ _) q) hL.1) hlb a cap rs (hR.keeps (belowDrew (Below.refl _ _) q)) hRa h8 hrs hl hal
  have HD := Lib.hid h
  have HL := Lib.hid hL
  have Hlb := Lib.hid hlb
  have H1 := Lib.hid (append_dead (l := l) (rs := rs) (d := d))
  have H2 := Lib.hid (append_wrong (l := l) (rs := rs) (d := d))
  have H3 := Lib.hid (append_big (l := l) (rs := rs) (d := d))
  have H4 := Lib.hid (append_none (l := l) (rs := rs) (d := d))
  have H5 := Lib.hid (append_fell (l := l) (rs := rs) (d := d))
  have H6 := Lib.hid (append_fine (l := l) (rs := rs) (d := d))
  have Hall := Lib.hid (all_of (rs := rs))
  obtain ⟨R, hR0⟩ : ∃ R, appendD l rs d = R := ⟨_, rfl⟩
  rw [hR0] at H1 H2 H3 H4 H5 H6 ⊢
  obtain ⟨LD, hLD⟩ : ∃ LD, layD l rs d = LD := ⟨_, rfl⟩
  rw [hLD] at H5 H6 HLy
  clear hR0 hLD h hL hlb hR hRa hl hal
  obtain ⟨dead, hdd⟩ : ∃ b, l.dead = b := ⟨_, rfl⟩
  rw [hdd] at c3
  obtain ⟨anyw, haw⟩ : ∃ b, (rs.any fun s => !rightR s) = b := ⟨_, rfl⟩
  rw [haw] at HC
  have Hdd := Lib.hid hdd
  have Haw := Lib.hid haw
  clear hdd haw
  cases dead with
  | true =>
    go_enter Tryz.func10, Tryz.ntmps10
    go_wp2_with fail
    go_ret
    exact AppIs.below (H1.out Hdd.out) HD.out HL.out Hlb.out (Below.refl _ _)
  | false =>
    cases anyw with
    | true =>
      go_enter Tryz.func10, Tryz.ntmps10
      go_wp2_with fail
      refine HC.out.mono ?_
      rintro e w1 ⟨rfl, q, rfl⟩
      go_wp2_with fail
      go_ret
      exact AppIs.below (H2.out Hdd.out Haw.out) HD.out HL.out Hlb.out (belowDrew (Below.refl _ _) q)
    | false =>
      by_cases h8 : 800 < l.many + rs.length
      · have h8i : (800 : Int) < (l.many : Int) + (rs.length : Int) := by omega
        have Hr := Lib.hid (H3.out Hdd.out Haw.out h8)
        clear h8
        go_enter Tryz.func10, Tryz.ntmps10
        go_wp2_with fail
        refine HC.out.mono ?_
        rintro e w1 ⟨rfl, q, rfl⟩
        go_wp2_with fail
        go_ret
        exact AppIs.below Hr.out HD.out HL.out Hlb.out (belowDrew (Below.refl _ _) q)
      · have h8i : (l.many : Int) + (rs.length : Int) ≤ 800 := by omega
        have H8 := Lib.hid h8
        by_cases h0 : rs.length = 0
        · have Hr := Lib.hid (H4.out Hdd.out Haw.out h8 h0)
          have hi0 : ((rs.length : Int) == 0) = true := beq_iff_eq.2 (by omega)
          clear h8 h0
          go_enter Tryz.func10, Tryz.ntmps10
          go_wp2_with fail
          refine HC.out.mono ?_
          rintro e w1 ⟨rfl, q, rfl⟩
          go_wp2_with fail
          go_ret
          exact AppIs.below Hr.out HD.out HL.out Hlb.out (belowDrew (Below.refl _ _) q)
        · have H0 := Lib.hid h0
          have hi0 : ((rs.length : Int) == 0) = false := beq_eq_false_iff_ne.2 (by omega)
          have hi1 : 0 < rs.length := by omega
          clear h8 h0
          have HLy2 := Lib.hid fun q => HLy.out q (by omega) (fun s hs => by
            have := List.all_eq_true.1 (Hall.out Haw.out) s hs
            unfold rightR at this
            simp only [Bool.and_eq_true, decide_eq_true_eq] at this
            exact this.2)
          clear HLy
          go_enter Tryz.func10, Tryz.ntmps10
          go_wp2_with fail
          refine HC.out.mono ?_
          rintro e w1 ⟨rfl, q, rfl⟩
          go_wp2_with fail
          refine (HLy2.out q).mono ?_
          rintro e w4 ⟨rfl, T, hD4, hT1, hT2⟩
          have hnT := notT (lb := lb) hT1 Hlb.out HL.out.1
          have hL4 : LAt w4 lb db l := (HL.out.keeps (belowDrew (Below.refl _ _) q) HL.out.1).same (hT2.block lb HL.out.1 Hlb.out) hT2.size
          have hT2w : Turned (fun k => S k ∨ k = lb) w.heap.size w w4 := (Turned.of_below (belowDrew (Below.refl w.heap.size w) q) (Nat.le_refl _)).trans (hT2.mono (Nat.le_refl _) fun _ _ h => .inl h)
          have f1 := hL4.2.1 1
          have f2 := hL4.2.1 2
          have f3 := hL4.2.1 3
          have k1 : w4.cell? ⟨lb, 1, none⟩ = some (.int .i64 l.many) := hL4.2.2 1 _ rfl
          have k2 : w4.cell? ⟨lb, 2, none⟩ = some (.int .i64 l.fin) := hL4.2.2 2 _ rfl
          have k3 : w4.cell? ⟨lb, 3, none⟩ = some (.bool l.dead) := hL4.2.2 3 _ rfl
          have HD4 := Lib.hid hD4
          have HL4 := Lib.hid hL4
          have HT1 := Lib.hid hT1
          have HT2w := Lib.hid hT2w
          clear hD4 hL4 hT1 hT2 hT2w
          by_cases he : LD.2.2 = 0
          · have Hr := Lib.hid (H6.out Hdd.out Haw.out H8.out H0.out he)
            rw [he]
            clear he
            go_wp2_with fail
            go_ret
            rw [Hr.out]
            refine ⟨rfl, ?_, T, HD4.out.foreign (T := fun k => k = lb) (((Turned.refl (fun k => k = lb) w4.heap.size w4).set (b := lb) 1 _ fun _ => rfl).set (b := lb) 2 _ fun _ => rfl) (fun k hk => by rw [show k = lb from hk]; exact hnT), HT1.out, hnT, (HT2w.out.set 1 _ fun _ => .inr rfl).set 2 _ fun _ => .inr rfl⟩
            have := (HL4.out.set 1 (.int .i64 ((l.many : Int) + (rs.length : Int))) (by simp)).set 2 (.int .i64 LD.2.1) (by simp)
            simpa [LAt] using this
          · have Hr := Lib.hid (H5.out Hdd.out Haw.out H8.out H0.out he)
            have hq := neq_int he
            clear he
            go_wp2_with fail
            go_ret
            rw [Hr.out]
            refine ⟨rfl, ?_, T, HD4.out.foreign (T := fun k => k = lb) ((Turned.refl (fun k => k = lb) w4.heap.size w4).set (b := lb) 3 _ fun _ => rfl) (fun k hk => by rw [show k = lb from hk]; exact hnT), HT1.out, hnT, HT2w.out.set 3 _ fun _ => .inr rfl⟩
            have := HL4.out.set 3 (.bool true) (by simp)
            simpa [LAt] using this
end Go.Proofs.YtgglheelhbfgiaaGreatDoor

namespace Go.Proofs.YtgglheelhbfgiaaGreatDoor
open Go Go.RowKit Go.Lib
theorem ssame_at {xs ys : List ByteArray} {k : Nat} {x y : ByteArray} (hx : xs[k]? = some x) (hy : ys[k]? = some y) (h : x ≠ y) : decide (xs = ys) = false :=
  decide_eq_false fun e => h (by rw [e, hy] at hx; cases hx; rfl)
theorem ssame_ok {xs ys : List ByteArray} (hl : xs.length = ys.length) (h : ∀ j, j < xs.length → xs[j]? = ys[j]?) : decide (xs = ys) = true :=
  decide_eq_true (List.ext_getElem? fun j => by
    by_cases hj : j < xs.length
    · exact h j hj
    · rw [List.getElem?_eq_none (by omega), List.getElem?_eq_none (by omega)])
theorem ssame_len {xs ys : List ByteArray} (hl : ¬ xs.length = ys.length) : decide (xs = ys) = false := decide_eq_false fun e => hl (by rw [e])
set_option maxRecDepth 100000 in
set_option maxHeartbeats 1600000 in
theorem stexts_any (a b : Option Addr) (cap cap' : Nat) (xs ys : List ByteArray) (w : World) (hl : xs.length ≤ 140737488351232) (ha : RowsAt strLay w a xs) (hb : RowsAt strLay w b ys) :
    Calls Tryz.prog 25 #[.slice a xs.length cap, .slice b ys.length cap'] w fun e w' => e = .returned (.bool (decide (xs = ys))) ∧ ∃ n, w' = w.drewN n := by
  have HA := Lib.hid ha
  have HB := Lib.hid hb
  clear ha hb
  by_cases hlen : xs.length = ys.length
  · have hq : ((xs.length : Int) != (ys.length : Int)) = false := by rw [hlen]; simp
    have Hlen := Lib.hid hlen
    clear hlen
    go_enter Tryz.func25, Tryz.ntmps25
    go_wp2
    clear hq
    go_loopw [5] (fun i wr => ∃ k : Nat, k ≤ xs.length ∧ i = .int .i64 k ∧ Hid (∀ j, j < k → xs[j]? = ys[j]?) ∧ ∃ n, wr = w.drewN n) (fun i _ => xs.length - (RowKit.intOf i).toNat)
    case atStart => exact ⟨0, Nat.zero_le _, rfl, fun j hj => absurd hj (Nat.not_lt_zero _), Drawn.refl _⟩
    case round =>
      obtain ⟨k, hk, rfl, Hk, n, rfl⟩ := hrel
      by_cases hlt : k < xs.length
      · have hlt2 : k < ys.length := by have := Hlen.out; omega
        obtain ⟨x, hx⟩ := at_some hlt
        obtain ⟨y, hy⟩ := at_some hlt2
        obtain ⟨b1, o1, rfl, hb1, c0⟩ := str_at HA.out hx
        obtain ⟨b2, o2, rfl, hb2, d0⟩ := str_at HB.out hy
        have Hx := Lib.hid hx
        have Hy := Lib.hid hy
        clear hx hy
        by_cases h1 : x = y
        · have e2 := str_eq h1
          have Hn := Lib.hid h1
          clear h1
          go_wp2
          go_quiet (fail)
          go_wp2
          go_roundw
          case rel =>
            refine ⟨k + 1, by omega, by go_num, fun j hj => ?_, n + nq, by simp⟩
            by_cases e : j = k
            · subst e; rw [Hx.out, Hy.out, Hn.out]
            · exact Hk.out j (by omega)
          case measure => simp [RowKit.intOf]; omega
        · have e2 := str_ne h1
          have Hr := Lib.hid (ssame_at Hx.out Hy.out h1)
          clear h1
          go_wp2
          go_quiet (fail)
          go_wp2
          go_ret
          exact ⟨ret_bool Hr.out.symm, n + nq, by simp⟩
      · have Hr := Lib.hid (ssame_ok Hlen.out (fun j hj => Hk.out j (by omega)))
        go_wp2
        go_ret
        exact ⟨ret_bool Hr.out.symm, _, rfl⟩
  · have Hr := Lib.hid (ssame_len hlen)
    have hq : ((xs.length : Int) != (ys.length : Int)) = true := by rw [bne_iff_ne]; omega
    clear hlen
    go_enter Tryz.func25, Tryz.ntmps25
    go_wp2
    go_ret
    exact ⟨ret_bool Hr.out.symm, Drawn.refl _⟩


set_option maxRecDepth 100000 in
theorem sopen_nil (w : World) : Calls Tryz.prog 9 #[.pointer none] w fun e w' => e = .returned (.tuple #[.pointer none, .slice none 0 0, .int .i64 2]) ∧ w' = w := by
  go_enter Tryz.func9, Tryz.ntmps9
  go_wp2_with fail
  go_ret3
  exact ⟨rfl, rfl⟩
set_option maxRecDepth 100000 in
theorem sappend_nil (v : Value) (w : World) : Calls Tryz.prog 10 #[.pointer none, v] w fun e w' => e = .returned (.int .i64 2) ∧ w' = w := by
  go_enter Tryz.func10, Tryz.ntmps10
  go_wp2_with fail
  go_ret
  exact ⟨rfl, rfl⟩
set_option maxRecDepth 100000 in
theorem slen_nil (w : World) : Calls Tryz.prog 11 #[.pointer none] w fun e w' => e = .returned (.int .i64 0) ∧ w' = w := by
  go_enter Tryz.func11, Tryz.ntmps11
  go_wp2_with fail
  go_ret
  exact ⟨rfl, rfl⟩
end Go.Proofs.YtgglheelhbfgiaaGreatDoor

namespace Go.Proofs.YtgglheelhbfgiaaGreatDoor
open Go Go.RowKit Go.Lib
set_option maxRecDepth 100000 in
theorem pright_any (s : ByteArray) (w : World) : Calls Tryz.prog 109 #[.string s] w fun e w' => e = .returned (.bool (rightP s)) ∧ w' = w := by
  have he := empty_iff s
  have Hr := Lib.hid (show rightP s = (decide (1 ≤ s.size) && decide (s.size ≤ 256)) from rfl)
  generalize rightP s = r at *
  by_cases h0 : s.size = 0
  · rw [decide_eq_true h0] at he
    have Hr2 := Lib.hid (show r = false by rw [Hr.out, decide_eq_false (by omega)]; rfl)
    clear h0
    go_enter Tryz.func109, Tryz.ntmps109
    go_wp2_with fail
    go_ret
    exact ⟨by rw [Hr2.out]; rfl, rfl⟩
  · rw [decide_eq_false h0] at he
    by_cases h1 : s.size ≤ 256
    · have Hr2 := Lib.hid (show r = true by rw [Hr.out, decide_eq_true h1, decide_eq_true (by omega)]; rfl)
      have d1 : decide ((s.size : Int) ≤ 256) = true := decide_eq_true (by omega)
      have d2 : decide (s.size ≤ 256) = true := decide_eq_true h1
      clear h0 h1
      go_enter Tryz.func109, Tryz.ntmps109
      go_wp2_with fail
      go_ret
      exact ⟨by rw [Hr2.out]; rfl, rfl⟩
    · have Hr2 := Lib.hid (show r = false by rw [Hr.out, decide_eq_false h1, Bool.and_false])
      have d1 : decide ((s.size : Int) ≤ 256) = false := decide_eq_false (by omega)
      have d2 : decide (s.size ≤ 256) = false := decide_eq_false h1
      clear h0 h1
      go_enter Tryz.func109, Tryz.ntmps109
      go_wp2_with fail
      go_ret
      exact ⟨by rw [Hr2.out]; rfl, rfl⟩
theorem rows_cellsD {w : World} {b off : Nat} {xs : List ByteArray} (h : RowsAt strLay w (some ⟨b, off, none⟩) xs) : ∀ j, j < xs.length → w.cell? ⟨b, off + j, none⟩ = some (Value.string (xs.getD j ByteArray.empty)) := by
  intro j hj
  rw [rows_cells h j hj, getElem!_pos xs j hj, List.getD_eq_getElem?_getD, List.getElem?_eq_getElem hj]
  rfl
theorem contains_eq (xs : List ByteArray) (x : ByteArray) : Lib.containsS xs x = decide (x ∈ xs) := by
  by_cases h : x ∈ xs
  · rw [decide_eq_true h]
    exact (Lib.containsS_iff xs x).2 h
  · rw [decide_eq_false h]
    exact Bool.eq_false_iff.2 fun e => h ((Lib.containsS_iff xs x).1 e)
theorem scontains_any (a : Option Addr) (cap : Nat) (xs : List ByteArray) (x : ByteArray) (w : World) (h : RowsAt strLay w a xs) (hl : xs.length ≤ 1000000000) : Calls Tryz.prog 137 #[.slice a xs.length cap, .string x] w fun e w' => e = .returned (.bool (decide (x ∈ xs))) ∧ w' = w := by
  cases xs with
  | nil => exact (Tryz.slices_Contains_string_empty a cap x w).mono fun _ _ h => ⟨by rw [h.1]; rfl, h.2⟩
  | cons y r =>
    obtain ⟨b, off, e, _, _⟩ := h 0 y rfl
    subst e
    have := Tryz.slices_Contains_string b off (y :: r).length cap (y :: r) x w (Nat.le_refl _) (by omega) (rows_cellsD h)
    rw [List.take_length] at this
    exact this.mono fun _ _ h => ⟨by rw [h.1, contains_eq], h.2⟩
theorem sclone_any (a : Option Addr) (cap : Nat) (xs : List ByteArray) (w : World) (h : RowsAt strLay w a xs) (hl : xs.length ≤ 1000000000) : Calls Tryz.prog 79 #[.slice a xs.length cap] w fun e w' => ∃ v, e = .returned v ∧ OwnRows strLay w' w.heap.size 9 v xs ∧ Below w.heap.size w w' := by
  cases a with
  | none =>
    have : xs = [] := by
      cases xs with
      | nil => rfl
      | cons y r =>
        obtain ⟨b, off, e, _⟩ := h 0 y rfl
        cases e
    subst this
    exact (Tryz.slices_Clone_string_nil 0 cap w).mono fun _ _ h => ⟨_, h.1, OwnRows.nil _ _ _ _, by rw [h.2]; exact Below.refl _ _⟩
  | some ad =>
    cases xs with
    | nil => exact (Tryz.slices_Clone_string_zero ad cap w).mono fun _ _ ⟨v, h1, h2, _, h3⟩ => ⟨v, h1, h2, h3⟩
    | cons y r =>
      obtain ⟨b, off, e, _, _⟩ := h 0 y rfl
      cases e
      have := Tryz.slices_Clone_string b off (y :: r).length cap (y :: r) w (Nat.le_refl _) (by omega) (rows_cellsD h)
      rw [List.take_length] at this
      exact this.mono fun _ _ ⟨v, h1, h2, _, h3⟩ => ⟨v, h1, by unfold OwnRows; rw [flat_strK]; exact h2, h3⟩
/-- Behind put: the state's block, the pieces' row. -/
def PutIs (w : World) (sb base : Nat) (v0 vp : Value) (rest : List Value) (pcs : List ByteArray) (w' : World) : Prop :=
  ∃ vp', VarAt w' sb (v0 :: vp' :: rest) ∧ OwnRows strLay w' base 9 vp' pcs ∧ (vp'.ownBlock = vp.ownBlock ∨ ∀ k, vp'.ownBlock = some k → w.heap.size ≤ k) ∧ Turned (fun k => k = sb ∨ vp.ownBlock = some k) w.heap.size w w'
set_option maxRecDepth 100000 in
set_option maxHeartbeats 3200000 in
theorem sput_any (sb base : Nat) (v0 vp : Value) (rest : List Value) (pcs : List ByteArray) (p : ByteArray) (w : World) (hV : VarAt w sb (v0 :: vp :: rest)) (ho : OwnRows strLay w base 9 vp pcs) (hne : vp.ownBlock ≠ some sb) (hbase : base ≤ w.heap.size) (hl : pcs.length ≤ 1000000) :
    Calls Tryz.prog 108 #[.pointer (some ⟨sb, 0, none⟩), .string p] w fun e w' => e = .returned (.bool (decide (p ∈ pcs))) ∧ PutIs w sb base v0 vp rest (putP pcs p) w' := by
  obtain ⟨i0, hi, hz0, hz1, hz2⟩ := info_three strInfoS
  have Hi := Lib.hid hi
  have Hz0 := Lib.hid hz0
  have Hz1 := Lib.hid hz1
  have Hz2 := Lib.hid hz2
  clear hi hz0 hz1 hz2
  obtain ⟨pa, pc, rfl, hrow, _⟩ := ho.read
  have c1 : w.cell? ⟨sb, 1, none⟩ = some (.slice pa pcs.length pc) := hV.2.2 1 _ rfl
  have HC := Lib.hid (scontains_any pa pc pcs p w hrow (by omega))
  have Ho := Lib.hid ho
  have HV := Lib.hid hV
  have hsb := hV.1
  clear ho hV hrow
  by_cases hp : p ∈ pcs
  · have Hr := Lib.hid (show putP pcs p = pcs from if_pos hp)
    rw [decide_eq_true hp] at HC ⊢
    clear hp
    go_enter Tryz.func108, Tryz.ntmps108
    go_wp2_with fail
    refine HC.out.mono ?_
    rintro e w1 ⟨rfl, hw1⟩
    rw [hw1]
    clear hw1
    go_wp2_with fail
    go_ret
    refine ⟨rfl, _, HV.out, by rw [Hr.out]; exact Ho.out, .inl rfl, Turned.refl _ _ _⟩
  · have Hr := Lib.hid (show putP pcs p = pcs ++ [p] from if_neg hp)
    rw [decide_eq_false hp] at HC ⊢
    clear hp
    have Hfr := Lib.hid fun w2 (hg : (w.alloc (.cells #[.string p] 9)).grownBy w2 (Value.slice pa pcs.length pc).ownBlock) => (HV.out.keeps ((Below.refl w.heap.size w).alloc (Nat.le_refl _) (.cells #[.string p] 9)) hsb).grown hg (fun e => hne e.symm)
    go_enter Tryz.func108, Tryz.ntmps108
    go_wp2_with fail
    refine HC.out.mono ?_
    rintro e w1 ⟨rfl, hw1⟩
    rw [hw1]
    clear hw1
    go_wp2_with (at_builtin; refine wpList_append_rows _ rfl _ _ 23 rfl strLay base 9 i0 (.string ⟨#[]⟩) 16 Tryz.underlying23 Hi.out Hz0.out Hz1.out Hz2.out rfl (by decide) _ pcs rfl (Ho.out.alloc _) ⟨w.heap.size, 0, none⟩ 1 p rfl (cells_new_at w w.heap.size #[.string p] 9 rfl) (by unfold maxLen; omega) (by omega) (by simp; omega) ?_)
    intro va w3 hrow3 hg3 hv3
    obtain ⟨va2, vc2, rfl, _, _⟩ := hrow3.read
    rw [show (pcs ++ [p]).length = pcs.length + 1 from by simp] at hrow3 hv3
    have hV3 := Hfr.out w3 hg3
    have f1 := hV3.2.1 1
    have k1 : w3.cell? ⟨sb, 1, none⟩ = some (.slice pa pcs.length pc) := hV3.2.2 1 _ rfl
    have HV3 := Lib.hid hV3
    have Hr3 := Lib.hid hrow3
    have Hg3 := Lib.hid hg3
    have Hv3 := Lib.hid hv3
    clear hV3 hrow3 hg3 hv3
    go_wp2_with fail
    go_ret
    have hvb : (Value.slice va2 (pcs.length + 1) vc2).ownBlock ≠ some sb := fun e => by
      rcases Hv3.out with h | h
      · exact hne (h.symm.trans e)
      · rw [e] at h
        simp only [Option.some.injEq] at h
        omega
    refine ⟨rfl, _, by simpa using HV3.out.set 1 _ (by simp), ?_, ?_, ?_⟩
    · rw [Hr.out]
      exact Hr3.out.turnedOther (T := fun k => k = sb) ((Turned.refl _ _ _).set 1 _ fun _ => rfl) (fun k hk e => hvb (by rw [hk, e]))
    · rcases Hv3.out with h | h
      · exact .inl h
      · refine .inr fun k hk => ?_
        rw [hk] at h
        simp only [Option.some.injEq] at h
        omega
    · exact ((((Turned.refl (fun k => k = sb ∨ (Value.slice pa pcs.length pc).ownBlock = some k) w.heap.size w).alloc (Nat.le_refl _) _).trans (Turned.of_grown Hg3.out (by simp) fun k e _ => .inr e)).set 1 _ fun _ => .inl rfl)
end Go.Proofs.YtgglheelhbfgiaaGreatDoor

namespace Go.Proofs.YtgglheelhbfgiaaGreatDoor
open Go Go.RowKit Go.Lib
def opsOf (l : List Opr) (x : Opr) : List Opr := if (addO l x).2 = 0 then (addO l x).1 else l
def wasThere (l : List Opr) (x : Opr) : Bool := decide ((addO l x).2 = 0 ∧ (addO l x).1.length = l.length)
theorem addO_ne {l : List Opr} {x : Opr} (h : (addO l x).2 = 0) : (addO l x).1 ≠ [] := by
  unfold addO at h ⊢
  split at h
  · exact absurd h (by assumption)
  · rw [if_neg (by assumption)]
    split at h
    · rw [if_pos (by assumption)]
      intro e
      have hm : memB l x = true := by assumption
      dsimp only at e
      rw [e] at hm
      cases hm
    · rw [if_neg (by assumption)]
      split at h
      · exact absurd h (by assumption)
      · rw [if_neg (by assumption)]
        split at h
        · cases h
        · rw [if_neg (by assumption)]
          simp [insO]
/-- A list of operations that is only read. -/
structure OpsAt (w : World) (a : Option Addr) (cap : Nat) (l : List Opr) : Prop where
  rows : RowsAt oprLay w a l
  nil : a = none → cap = 0
  le : l.length ≤ cap
theorem RowsAt.turned2 {α : Type} {L : Lay α} {W W' : World} {S : Nat → Prop} {a : Option Addr} {xs : List α} (h : RowsAt L W a xs) (ht : Turned S W.heap.size W W') (hS : ∀ ad, a = some ad → ad.block < W.heap.size → ¬ S ad.block) : RowsAt L W' a xs := by
  intro j x hj
  obtain ⟨b, off, e, hlt, hc⟩ := h j x hj
  exact ⟨b, off, e, Nat.lt_of_lt_of_le hlt ht.size, fun f v hf => by rw [cell_same (ht.block b hlt (hS _ e hlt))]; exact hc f v hf⟩
/-- Behind add. -/
def AddIs (w : World) (sb : Nat) (a : Option Addr) (vp : Value) (rest : List Value) (l : List Opr) (w' : World) : Prop :=
  ∃ a' cap', VarAt w' sb (.slice a' l.length cap' :: vp :: rest) ∧ OpsAt w' a' cap' l ∧ (a' = a ∨ (l ≠ [] ∧ ∀ ad, a' = some ad → w.heap.size ≤ ad.block)) ∧ Turned (fun k => k = sb) w.heap.size w w'
set_option maxRecDepth 100000 in
set_option maxHeartbeats 6400000 in
theorem sadd_any (sb : Nat) (a : Option Addr) (cap : Nat) (vp : Value) (rest : List Value) (l : List Opr) (x : Opr) (w : World) (hV : VarAt w sb (.slice a l.length cap :: vp :: rest)) (ho : OpsAt w a cap l) (hne : ∀ ad, a = some ad → ad.block ≠ sb) (hl : l.length ≤ 10000) (hn : x.name.size ≤ 100000) (hm : x.man.size ≤ 100000) :
    Calls Tryz.prog 107 #[.pointer (some ⟨sb, 0, none⟩), .agg #[.int .i64 x.cnt, .int .i64 x.who, .int .i64 x.seq, .int .i64 x.kind, .int .i64 x.nc, .int .i64 x.nw, .bool x.dir, .int .i64 x.pc, .int .i64 x.pw, .string x.name, .string x.man]] w fun e w' => e = .returned (.tuple #[.bool (wasThere l x), .int .i64 (addO l x).2]) ∧ AddIs w sb a vp rest (opsOf l x) w' := by
  have hbx : Below w.heap.size w (w.alloc (.cells #[.int .i64 x.cnt, .int .i64 x.who, .int .i64 x.seq, .int .i64 x.kind, .int .i64 x.nc, .int .i64 x.nw, .bool x.dir, .int .i64 x.pc, .int .i64 x.pw, .string x.name, .string x.man] 66)) := (Below.refl _ _).alloc (Nat.le_refl _) _
  have hX := VarAt.new w #[.int .i64 x.cnt, .int .i64 x.who, .int .i64 x.seq, .int .i64 x.kind, .int .i64 x.nc, .int .i64 x.nw, .bool x.dir, .int .i64 x.pc, .int .i64 x.pw, .string x.name, .string x.man] 66
  have hsb := hV.1
  have HV := Lib.hid (hV.keeps hbx hsb)
  have Hbx := Lib.hid hbx
  have c0 : (w.alloc (.cells #[.int .i64 x.cnt, .int .i64 x.who, .int .i64 x.seq, .int .i64 x.kind, .int .i64 x.nc, .int .i64 x.nw, .bool x.dir, .int .i64 x.pc, .int .i64 x.pw, .string x.name, .string x.man] 66)).cell? ⟨sb, 0, none⟩ = some (.slice a l.length cap) := (hV.keeps hbx hsb).2.2 0 _ rfl
  have HA := Lib.hid fun W (hW : Below w.heap.size w W) => add_any2 a cap l x W hl hn hm ho.nil ho.le (ho.rows.keeps hW)
  have Hrows := Lib.hid ho
  have x0 := hX.2.2 0 _ rfl
  have x1 := hX.2.2 1 _ rfl
  have x2 := hX.2.2 2 _ rfl
  have x3 := hX.2.2 3 _ rfl
  have x4 := hX.2.2 4 _ rfl
  have x5 := hX.2.2 5 _ rfl
  have x6 := hX.2.2 6 _ rfl
  have x7 := hX.2.2 7 _ rfl
  have x8 := hX.2.2 8 _ rfl
  have x9 := hX.2.2 9 _ rfl
  have x10 := hX.2.2 10 _ rfl
  have Hop := Lib.hid (show opsOf l x = if (addO l x).2 = 0 then (addO l x).1 else l from rfl)
  have Hwt := Lib.hid (show wasThere l x = decide ((addO l x).2 = 0 ∧ (addO l x).1.length = l.length) from rfl)
  have Hne := Lib.hid hne
  clear hX hV ho hbx hne
  have Hn0 := Lib.hid (addO_ne (l := l) (x := x))
  obtain ⟨R, hR⟩ : ∃ R, addO l x = R := ⟨_, rfl⟩
  rw [hR] at HA Hop Hwt Hn0 ⊢
  obtain ⟨W0, hW0⟩ : ∃ W0, w.alloc (.cells #[.int .i64 x.cnt, .int .i64 x.who, .int .i64 x.seq, .int .i64 x.kind, .int .i64 x.nc, .int .i64 x.nw, .bool x.dir, .int .i64 x.pc, .int .i64 x.pw, .string x.name, .string x.man] 66) = W0 := ⟨_, rfl⟩
  have HW0 := Lib.hid hW0
  rw [hW0] at HV Hbx c0 x0 x1 x2 x3 x4 x5 x6 x7 x8 x9 x10
  have HK := Lib.hid (show ∀ w', Below W0.heap.size W0 w' → (Below W0.heap.size W0 w' ∧ w'.cell? ⟨sb, 0, none⟩ = some (.slice a l.length cap) ∧ w'.cell? ⟨w.heap.size, 0, none⟩ = some (.int .i64 x.cnt) ∧ w'.cell? ⟨w.heap.size, 1, none⟩ = some (.int .i64 x.who) ∧ w'.cell? ⟨w.heap.size, 2, none⟩ = some (.int .i64 x.seq) ∧ w'.cell? ⟨w.heap.size, 3, none⟩ = some (.int .i64 x.kind) ∧ w'.cell? ⟨w.heap.size, 4, none⟩ = some (.int .i64 x.nc) ∧ w'.cell? ⟨w.heap.size, 5, none⟩ = some (.int .i64 x.nw) ∧ w'.cell? ⟨w.heap.size, 6, none⟩ = some (.bool x.dir) ∧ w'.cell? ⟨w.heap.size, 7, none⟩ = some (.int .i64 x.pc) ∧ w'.cell? ⟨w.heap.size, 8, none⟩ = some (.int .i64 x.pw) ∧ w'.cell? ⟨w.heap.size, 9, none⟩ = some (.string x.name) ∧ w'.cell? ⟨w.heap.size, 10, none⟩ = some (.string x.man)) from fun w' hW => ⟨hW, (hW.cell (block_lt_of_cell c0)).trans c0, (hW.cell (block_lt_of_cell x0)).trans x0, (hW.cell (block_lt_of_cell x1)).trans x1, (hW.cell (block_lt_of_cell x2)).trans x2, (hW.cell (block_lt_of_cell x3)).trans x3, (hW.cell (block_lt_of_cell x4)).trans x4, (hW.cell (block_lt_of_cell x5)).trans x5, (hW.cell (block_lt_of_cell x6)).trans x6, (hW.cell (block_lt_of_cell x7)).trans x7, (hW.cell (block_lt_of_cell x8)).trans x8, (hW.cell (block_lt_of_cell x9)).trans x9, (hW.cell (block_lt_of_cell x10)).trans x10⟩)
  clear hR hW0
  generalize opsOf l x = OL at *
  generalize wasThere l x = wt at *
  go_enter Tryz.func107, Tryz.ntmps107
  go_wp2_with fail
  rw [HW0.out]
  go_region_held3 (fun w' => Below W0.heap.size W0 w' ∧ w'.cell? ⟨sb, 0, none⟩ = some (.slice a l.length cap) ∧ w'.cell? ⟨w.heap.size, 0, none⟩ = some (.int .i64 x.cnt) ∧ w'.cell? ⟨w.heap.size, 1, none⟩ = some (.int .i64 x.who) ∧ w'.cell? ⟨w.heap.size, 2, none⟩ = some (.int .i64 x.seq) ∧ w'.cell? ⟨w.heap.size, 3, none⟩ = some (.int .i64 x.kind) ∧ w'.cell? ⟨w.heap.size, 4, none⟩ = some (.int .i64 x.nc) ∧ w'.cell? ⟨w.heap.size, 5, none⟩ = some (.int .i64 x.nw) ∧ w'.cell? ⟨w.heap.size, 6, none⟩ = some (.bool x.dir) ∧ w'.cell? ⟨w.heap.size, 7, none⟩ = some (.int .i64 x.pc) ∧ w'.cell? ⟨w.heap.size, 8, none⟩ = some (.int .i64 x.pw) ∧ w'.cell? ⟨w.heap.size, 9, none⟩ = some (.string x.name) ∧ w'.cell? ⟨w.heap.size, 10, none⟩ = some (.string x.man))
    (first | exact HK.out _ (Below.refl _ _).drew | (go_split_ands; exact HK.out _ (Below.trans (by assumption) (hbl.mono (Below.size (by assumption))))))
    (first | (go_at_call 44; go_split_ands; refine (HA.out _ (Hbx.out.trans (Below.mono (by assumption) Hbx.out.size))).mono ?_; rintro e w1 ⟨a', cap', rfl, hra, hnil', hlc', hbl, hor⟩))
  rename_i hH
  obtain ⟨hbz, k0, -⟩ := hH
  have hb1 : Below w.heap.size w w1 := Hbx.out.trans (hbz.mono Hbx.out.size)
  have hV1 := HV.out.keeps hbz HV.out.1
  have f0 := hV1.2.1 0
  have hord : a' = a ∨ ∀ ad, a' = some ad → w.heap.size ≤ ad.block := by
    rcases hor with h | h
    · exact .inl h
    · refine .inr fun ad e => Nat.le_trans Hbx.out.size ?_
      simpa using h ad e
  have hop : OpsAt w1 a cap l := ⟨Hrows.out.rows.keeps hb1, Hrows.out.nil, Hrows.out.le⟩
  have HV1 := Lib.hid hV1
  have Hord := Lib.hid hord
  have Hop1 := Lib.hid hop
  have Hra := Lib.hid hra
  clear hV1 hord hop hor hbl hra hbz
  by_cases hr2 : R.2 = 0
  · have e1 : (R.2 != 0) = false := by rw [hr2]; rfl
    have Hop2 := Lib.hid (Hop.out.trans (if_pos hr2))
    have Hwt2 := Lib.hid (show wt = decide (R.1.length = l.length) by rw [Hwt.out]; simp [hr2])
    clear Hop Hwt
    have d1 : ((R.1.length : Int) == (l.length : Int)) = decide (R.1.length = l.length) := by
      rw [Bool.eq_iff_iff, beq_iff_eq, decide_eq_true_iff]
      omega
    have Hr2 := Lib.hid hr2
    clear hr2
    go_wp2_with fail
    go_ret2
    refine ⟨by rw [Hwt2.out, Hr2.out]; rfl, ?_⟩
    rw [Hop2.out]
    have hne1 : ∀ ad, a' = some ad → ad.block ≠ sb := fun ad e => by
      rcases Hord.out with h | h
      · exact Hne.out ad (h.symm.trans e)
      · have := h ad e
        omega
    refine ⟨a', cap', by simpa using HV1.out.set 0 _ (by simp), ⟨?_, hnil', hlc'⟩, Hord.out.imp_right fun h => ⟨Hn0.out Hr2.out, h⟩, (Turned.of_below hb1 (Nat.le_refl _)).set 0 _ fun _ => rfl⟩
    exact Hra.out.turned2 ((Turned.refl (fun k => k = sb) _ _).set 0 _ fun _ => rfl) fun ad e _ => hne1 ad e
  · have e1 : (R.2 != 0) = true := by rw [bne_iff_ne]; exact hr2
    have Hop2 := Lib.hid (Hop.out.trans (if_neg hr2))
    have Hwt2 := Lib.hid (show wt = false by rw [Hwt.out]; simp [hr2])
    clear Hop Hwt
    go_wp2_with fail
    go_ret2
    refine ⟨by rw [Hwt2.out]; rfl, ?_⟩
    rw [Hop2.out]
    exact ⟨a, cap, HV1.out, Hop1.out, .inl rfl, Turned.of_below hb1 (Nat.le_refl _)⟩
end Go.Proofs.YtgglheelhbfgiaaGreatDoor

namespace Go.Proofs.YtgglheelhbfgiaaGreatDoor
open Go Go.RowKit Go.Lib
/-- A state of operations and pieces. -/
structure StAt (w : World) (sb base : Nat) (rest : List Value) (a : Option Addr) (vp : Value) (s : StO) : Prop where
  cells : ∃ cap, VarAt w sb (.slice a s.ops.length cap :: vp :: rest) ∧ OpsAt w a cap s.ops
  pcs : OwnRows strLay w base 9 vp s.pcs
  asb : ∀ ad, a = some ad → ad.block ≠ sb
  psb : vp.ownBlock ≠ some sb
  apb : ∀ ad, a = some ad → vp.ownBlock ≠ some ad.block
  alt : ∀ ad, a = some ad → ad.block < w.heap.size
theorem StAt.below {w w' : World} {sb base : Nat} {rest : List Value} {a : Option Addr} {vp : Value} {s : StO} (h : StAt w sb base rest a vp s) (hb : Below w.heap.size w w') : StAt w' sb base rest a vp s := by
  obtain ⟨⟨cap, h1, h2⟩, h3, h4, h5, h6, h7⟩ := h
  exact ⟨⟨cap, h1.keeps hb h1.1, h2.rows.keeps hb, h2.nil, h2.le⟩, h3.turnedOther (Turned.of_below hb (Nat.le_refl _) (S := fun _ => False)) (fun _ _ h => h), h4, h5, h6, fun ad e => Nat.lt_of_lt_of_le (h7 ad e) hb.size⟩
theorem StAt.foreign {w w' : World} {sb base : Nat} {rest : List Value} {a : Option Addr} {vp : Value} {s : StO} {T : Nat → Prop} (h : StAt w sb base rest a vp s) (ht : Turned T w.heap.size w w') (hT : ∀ k, T k → k ≠ sb ∧ vp.ownBlock ≠ some k ∧ ∀ ad, a = some ad → k ≠ ad.block) : StAt w' sb base rest a vp s := by
  obtain ⟨⟨cap, h1, h2⟩, h3, h4, h5, h6, h7⟩ := h
  refine ⟨⟨cap, ?_, h2.rows.turned2 ht fun ad e _ ht => (hT _ ht).2.2 ad e rfl, h2.nil, h2.le⟩, h3.turnedOther ht (fun k hk ht => (hT k ht).2.1 hk), h4, h5, h6, fun ad e => Nat.lt_of_lt_of_le (h7 ad e) ht.size⟩
  exact h1.same (ht.block sb h1.1 fun h => (hT sb h).1 rfl) ht.size
/-- Behind a call that turns a state. -/
def StGo (w : World) (sb base : Nat) (rest : List Value) (a : Option Addr) (vp : Value) (s : StO) (w' : World) : Prop :=
  ∃ a' vp', StAt w' sb base rest a' vp' s ∧ (a' = a ∨ ∀ ad, a' = some ad → w.heap.size ≤ ad.block) ∧ (vp'.ownBlock = vp.ownBlock ∨ ∀ k, vp'.ownBlock = some k → w.heap.size ≤ k) ∧ Turned (fun k => k = sb ∨ vp.ownBlock = some k) w.heap.size w w'
theorem StAt.go {w : World} {sb base : Nat} {rest : List Value} {a : Option Addr} {vp : Value} {s : StO} (h : StAt w sb base rest a vp s) {w' : World} (hb : Below w.heap.size w w') : StGo w sb base rest a vp s w' :=
  ⟨a, vp, h.below hb, .inl rfl, .inl rfl, Turned.of_below hb (Nat.le_refl _)⟩
theorem StGo.trans {w w1 w2 : World} {sb base : Nat} {rest : List Value} {a : Option Addr} {vp : Value} {s2 : StO}
    (h1 : ∃ a1 vp1, (a1 = a ∨ ∀ ad, a1 = some ad → w.heap.size ≤ ad.block) ∧ (vp1.ownBlock = vp.ownBlock ∨ ∀ k, vp1.ownBlock = some k → w.heap.size ≤ k) ∧ Turned (fun k => k = sb ∨ vp.ownBlock = some k) w.heap.size w w1 ∧ StGo w1 sb base rest a1 vp1 s2 w2) : StGo w sb base rest a vp s2 w2 := by
  obtain ⟨a1, vp1, h1, h2, h3, a2, vp2, g1, g2, g3, g4⟩ := h1
  refine ⟨a2, vp2, g1, ?_, ?_, h3.trans (g4.mono h3.size fun k hk hs => ?_)⟩
  · rcases g2 with e | e
    · rw [e]
      exact h1
    · exact .inr fun ad ea => Nat.le_trans h3.size (e ad ea)
  · rcases g3 with e | e
    · rw [e]
      exact h2
    · exact .inr fun ad ea => Nat.le_trans h3.size (e ad ea)
  · rcases hs with h | h
    · exact .inl h
    · rcases h2 with e | e
      · exact .inr (e.symm.trans h)
      · have := e k h
        omega
theorem put_go {w : World} {sb base : Nat} {rest : List Value} {a : Option Addr} {vp : Value} {s : StO} (p : ByteArray) (h : StAt w sb base rest a vp s) (hbase : base ≤ w.heap.size) (hl : s.pcs.length ≤ 1000000) :
    Calls Tryz.prog 108 #[.pointer (some ⟨sb, 0, none⟩), .string p] w fun e w' => e = .returned (.bool (decide (p ∈ s.pcs))) ∧ StGo w sb base rest a vp { s with pcs := putP s.pcs p } w' := by
  obtain ⟨⟨cap, h1, h2⟩, h3, h4, h5, h6, h7⟩ := h
  refine (sput_any sb base _ vp rest s.pcs p w h1 h3 h5 hbase hl).mono ?_
  rintro e w' ⟨rfl, vp', g1, g2, g3, g4⟩
  refine ⟨rfl, a, vp', ⟨⟨cap, g1, h2.rows.turned2 g4 fun ad e _ ht => ?_, h2.nil, h2.le⟩, g2, h4, ?_, ?_, fun ad e => Nat.lt_of_lt_of_le (h7 ad e) g4.size⟩, .inl rfl, g3, g4⟩
  · rcases ht with ht | ht
    · exact h4 ad e ht
    · exact h6 ad e ht
  · intro e
    rcases g3 with g | g
    · exact h5 (g.symm.trans e)
    · have := g sb e
      have := h1.1
      omega
  · intro ad ea e
    rcases g3 with g | g
    · exact h6 ad ea (g.symm.trans e)
    · have := g _ e
      have := h7 ad ea
      omega
theorem add_go {w : World} {sb base : Nat} {rest : List Value} {a : Option Addr} {vp : Value} {s : StO} (x : Opr) (h : StAt w sb base rest a vp s) (hl : s.ops.length ≤ 10000) (hn : x.name.size ≤ 100000) (hm : x.man.size ≤ 100000) :
    Calls Tryz.prog 107 #[.pointer (some ⟨sb, 0, none⟩), .agg #[.int .i64 x.cnt, .int .i64 x.who, .int .i64 x.seq, .int .i64 x.kind, .int .i64 x.nc, .int .i64 x.nw, .bool x.dir, .int .i64 x.pc, .int .i64 x.pw, .string x.name, .string x.man]] w fun e w' => e = .returned (.tuple #[.bool (wasThere s.ops x), .int .i64 (addO s.ops x).2]) ∧ StGo w sb base rest a vp { s with ops := opsOf s.ops x } w' := by
  obtain ⟨⟨cap, h1, h2⟩, h3, h4, h5, h6, h7⟩ := h
  refine (sadd_any sb a cap vp rest s.ops x w h1 h2 h4 hl hn hm).mono ?_
  rintro e w' ⟨rfl, a', cap', g1, g2, g3, g4⟩
  have hlt : ∀ ad, a' = some ad → ad.block < w'.heap.size := fun ad e => by
    rcases g3 with g | g
    · exact Nat.lt_of_lt_of_le (h7 ad (g.symm.trans e)) g4.size
    · obtain ⟨g0, g⟩ := g
      obtain ⟨y, ys, hy⟩ := List.exists_cons_of_ne_nil g0
      obtain ⟨b, off, e2, hb, _⟩ := g2.rows 0 y (by rw [hy]; rfl)
      rw [e] at e2
      cases e2
      exact hb
  have hpw : ∀ k, vp.ownBlock = some k → k < w.heap.size := fun k hk => (h3.lt hk).2
  refine ⟨rfl, a', vp, ⟨⟨cap', g1, g2⟩, h3.turnedOther g4 fun k hk ht => h5 (by rw [hk, ht]), ?_, h5, ?_, hlt⟩, g3.imp_right (·.2), .inl rfl, g4.mono (Nat.le_refl _) fun k _ hk => .inl hk⟩
  · intro ad e
    rcases g3 with g | g
    · exact h4 ad (g.symm.trans e)
    · have := g.2 ad e
      have := h1.1
      omega
  · intro ad ea e
    rcases g3 with g | g
    · exact h6 ad (g.symm.trans ea) e
    · have := g.2 _ ea
      have := hpw _ e
      omega
end Go.Proofs.YtgglheelhbfgiaaGreatDoor

