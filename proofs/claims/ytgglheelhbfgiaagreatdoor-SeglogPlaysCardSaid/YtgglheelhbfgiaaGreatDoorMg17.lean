/-
  seglog: Append, Len. arbourref16: Frame, digits, Name. arbourref16: frame.
-/
import Derived.Test.YtgglheelhbfgiaaGreatDoorMg16
import Derived.Test.YtgglheelhbfgiaaGreatDoorMg15
import Derived.Test.YtgglheelhbfgiaaGreatDoorMg12
namespace Go.Proofs.YtgglheelhbfgiaaGreatDoor
open Go Go.RowKit Go.Lib
set_option maxRecDepth 100000 in
theorem wrongR_any (s : ByteArray) (w : World) : Calls Tryz.prog 55 #[.string s] w fun e w' => e = .returned (.bool (!rightR s)) ∧ w' = w := by
  have HR := Lib.hid (right_any s w)
  generalize rightR s = r at *
  go_enter Tryz.func55, Tryz.ntmps55
  go_wp2_with fail
  refine HR.out.mono ?_
  rintro e w' ⟨rfl, rfl⟩
  go_wp2_with fail
  go_ret
  exact ⟨rfl, rfl⟩
theorem rows_cells {w : World} {b off : Nat} {xs : List ByteArray} (h : RowsAt strLay w (some ⟨b, off, none⟩) xs) : ∀ j, j < xs.length → w.cell? ⟨b, off + j, none⟩ = some (Value.string xs[j]!) := by
  intro j hj
  obtain ⟨b', off', e, _, hc⟩ := h j xs[j] (List.getElem?_eq_getElem hj)
  cases e
  have := hc 0 _ rfl
  rw [show off + j * strLay.sz + 0 = off + j by show off + j * 1 + 0 = _; omega] at this
  rw [this, getElem!_pos xs j hj]
theorem contains_any (a : Option Addr) (cap : Nat) (rs : List ByteArray) (w : World) (hR : RowsAt strLay w a rs) (hl : rs.length ≤ 1000000000) :
    Calls Tryz.prog 54 #[.slice a rs.length cap, .func (.func 55) #[] #[]] w fun e w' => e = .returned (.bool (rs.any fun s => !rightR s)) ∧ ∃ q, w' = w.drewN q := by
  cases rs with
  | nil => exact (Tryz.slices_ContainsFunc_empty (α := ByteArray) a cap _ w).mono fun _ _ h => ⟨h.1, 0, by rw [h.2, World.drewN_zero]⟩
  | cons s r =>
    obtain ⟨b, off, e, _, _⟩ := hR 0 s rfl
    subst e
    have := Tryz.slices_ContainsFunc (α := ByteArray) Value.string (fun s => !rightR s) 55 #[] (enters_of Tryz.func55 (by kernel_rfl) rfl) b off (s :: r).length cap (s :: r) w (fun W x _ => (wrongR_any x W).mono fun _ _ h => ⟨h.1, 0, by rw [h.2, World.drewN_zero]⟩) (Nat.le_refl _) (by omega) (rows_cells hR)
    rw [List.take_length] at this
    exact this
set_option maxRecDepth 100000 in
theorem slen_any (lb db : Nat) (l : Lg) (w : World) (hL : LAt w lb db l) : Calls Tryz.prog 11 #[.pointer (some ⟨lb, 0, none⟩)] w fun e w' => e = .returned (.int .i64 l.many) ∧ w' = w := by
  have c1 : w.cell? ⟨lb, 1, none⟩ = some (.int .i64 l.many) := hL.2.2 1 _ rfl
  clear hL
  go_enter Tryz.func11, Tryz.ntmps11
  go_wp2_with fail
  go_ret
  exact ⟨rfl, rfl⟩
theorem append_dead {l : Lg} {rs : List ByteArray} {d : Dk} (h : l.dead = true) : appendD l rs d = (l, d, 42) := if_pos h
theorem append_wrong {l : Lg} {rs : List ByteArray} {d : Dk} (h : l.dead = false) (h2 : (rs.any fun s => !rightR s) = true) : appendD l rs d = (l, d, 1) := by
  unfold appendD
  rw [if_neg (by rw [h]; exact Bool.noConfusion), if_pos (by rw [List.any_eq_not_all_not] at h2; simpa using h2)]
theorem all_of {rs : List ByteArray} (h2 : (rs.any fun s => !rightR s) = false) : rs.all rightR = true := by
  rw [List.any_eq_not_all_not] at h2
  simpa using h2
theorem append_big {l : Lg} {rs : List ByteArray} {d : Dk} (h : l.dead = false) (h2 : (rs.any fun s => !rightR s) = false) (h3 : 800 < l.many + rs.length) : appendD l rs d = (l, d, 40) := by
  unfold appendD
  rw [if_neg (by rw [h]; exact Bool.noConfusion), if_neg (by rw [all_of h2]; exact Bool.noConfusion), if_pos h3]
theorem append_none {l : Lg} {rs : List ByteArray} {d : Dk} (h : l.dead = false) (h2 : (rs.any fun s => !rightR s) = false) (h3 : ¬ 800 < l.many + rs.length) (h4 : rs.length = 0) : appendD l rs d = (l, d, 0) := by
  unfold appendD
  rw [if_neg (by rw [h]; exact Bool.noConfusion), if_neg (by rw [all_of h2]; exact Bool.noConfusion), if_neg h3, if_pos h4]
theorem append_fell {l : Lg} {rs : List ByteArray} {d : Dk} (h : l.dead = false) (h2 : (rs.any fun s => !rightR s) = false) (h3 : ¬ 800 < l.many + rs.length) (h4 : ¬ rs.length = 0) (h5 : (layD l rs d).2.2 ≠ 0) : appendD l rs d = ({ l with dead := true }, (layD l rs d).1, (layD l rs d).2.2) := by
  unfold appendD
  rw [if_neg (by rw [h]; exact Bool.noConfusion), if_neg (by rw [all_of h2]; exact Bool.noConfusion), if_neg h3, if_neg h4, if_pos h5]
theorem append_fine {l : Lg} {rs : List ByteArray} {d : Dk} (h : l.dead = false) (h2 : (rs.any fun s => !rightR s) = false) (h3 : ¬ 800 < l.many + rs.length) (h4 : ¬ rs.length = 0) (h5 : (layD l rs d).2.2 = 0) : appendD l rs d = ({ l with many := l.many + rs.length, fin := (layD l rs d).2.1 }, (layD l rs d).1, 0) := by
  unfold appendD
  rw [if_neg (by rw [h]; exact Bool.noConfusion), if_neg (by rw [all_of h2]; exact Bool.noConfusion), if_neg h3, if_neg h4, if_neg (fun e => e h5)]
/-- What an appending answers. -/
def AppIs (w : World) (db lb : Nat) (S : Nat → Prop) (r : Lg × Dk × Int) (e : Ending) (w' : World) : Prop :=
  e = .returned (.int .i64 r.2.2) ∧ LAt w' lb db r.1 ∧ ∃ T, DOk w' db T r.2.1 ∧ (∀ k, T k → S k ∨ w.heap.size ≤ k) ∧ ¬ T lb ∧ Turned (fun k => S k ∨ k = lb) w.heap.size w w'
theorem AppIs.below {w w' : World} {db lb : Nat} {S : Nat → Prop} {d : Dk} {l : Lg} {n : Int} {R : Lg × Dk × Int} (hr : R = (l, d, n)) (h : DOk w db S d) (hL : LAt w lb db l) (hlb : ¬ S lb) (hb : Below w.heap.size w w') : AppIs w db lb S R (.returned (.int .i64 n)) w' := by
  subst hr
  exact ⟨rfl, hL.keeps hb hL.1, S, h.below hb, fun _ hk => .inl hk, hlb, Turned.of_below hb (Nat.le_refl _)⟩
theorem notT {w : World} {lb : Nat} {S T : Nat → Prop} (h1 : ∀ k, T k → S k ∨ w.heap.size ≤ k) (hlb : ¬ S lb) (hlt : lb < w.heap.size) : ¬ T lb := fun h => by
  rcases h1 lb h with h | h
  · exact hlb h
  · omega
set_option maxRecDepth 100000 in
set_option maxHeartbeats 3200000 in
theorem sappend_any {w : World} {db lb : Nat} {S : Nat → Prop} {d : Dk} {l : Lg} (h : DOk w db S d) (hL : LAt w lb db l) (hlb : ¬ S lb) (a : Option Addr) (cap : Nat) (rs : List ByteArray) (hR : RowsAt strLay w a rs) (hRa : ∀ ad, a = some ad → 0 < rs.length → ad.block < w.heap.size ∧ ¬ S ad.block)
    (hm : l.many ≤ 1000000) (hrl : rs.length ≤ 1000000) (hl : d.now.length ≤ 99000) (hal : d.acts.length ≤ 900000000) :
    Calls Tryz.prog 10 #[.pointer (some ⟨lb, 0, none⟩), .slice a rs.length cap] w fun e w' => AppIs w db lb S (appendD l rs d) e w' := by
  have c1 : w.cell? ⟨lb, 1, none⟩ = some (.int .i64 l.many) := hL.2.2 1 _ rfl
  have c3 : w.cell? ⟨lb, 3, none⟩ = some (.bool l.dead) := hL.2.2 3 _ rfl
  have HC := Lib.hid (contains_any a cap rs w hR (by omega))
  have HLy := Lib.hid fun q h8 hrs => slay_any (w := w.drewN q) (h.below (belowDrew (Below.refl _ _) q)) (hL.keeps (belowDrew (Below.refl _ _) q) hL.1) hlb a cap rs (hR.keeps (belowDrew (Below.refl _ _) q)) hRa h8 hrs hl hal
  have HD := Lib.hid h
  have HL := Lib.hid hL
  have Hlb := Lib.hid hlb
  have H1 := Lib.hid (append_dead (l := l) (rs := rs) (d := d))
  have H2 := Lib.hid (append_wrong (l := l) (rs := rs) (d := d))
  have H3 := Lib.hid (append_big (l := l) (rs := rs) (d := d))
  have H4 := Lib.hid (append_none (l := l) (rs := rs) (d := d))
  have H5 := Lib.hid (append_fell (l := l) (rs := rs) (d := d))
  have H6 := Lib.hid (append_fine (l := l) (rs := rs) (d := d))
  have Hall := Lib.hid (all_of (rs := rs))
  obtain ⟨R, hR0⟩ : ∃ R, appendD l rs d = R := ⟨_, rfl⟩
  rw [hR0] at H1 H2 H3 H4 H5 H6 ⊢
  obtain ⟨LD, hLD⟩ : ∃ LD, layD l rs d = LD := ⟨_, rfl⟩
  rw [hLD] at H5 H6 HLy
  clear hR0 hLD h hL hlb hR hRa hl hal
  obtain ⟨dead, hdd⟩ : ∃ b, l.dead = b := ⟨_, rfl⟩
  rw [hdd] at c3
  obtain ⟨anyw, haw⟩ : ∃ b, (rs.any fun s => !rightR s) = b := ⟨_, rfl⟩
  rw [haw] at HC
  have Hdd := Lib.hid hdd
  have Haw := Lib.hid haw
  clear hdd haw
  cases dead with
  | true =>
    go_enter Tryz.func10, Tryz.ntmps10
    go_wp2_with fail
    go_ret
    exact AppIs.below (H1.out Hdd.out) HD.out HL.out Hlb.out (Below.refl _ _)
  | false =>
    cases anyw with
    | true =>
      go_enter Tryz.func10, Tryz.ntmps10
      go_wp2_with fail
      refine HC.out.mono ?_
      rintro e w1 ⟨rfl, q, rfl⟩
      go_wp2_with fail
      go_ret
      exact AppIs.below (H2.out Hdd.out Haw.out) HD.out HL.out Hlb.out (belowDrew (Below.refl _ _) q)
    | false =>
      by_cases h8 : 800 < l.many + rs.length
      · have h8i : (800 : Int) < (l.many : Int) + (rs.length : Int) := by omega
        have Hr := Lib.hid (H3.out Hdd.out Haw.out h8)
        clear h8
        go_enter Tryz.func10, Tryz.ntmps10
        go_wp2_with fail
        refine HC.out.mono ?_
        rintro e w1 ⟨rfl, q, rfl⟩
        go_wp2_with fail
        go_ret
        exact AppIs.below Hr.out HD.out HL.out Hlb.out (belowDrew (Below.refl _ _) q)
      · have h8i : (l.many : Int) + (rs.length : Int) ≤ 800 := by omega
        have H8 := Lib.hid h8
        by_cases h0 : rs.length = 0
        · have Hr := Lib.hid (H4.out Hdd.out Haw.out h8 h0)
          have hi0 : ((rs.length : Int) == 0) = true := beq_iff_eq.2 (by omega)
          clear h8 h0
          go_enter Tryz.func10, Tryz.ntmps10
          go_wp2_with fail
          refine HC.out.mono ?_
          rintro e w1 ⟨rfl, q, rfl⟩
          go_wp2_with fail
          go_ret
          exact AppIs.below Hr.out HD.out HL.out Hlb.out (belowDrew (Below.refl _ _) q)
        · have H0 := Lib.hid h0
          have hi0 : ((rs.length : Int) == 0) = false := beq_eq_false_iff_ne.2 (by omega)
          have hi1 : 0 < rs.length := by omega
          clear h8 h0
          have HLy2 := Lib.hid fun q => HLy.out q (by omega) (fun s hs => by
            have := List.all_eq_true.1 (Hall.out Haw.out) s hs
            unfold rightR at this
            simp only [Bool.and_eq_true, decide_eq_true_eq] at this
            exact this.2)
          clear HLy
          go_enter Tryz.func10, Tryz.ntmps10
          go_wp2_with fail
          refine HC.out.mono ?_
          rintro e w1 ⟨rfl, q, rfl⟩
          go_wp2_with fail
          refine (HLy2.out q).mono ?_
          rintro e w4 ⟨rfl, T, hD4, hT1, hT2⟩
          have hnT := notT (lb := lb) hT1 Hlb.out HL.out.1
          have hL4 : LAt w4 lb db l := (HL.out.keeps (belowDrew (Below.refl _ _) q) HL.out.1).same (hT2.block lb HL.out.1 Hlb.out) hT2.size
          have hT2w : Turned (fun k => S k ∨ k = lb) w.heap.size w w4 := (Turned.of_below (belowDrew (Below.refl w.heap.size w) q) (Nat.le_refl _)).trans (hT2.mono (Nat.le_refl _) fun _ _ h => .inl h)
          have f1 := hL4.2.1 1
          have f2 := hL4.2.1 2
          have f3 := hL4.2.1 3
          have k1 : w4.cell? ⟨lb, 1, none⟩ = some (.int .i64 l.many) := hL4.2.2 1 _ rfl
          have k2 : w4.cell? ⟨lb, 2, none⟩ = some (.int .i64 l.fin) := hL4.2.2 2 _ rfl
          have k3 : w4.cell? ⟨lb, 3, none⟩ = some (.bool l.dead) := hL4.2.2 3 _ rfl
          have HD4 := Lib.hid hD4
          have HL4 := Lib.hid hL4
          have HT1 := Lib.hid hT1
          have HT2w := Lib.hid hT2w
          clear hD4 hL4 hT1 hT2 hT2w
          by_cases he : LD.2.2 = 0
          · have Hr := Lib.hid (H6.out Hdd.out Haw.out H8.out H0.out he)
            rw [he]
            clear he
            go_wp2_with fail
            go_ret
            rw [Hr.out]
            refine ⟨rfl, ?_, T, HD4.out.foreign (T := fun k => k = lb) (((Turned.refl (fun k => k = lb) w4.heap.size w4).set (b := lb) 1 _ fun _ => rfl).set (b := lb) 2 _ fun _ => rfl) (fun k hk => by rw [show k = lb from hk]; exact hnT), HT1.out, hnT, (HT2w.out.set 1 _ fun _ => .inr rfl).set 2 _ fun _ => .inr rfl⟩
            have := (HL4.out.set 1 (.int .i64 ((l.many : Int) + (rs.length : Int))) (by simp)).set 2 (.int .i64 LD.2.1) (by simp)
            simpa [LAt] using this
          · have Hr := Lib.hid (H5.out Hdd.out Haw.out H8.out H0.out he)
            have hq := neq_int he
            clear he
            go_wp2_with fail
            go_ret
            rw [Hr.out]
            refine ⟨rfl, ?_, T, HD4.out.foreign (T := fun k => k = lb) ((Turned.refl (fun k => k = lb) w4.heap.size w4).set (b := lb) 3 _ fun _ => rfl) (fun k hk => by rw [show k = lb from hk]; exact hnT), HT1.out, hnT, HT2w.out.set 3 _ fun _ => .inr rfl⟩
            have := HL4.out.set 3 (.bool true) (by simp)
            simpa [LAt] using this
end Go.Proofs.YtgglheelhbfgiaaGreatDoor

namespace Go.Proofs.YtgglheelhbfgiaaGreatDoor
open Go Go.RowKit Go.Lib
theorem rsumB_any (d : ByteArray) (w : World) (hd : d.size ≤ 100000000) :
    Calls Tryz.prog 98 #[.string d] w fun e w' => e = .returned (.int .i64 (sumC d.data.toList : Nat)) ∧ Below w.heap.size w w' :=
  (rsum_any d w hd).mono fun _ _ h => ⟨h.1, by rw [h.2]; exact Below.refl _ _⟩
set_option maxRecDepth 100000 in
set_option maxHeartbeats 1600000 in
theorem rframe_any (n : Nat) (s : ByteArray) (w : World) (hs : s.size ≤ 8000) : Calls Tryz.prog 64 #[.int .i64 n, .string s] w fun e w' => e = .returned (.string (frameB n s)) ∧ Below w.heap.size w w' := by
  have H1 := Lib.hid fun W => rencNum_any n W
  have H2 := Lib.hid fun W => rencText_any s W (by omega)
  have hb := bodyL_len n s.data.toList
  have hb1 : (mkB (bodyL n s.data.toList)).size ≤ 100000000 := by
    rw [mkB_size]
    have : s.data.toList.length = s.size := rfl
    omega
  have hz1 : (mkB (numL (n : Int))).size ≤ 9 := by rw [mkB_size]; exact numL_len _
  have hz3 : (mkB (numL (sumC (bodyL n s.data.toList) : Nat))).size ≤ 9 := by rw [mkB_size]; exact numL_len _
  have htl : ∀ l : List UInt8, (mkB (textL l)).size ≤ 9 + l.length := fun l => by
    rw [mkB_size]
    unfold textL
    rw [List.length_append]
    have h2 : (natL l.length).length ≤ 9 := by
      unfold natL
      rw [List.length_cons, beF_len]
      have := wid_le l.length
      omega
    omega
  have hz2 : (mkB (textL s.data.toList)).size ≤ 8009 := by
    have h1 := htl s.data.toList
    have h2 : s.data.toList.length = s.size := rfl
    omega
  have hz4 : (mkB (textL (bodyL n s.data.toList))).size ≤ 8027 := by
    have h1 := htl (bodyL n s.data.toList)
    have h2 : s.data.toList.length = s.size := rfl
    omega
  clear htl
  have H3 := Lib.hid fun W => rsumB_any (mkB (bodyL n s.data.toList)) W hb1
  have H4 := Lib.hid fun W => rencNum_any (sumC (bodyL n s.data.toList) : Nat) W
  have H5 := Lib.hid fun W => rencText_any (mkB (bodyL n s.data.toList)) W hb1
  have HF := Lib.hid (frameB_eq n s)
  have HB := Lib.hid (bodyB_eq n s)
  rw [show (mkB (bodyL n s.data.toList)).data.toList = bodyL n s.data.toList from rfl] at H3 H5
  rw [show (⟨(numL (n : Int)).toArray⟩ : ByteArray) = mkB (numL n) from rfl] at H1
  rw [show (⟨(textL s.data.toList).toArray⟩ : ByteArray) = mkB (textL s.data.toList) from rfl] at H2
  rw [show (⟨(numL (sumC (bodyL n s.data.toList) : Nat)).toArray⟩ : ByteArray) = mkB (numL (sumC (bodyL n s.data.toList) : Nat)) from rfl] at H4
  rw [show (⟨(textL (bodyL n s.data.toList)).toArray⟩ : ByteArray) = mkB (textL (bodyL n s.data.toList)) from rfl] at H5
  clear hb hb1
  generalize mkB (textL (bodyL n s.data.toList)) = x4 at *
  generalize mkB (numL (sumC (bodyL n s.data.toList) : Nat)) = x3 at *
  generalize sumC (bodyL n s.data.toList) = sm at *
  generalize mkB (bodyL n s.data.toList) = bd at *
  generalize mkB (textL s.data.toList) = x2 at *
  generalize mkB (numL (n : Int)) = x1 at *
  generalize frameB n s = fr at *
  go_enter Tryz.func64, Tryz.ntmps64
  go_wp2_with fail
  refine (H1.out _).mono ?_
  rintro e w1 ⟨rfl, hb1⟩
  go_wp2_with fail
  refine (H2.out _).mono ?_
  rintro e w2 ⟨rfl, hb2⟩
  have hb12 := hb1.trans (hb2.mono hb1.size)
  clear hb1 hb2
  go_wp2_with fail
  rw [← HB.out]
  refine (H3.out _).mono ?_
  rintro e w3 ⟨rfl, hb3⟩
  have hb13 := hb12.trans (hb3.mono hb12.size)
  clear hb12 hb3
  go_wp2_with fail
  refine (H4.out _).mono ?_
  rintro e w4 ⟨rfl, hb4⟩
  have hb14 := hb13.trans (hb4.mono hb13.size)
  clear hb13 hb4
  go_wp2_with fail
  refine (H5.out _).mono ?_
  rintro e w5 ⟨rfl, hb5⟩
  have hb15 := hb14.trans (hb5.mono hb14.size)
  clear hb14 hb5
  go_wp2_with fail
  go_ret
  exact ⟨by rw [HF.out]; rfl, hb15⟩
theorem digit_cells {n : Nat} (h : n < 10) (W : World) : Sem.run Tryz.prog (convert 156 9 (.slice (some ⟨W.heap.size, 0, none⟩) 1 1)) (W.alloc (.cells #[.int .u8 (48 + (n : Int))] 5)) = .ok (.string ⟨#[UInt8.ofNat (48 + n)]⟩) (W.alloc (.cells #[.int .u8 (48 + (n : Int))] 5)) := by
  have hc : (#[.int .u8 (48 + (n : Int))] : Array Value).toList = flat byteLay [UInt8.ofNat (48 + n)] := by
    show [Value.int .u8 (48 + (n : Int))] = [Value.int .u8 ((UInt8.ofNat (48 + n)).toNat : Int)]
    rw [UInt8.toNat_ofNat', Nat.mod_eq_of_lt (by omega)]
    rfl
  exact conv_bytes (rows_new byteLay W W.heap.size #[.int .u8 (48 + (n : Int))] 5 [UInt8.ofNat (48 + n)] rfl hc) 1
theorem digit_kept {n : Nat} (h : n < 10) {W W' : World} (hb : Below (W.alloc (.cells #[.int .u8 (48 + (n : Int))] 5)).drew.heap.size (W.alloc (.cells #[.int .u8 (48 + (n : Int))] 5)).drew W') : Sem.run Tryz.prog (convert 156 9 (.slice (some ⟨W.heap.size, 0, none⟩) 1 1)) W' = .ok (.string ⟨#[UInt8.ofNat (48 + n)]⟩) W' := by
  have hc : (#[.int .u8 (48 + (n : Int))] : Array Value).toList = flat byteLay [UInt8.ofNat (48 + n)] := by
    show [Value.int .u8 (48 + (n : Int))] = [Value.int .u8 ((UInt8.ofNat (48 + n)).toNat : Int)]
    rw [UInt8.toNat_ofNat', Nat.mod_eq_of_lt (by omega)]
    rfl
  exact conv_bytes ((rows_new byteLay W W.heap.size #[.int .u8 (48 + (n : Int))] 5 [UInt8.ofNat (48 + n)] rfl hc).keeps (Below.trans (Below.refl _ _).drew hb)) 1
set_option maxRecDepth 100000 in
theorem rdig_one (n : Nat) (h : n < 10) (w : World) : Calls Tryz.prog 95 #[.int .i64 n] w fun e w' => e = .returned (.string ⟨#[UInt8.ofNat (48 + n)]⟩) ∧ Below w.heap.size w w' := by
  have hc := fun W => digit_cells h W
  have hb := (Below.refl w.heap.size w).alloc (Nat.le_refl _) (.cells #[.int .u8 (48 + (n : Int))] 5)
  have Hb := Lib.hid hb
  clear hb
  generalize (⟨#[UInt8.ofNat (48 + n)]⟩ : ByteArray) = x at *
  go_enter Tryz.func95, Tryz.ntmps95
  go_wp2_with fail
  go_ret
  exact ⟨rfl, Hb.out⟩
set_option maxRecDepth 100000 in
set_option maxHeartbeats 1600000 in
theorem rdig_two (n : Nat) (h1 : 10 ≤ n) (h : n < 100) (w : World) : Calls Tryz.prog 95 #[.int .i64 n] w fun e w' => e = .returned (.string ⟨#[UInt8.ofNat (48 + n / 10), UInt8.ofNat (48 + n % 10)]⟩) ∧ Below w.heap.size w w' := by
  obtain ⟨q, hq⟩ : ∃ q, n / 10 = q := ⟨_, rfl⟩
  obtain ⟨r, hr⟩ : ∃ r, n % 10 = r := ⟨_, rfl⟩
  have hq10 : q < 10 := by omega
  have hr10 : r < 10 := by omega
  rw [hq, hr]
  have hq1 : (n : Int) / 10 = (q : Int) := by omega
  have hq2 : IntKind.i64.wrap (q : Int) = (q : Int) := IntWalk.i64_in _ (by omega)
  have hr1 : (n : Int).tmod 10 = (r : Int) := by
    rw [Int.tmod_eq_emod_of_nonneg (Int.natCast_nonneg _)]
    omega
  have hr2 : IntKind.i64.wrap (48 + (r : Int)) = 48 + (r : Int) := IntWalk.i64_in _ (by omega)
  have hr3 : IntKind.u8.wrap (48 + (r : Int)) = 48 + (r : Int) := by
    show (48 + (r : Int)) % 256 = _
    omega
  have hc := fun W => digit_cells hr10 W
  have HC := Lib.hid fun W => rdig_one q hq10 W
  have hc2 := digit_kept hr10 (Below.refl (w.alloc (.cells #[.int .u8 (48 + (r : Int))] 5)).drew.heap.size (w.alloc (.cells #[.int .u8 (48 + (r : Int))] 5)).drew)
  have hcat : ∀ W' : World, (Op.stringOp .add ⟨#[UInt8.ofNat (48 + q)]⟩ ⟨#[UInt8.ofNat (48 + r)]⟩).run Tryz.prog W' = .ok (.string ⟨#[UInt8.ofNat (48 + q), UInt8.ofNat (48 + r)]⟩) W' := fun W' => run_string_add W' _ _ (by show (1 : Int) ≤ _; decide) (by show (1 : Int) ≤ _; decide)
  have Hn := Lib.hid h1
  have hni : ¬ ((n : Int) < 10) := by omega
  clear hq hr h1
  have HK := Lib.hid fun (W W' : World) (hb : Below (W.alloc (.cells #[.int .u8 (48 + (r : Int))] 5)).drew.heap.size (W.alloc (.cells #[.int .u8 (48 + (r : Int))] 5)).drew W') => digit_kept hr10 hb
  generalize (⟨#[UInt8.ofNat (48 + q), UInt8.ofNat (48 + r)]⟩ : ByteArray) = z at *
  generalize (⟨#[UInt8.ofNat (48 + q)]⟩ : ByteArray) = y at *
  generalize (⟨#[UInt8.ofNat (48 + r)]⟩ : ByteArray) = x at *
  go_enter Tryz.func95, Tryz.ntmps95
  go_wp2_with fail
  go_region_law (first
    | (rw [if_pos (by simp [Region.wanted])]; go_simp; go_at_call 95; (first | rw [hq2] | skip); refine (HC.out _).mono ?_; rintro e w5 ⟨rfl, hb5⟩; try have hk5 := HK.out _ _ hb5))
  all_goals
    go_wp2_with fail
    go_ret
    refine ⟨rfl, ?_⟩
    first
      | exact ((Below.refl w.heap.size w).drew.trans hb5).alloc hb5.size _
      | exact (((Below.refl w.heap.size w).alloc (Nat.le_refl _) (.cells #[.int .u8 (48 + (r : Int))] 5)).drew).trans (hb5.mono (by simp))
set_option maxRecDepth 100000 in
theorem rname_any (k : Nat) (hk : k < 100) (w : World) : Calls Tryz.prog 60 #[.int .i64 k] w fun e w' => e = .returned (.string (nameS k)) ∧ Below w.heap.size w w' := by
  have HI : Hid (Calls Tryz.prog 95 #[.int .i64 k] w fun e w' => e = .returned (.string ⟨(Lib.decDigits k).toArray⟩) ∧ Below w.heap.size w w') := Lib.hid (by
    by_cases h : k < 10
    · rw [Lib.decDigits_one h]
      exact rdig_one k h w
    · rw [Lib.decDigits_two h hk]
      exact rdig_two k (by omega) hk w)
  have Hn := Lib.hid (show nameS k = ⟨#[115, 101, 103, 45]⟩ ++ ⟨(Lib.decDigits k).toArray⟩ by
    apply ba_ext
    rw [ByteArray.data_append, Array.toList_append]
    rfl)
  have hq := (name_size (k := k) (by omega)).2
  rw [Hn.out, ByteArray.size_append] at hq
  have hq2 : (⟨(Lib.decDigits k).toArray⟩ : ByteArray).size ≤ 24 := by omega
  clear hq
  generalize (⟨(Lib.decDigits k).toArray⟩ : ByteArray) = q at *
  generalize nameS k = r at *
  go_enter Tryz.func60, Tryz.ntmps60
  go_wp2_with fail
  refine HI.out.mono ?_
  rintro e w1 ⟨rfl, hb1⟩
  go_wp2_with fail
  go_ret
  exact ⟨by rw [Hn.out]; rfl, hb1⟩
end Go.Proofs.YtgglheelhbfgiaaGreatDoor

namespace Go.Proofs.YtgglheelhbfgiaaGreatDoor
open Go Go.RowKit Go.Lib
/-- What is behind a frame. -/
def resB (d : ByteArray) : Option (List UInt8 × Nat) → ByteArray
  | none => noB
  | some x => mkB (d.data.toList.drop x.2)
theorem rr_new (w : World) (d : ByteArray) (hd : d.size ≤ 100000000) : RrAt (w.alloc (.cells #[.string d, .int .i64 0] 149)) w.heap.size ⟨0, d.data.toList⟩ := by
  have := VarAt.new w #[.string d, .int .i64 0] 149
  exact ⟨d, ⟨this.2.2 0 _ rfl, this.2.2 1 _ rfl, this.2.1, this.1⟩, hd, fun _ => rfl⟩
theorem rr_text {w : World} {b : Nat} {r : Rd} (h : RrAt w b r) (he : r.err = 0) : w.cell? ⟨b, 0, none⟩ = some (.string (mkB r.rest)) := by
  obtain ⟨d, hc, _, hr⟩ := h
  rw [hr he, show mkB d.data.toList = d from ba_ext rfl]
  exact hc.1
set_option maxRecDepth 100000 in
set_option maxHeartbeats 3200000 in
theorem rfirst_any (d : ByteArray) (n : Nat) (w : World) (hd : d.size ≤ 100000000) :
    Calls Tryz.prog 61 #[.string d, .int .i64 n] w fun e w' => e = .returned (.tuple #[.string (firB (firstL d.data.toList n)), .string (resB d (firstL d.data.toList n)), .bool (firstL d.data.toList n).isSome]) ∧ Below w.heap.size w w' := by
  have hR0 := rr_new w d hd
  have hB0 := (Below.refl w.heap.size w).alloc (Nat.le_refl _) (.cells #[.string d, .int .i64 0] 149)
  have hl : d.data.toList.length ≤ 100000000 := hd
  have hres : ∀ x, resB d (some x) = mkB (d.data.toList.drop x.2) := fun _ => rfl
  have hrn : resB d none = noB := rfl
  obtain ⟨W0, hW0⟩ : ∃ W0, w.alloc (.cells #[.string d, .int .i64 0] 149) = W0 := ⟨_, rfl⟩
  have HW0 := Lib.hid hW0
  rw [hW0] at hR0 hB0
  clear hW0
  have hs0 : w.heap.size < W0.heap.size := by rw [← HW0.out]; simp
  generalize resB d = res at *
  obtain ⟨l, hle⟩ : ∃ l, d.data.toList = l := ⟨_, rfl⟩
  rw [hle] at hl hR0 hres ⊢
  clear hle
  obtain ⟨f, hf⟩ : ∃ f, firstL l n = f := ⟨_, rfl⟩
  rw [hf]
  unfold firstL at hf
  obtain ⟨c1, q1⟩ : ∃ c r, Rd.num ⟨0, l⟩ = (c, r) ∧ r.rest.length ≤ 100000000 := ⟨_, _, rfl, Nat.le_trans (raw_restS ⟨0, l⟩) hl⟩
  obtain ⟨r1, hq1, hl1⟩ := q1
  obtain ⟨c2, q2⟩ : ∃ c r, Rd.text r1 = (c, r) ∧ c.length ≤ 100000000 := ⟨_, _, rfl, Nat.le_trans (text_restS r1).1 hl1⟩
  obtain ⟨r2, hq2, hl2⟩ := q2
  obtain ⟨c3, q3⟩ : ∃ c r, Rd.num ⟨0, c2⟩ = (c, r) ∧ r.rest.length ≤ 100000000 := ⟨_, _, rfl, Nat.le_trans (raw_restS ⟨0, c2⟩) hl2⟩
  obtain ⟨r3, hq3, hl3⟩ := q3
  obtain ⟨c4, q4⟩ : ∃ c r, Rd.text r3 = (c, r) ∧ c.length ≤ 100000000 := ⟨_, _, rfl, Nat.le_trans (text_restS r3).1 hl3⟩
  obtain ⟨r4, hq4, hl4⟩ := q4
  simp only [hq1, hq2, hq3, hq4] at hf
  have HN1 := Lib.hid fun W b (h : RrAt W b ⟨0, l⟩) => rNum_any b _ W h
  rw [hq1] at HN1
  have HT1 := Lib.hid fun W b (h : RrAt W b r1) => rText_any b _ W h
  rw [hq2] at HT1
  have HS := Lib.hid fun W => rsumB_any (mkB c2) W (by rw [mkB_size]; exact hl2)
  rw [show (mkB c2).data.toList = c2 from rfl] at HS
  have HR2 := Lib.hid fun W => rr_new W (mkB c2) (by rw [mkB_size]; exact hl2)
  rw [show (mkB c2).data.toList = c2 from rfl] at HR2
  have HN2 := Lib.hid fun W b (h : RrAt W b ⟨0, c2⟩) => rNum_any b _ W h
  rw [hq3] at HN2
  have HT2 := Lib.hid fun W b (h : RrAt W b r3) => rText_any b _ W h
  rw [hq4] at HT2
  have HE2 := Lib.hid fun W b (h : RrAt W b r4) => rEnd_any b _ W h
  have hback : r2.err = 0 → l = numL c1 ++ (textL c2 ++ r2.rest) := fun he => by
    have q1 : r1.err = 0 := Classical.byContradiction fun hq => by
      have := text_err hq
      rw [hq2] at this
      dsimp only at this
      rw [this] at he
      exact hq he
    have d1 := num_back hq1 q1
    have e1 : (⟨0, r1.rest⟩ : Rd) = r1 := (rd_ok q1).symm
    have d2 := text_back (l := r1.rest) (by rw [e1]; exact hq2) he
    rw [← d2]
    exact d1
  have Hback := Lib.hid hback
  simp only [show (⟨c2.toArray⟩ : ByteArray) = mkB c2 from rfl] at HT1
  simp only [show (⟨c4.toArray⟩ : ByteArray) = mkB c4 from rfl] at HT2
  have hz4 : (mkB c4).size = c4.length := mkB_size _
  have Hf := Lib.hid hf
  have Hres := Lib.hid hres
  have Hrn := Lib.hid hrn
  have HR0 := Lib.hid hR0
  have HB0 := Lib.hid hB0
  clear hf hl hl1 hl2 hl3 hq1 hq2 hq3 hq4 hback hres hrn hR0 hB0
  generalize hsm : sumC c2 = sm at *
  clear hsm
  obtain ⟨m4, hm4⟩ : ∃ m4, mkB c4 = m4 := ⟨_, rfl⟩
  have Hm4 := Lib.hid hm4
  rw [hm4] at HT2 hz4
  clear hm4
  generalize mkB c2 = m2 at *
  go_enter Tryz.func61, Tryz.ntmps61
  go_wp2_with fail
  rw [HW0.out]
  refine (HN1.out _ _ HR0.out).mono ?_
  rintro e w2 ⟨rfl, h2, hg2⟩
  have hb2w := HB0.out.grown hg2 HB0.out.size (fun j ej => by cases ej; exact Nat.le_refl _)
  clear hg2
  go_wp2_with fail
  refine (HT1.out _ _ h2).mono ?_
  rintro e w3 ⟨rfl, h3, hg3⟩
  have hb3w := hb2w.grown hg3 hb2w.size (fun j ej => by cases ej; exact Nat.le_refl _)
  clear h2 hg3 hb2w
  have ce := rrCell h3
  by_cases he : r2.err = 0
  · rw [he] at ce
    have Hf2 := Lib.hid he
    have H3 := Lib.hid h3
    have Hlt3 := Lib.hid h3.lt
    have Hb3w := Lib.hid hb3w
    clear he h3 hb3w
    go_wp2_with fail
    refine (HS.out _).mono ?_
    rintro e w4 ⟨rfl, hb4⟩
    have Hb4 := Lib.hid hb4
    have Hb4w := Lib.hid (Hb3w.out.trans (hb4.mono Hb3w.out.size))
    clear hb4
    by_cases hs : c1 = (sm : Int)
    · have e1 := eq_int hs
      have Hf3 := Lib.hid (Hf.out.symm.trans (if_neg fun h => h.elim (fun h => h Hf2.out) (fun h => h hs)))
      have h5 := HR2.out w4
      have hb5 := (Below.refl w4.heap.size w4).alloc (Nat.le_refl _) (.cells #[.string m2, .int .i64 0] 149)
      have Hb5w := Lib.hid (Hb4w.out.trans (hb5.mono Hb4w.out.size))
      have H5 := Lib.hid h5
      have Hr5 := Lib.hid ((H3.out.keeps Hb4.out Hlt3.out).keeps hb5 (Nat.lt_of_lt_of_le Hlt3.out Hb4.out.size))
      have Hlt4 := Lib.hid (Nat.lt_of_lt_of_le Hlt3.out Hb4.out.size)
      obtain ⟨B2, hB2⟩ : ∃ B2, w4.heap.size = B2 := ⟨_, rfl⟩
      have HB2 := Lib.hid hB2
      obtain ⟨W5, hW5⟩ : ∃ W5, w4.alloc (.cells #[.string m2, .int .i64 0] 149) = W5 := ⟨_, rfl⟩
      have HW5 := Lib.hid hW5
      rw [hW5] at Hb5w H5 Hr5
      rw [hB2] at H5 Hlt4
      clear hs h5 hb5 hB2 hW5
      go_wp2_with fail
      rw [HW5.out, HB2.out]
      refine (HN2.out _ _ H5.out).mono ?_
      rintro e w6 ⟨rfl, h6, hg6⟩
      have Hb6w := Lib.hid (Hb5w.out.grown hg6 Hb5w.out.size (fun j ej => by cases ej; exact Nat.le_of_lt Hlt4.out))
      have hne : some w.heap.size ≠ some B2 := fun e => by
        have := Hlt4.out
        cases e
        omega
      have Hr6 := Lib.hid (show RrAt w6 w.heap.size r2 from by
        obtain ⟨dd, ⟨k0, k1, k2, k3⟩, k4⟩ := Hr5.out
        exact ⟨dd, ⟨(cell_same (hg6.block _ k3 hne) 0).trans k0, (cell_same (hg6.block _ k3 hne) 1).trans k1, fun i => (frozen_same (hg6.block _ k3 hne) i).trans (k2 i), Nat.lt_of_lt_of_le k3 hg6.size⟩, k4⟩)
      clear hg6
      go_wp2_with fail
      refine (HT2.out _ _ h6).mono ?_
      rintro e w7 ⟨rfl, h7, hg7⟩
      have Hb7w := Lib.hid (Hb6w.out.grown hg7 Hb6w.out.size (fun j ej => by cases ej; exact Nat.le_of_lt Hlt4.out))
      have Hr7 := Lib.hid (show RrAt w7 w.heap.size r2 from by
        obtain ⟨dd, ⟨k0, k1, k2, k3⟩, k4⟩ := Hr6.out
        exact ⟨dd, ⟨(cell_same (hg7.block _ k3 hne) 0).trans k0, (cell_same (hg7.block _ k3 hne) 1).trans k1, fun i => (frozen_same (hg7.block _ k3 hne) i).trans (k2 i), Nat.lt_of_lt_of_le k3 hg7.size⟩, k4⟩)
      clear hg7 h6 hne
      go_wp2_with fail
      refine (HE2.out _ _ h7).mono ?_
      rintro e w8 ⟨rfl, hw8⟩
      rw [hw8]
      clear hw8 h7
      have ct := rr_text Hr7.out Hf2.out
      by_cases hfin : r4.fin = 0
      · rw [hfin]
        have Hfin := Lib.hid hfin
        clear hfin
        by_cases hk : c3 = (n : Int)
        · have e2 := eq_int hk
          have Hk := Lib.hid hk
          clear hk
          by_cases hro : recOk c4 = true
          · have Hf4 := Lib.hid (Hf3.out.trans (if_neg fun h => h.elim (fun h => h Hfin.out) fun h => h.elim (fun h => h Hk.out) fun h => by rw [hro] at h; cases h))
            have hrr : 1 ≤ c4.length ∧ c4.length ≤ 2000 := by simpa [recOk] using hro
            have s1 : ¬ ((m4.size : Int) < 1) := by omega
            have s2 : ¬ ((2000 : Int) < (m4.size : Int)) := by omega
            have s3 : decide ((m4.size : Int) < 1) = false := decide_eq_false s1
            have s4 : decide ((2000 : Int) < (m4.size : Int)) = false := decide_eq_false s2
            have Hd := Lib.hid (show mkB (l.drop ((numL c1).length + (textL c2).length)) = mkB r2.rest by
              congr 1
              rw [Hback.out Hf2.out, ← List.append_assoc, ← List.length_append, List.drop_left])
            clear hro hrr hz4
            go_wp2_with fail
            go_quiet (fail)
            go_wp2_with fail
            go_ret3
            refine ⟨?_, belowDrew Hb7w.out nq⟩
            rw [Hf4.out, Hres.out]
            show _ = Ending.returned (.tuple #[.string (mkB c4), .string (mkB (l.drop ((numL c1).length + (textL c2).length))), .bool true])
            rw [Hm4.out, Hd.out]
            rfl
          · have hrf : recOk c4 = false := by simpa using hro
            have Hf4 := Lib.hid (Hf3.out.trans (if_pos (.inr (.inr hrf))))
            have hrr : c4.length < 1 ∨ 2000 < c4.length := by
              rcases Nat.lt_or_ge c4.length 1 with h | h
              · exact .inl h
              · rcases Nat.lt_or_ge 2000 c4.length with h2 | h2
                · exact .inr h2
                · exact absurd (show recOk c4 = true by simp [recOk]; omega) hro
            clear hro hrf
            rcases hrr with h | h
            · have s1 : (m4.size : Int) < 1 := by omega
              clear h hz4
              go_wp2_with fail
              go_ret3
              exact ⟨by rw [Hf4.out, Hrn.out]; rfl, Hb7w.out⟩
            · have s1 : ¬ ((m4.size : Int) < 1) := by omega
              have s2 : (2000 : Int) < (m4.size : Int) := by omega
              clear h hz4
              go_wp2_with fail
              go_ret3
              exact ⟨by rw [Hf4.out, Hrn.out]; rfl, Hb7w.out⟩
        · have e2 := neq_int hk
          have Hf4 := Lib.hid (Hf3.out.trans (if_pos (.inr (.inl hk))))
          clear hk
          go_wp2_with fail
          go_ret3
          exact ⟨by rw [Hf4.out, Hrn.out]; rfl, Hb7w.out⟩
      · have e2 := neq_int hfin
        have Hf4 := Lib.hid (Hf3.out.trans (if_pos (.inl hfin)))
        clear hfin
        go_wp2_with fail
        go_ret3
        exact ⟨by rw [Hf4.out, Hrn.out]; rfl, Hb7w.out⟩
    · have e1 := neq_int hs
      have Hf3 := Lib.hid (Hf.out.symm.trans (if_pos (.inr hs)))
      clear hs
      go_wp2_with fail
      go_ret3
      exact ⟨by rw [Hf3.out, Hrn.out]; rfl, Hb4w.out⟩
  · have e1 := neq_int he
    have Hf3 := Lib.hid (Hf.out.symm.trans (if_pos (.inl he)))
    clear he
    go_wp2_with fail
    go_ret3
    exact ⟨by rw [Hf3.out, Hrn.out]; rfl, hb3w⟩
end Go.Proofs.YtgglheelhbfgiaaGreatDoor

