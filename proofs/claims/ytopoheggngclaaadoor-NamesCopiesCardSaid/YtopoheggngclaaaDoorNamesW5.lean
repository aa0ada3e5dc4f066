import Derived.Test.YtopoheggngclaaaDoorNamesW4
import Derived.WalkSmall
namespace Go.Proofs.YtopoheggngclaaaDoor
open Go.RowKit Go.Lib

theorem below_grow {B : Nat} {w : World} (os : Array Obj) (hB : B ≤ w.heap.size) : Below B w (Go.Sort.grow w os) :=
  ⟨rfl, rfl, rfl, by simp [Go.Sort.grow], fun k hk => by simp only [Go.Sort.grow]; rw [Array.getElem?_append_left (by omega)]⟩
def Tab (w : World) : Prop := Lib.TabIs Tryd.prog w "internal/strconv.uint64pow10" .u64 Lib.pow10Tab
theorem var?_keeps {P : Program} {W W' : World} {n : String} {cs : Array Value} (h : Below W.heap.size W W') (hv : W.var? P n = some cs) : W'.var? P n = some cs := by
  unfold World.var? at hv ⊢
  cases hg : P.globalNamed n with
  | none => simp [hg] at hv
  | some g =>
    simp only [hg, Option.bind_some] at hv ⊢
    have hlt : g < W.heap.size := by
      rcases Nat.lt_or_ge g W.heap.size with h' | h'
      · exact h'
      · rw [Array.getElem?_eq_none h'] at hv; simp at hv
    rw [h.block g hlt]
    exact hv
theorem Tab.keeps {W W' : World} (h : Tab W) (hb : Below W.heap.size W W') : Tab W' := var?_keeps hb h

theorem itoa_call (n : Int) (h0 : 0 ≤ n) (h1 : n ≤ 9999) (w : World) (ht : Tab w) :
    Calls Tryd.prog 31 #[.int .i64 n] w fun e w' => e = .returned (.string ⟨(decDigits n.toNat).toArray⟩) ∧ Below w.heap.size w w' :=
  (Tryd.strconv_Itoa n (by omega) (by omega) w ht).mono fun e w' ⟨he, k, os, hw⟩ => ⟨by rw [he]; unfold Lib.itoa; rw [if_neg (by omega)], by
    rw [hw]; exact (below_drewN (Below.refl _ _) k).trans (below_grow os (by simp [World.drewN]))⟩

set_option maxRecDepth 100000 in
set_option maxHeartbeats 800000 in
/-- The walk of Copy at a right name and number, where the ending is kept. -/
theorem copy_with (s x d st : ByteArray) (n : Int) (w : World) (hn3 : 1 ≤ n) (hn4 : n ≤ 9999) (hxx : x.size ≤ 7) (hbx : x.toList.isEmpty = false) (hdd : d.size ≤ 4) (hst : st.size ≤ 24)
    (HR : Hid (∀ W, Calls Tryd.prog 10 #[.string s] W fun e w' => e = .returned (.int .i64 0) ∧ ∃ n, w' = W.drewN n))
    (HI : Hid (∀ k, Calls Tryd.prog 31 #[.int .i64 n] (w.drewN k) fun e w' => e = .returned (.string d) ∧ Below (w.drewN k).heap.size (w.drewN k) w'))
    (HX : Hid (∀ W, Calls Tryd.prog 13 #[.string s] W fun e w' => e = .returned (.string x) ∧ W = w'))
    (HT : Hid (∀ W, Calls Tryd.prog 32 #[.string s, .string (⟨#[46]⟩ ++ x)] W fun e w' => e = .returned (.string st) ∧ W = w')) :
    Calls Tryd.prog 15 #[.string s, .int .i64 n] w fun e w' => e = .returned (.tuple #[.string (st.extract 0 (min (st.size : Int) (24 - (1 + d.size + (1 + x.size)))).toNat ++ (⟨#[126]⟩ ++ d ++ (⟨#[46]⟩ ++ x))), .int .i64 0]) ∧ Below w.heap.size w w' := by
  go_enter Tryd.func15, Tryd.ntmps15
  go_wp2_with fail
  refine (HR.out _).mono ?_
  rintro e w' ⟨rfl, k, rfl⟩
  go_wp2_with fail
  refine (HI.out _).mono ?_
  rintro e w1 ⟨rfl, hb1⟩
  go_wp2_with fail
  refine (HX.out _).mono ?_
  rintro e w' ⟨rfl, rfl⟩
  go_wp2_with fail
  refine (HT.out _).mono ?_
  rintro e w' ⟨rfl, rfl⟩
  go_wp2_with fail
  go_ret2
  exact ⟨rfl, (below_drewN (Below.refl _ _) _).trans hb1⟩

set_option maxRecDepth 100000 in
set_option maxHeartbeats 800000 in
/-- .. and where the name has no ending. -/
theorem copy_bare (s x d : ByteArray) (n : Int) (w : World) (hn3 : 1 ≤ n) (hn4 : n ≤ 9999) (hbx : x.toList.isEmpty = true) (hdd : d.size ≤ 4) (hst : s.size ≤ 24)
    (HR : Hid (∀ W, Calls Tryd.prog 10 #[.string s] W fun e w' => e = .returned (.int .i64 0) ∧ ∃ n, w' = W.drewN n))
    (HI : Hid (∀ k, Calls Tryd.prog 31 #[.int .i64 n] (w.drewN k) fun e w' => e = .returned (.string d) ∧ Below (w.drewN k).heap.size (w.drewN k) w'))
    (HX : Hid (∀ W, Calls Tryd.prog 13 #[.string s] W fun e w' => e = .returned (.string x) ∧ W = w')) :
    Calls Tryd.prog 15 #[.string s, .int .i64 n] w fun e w' => e = .returned (.tuple #[.string (s.extract 0 (min (s.size : Int) (24 - (1 + d.size))).toNat ++ (⟨#[126]⟩ ++ d)), .int .i64 0]) ∧ Below w.heap.size w w' := by
  go_enter Tryd.func15, Tryd.ntmps15
  go_wp2_with fail
  refine (HR.out _).mono ?_
  rintro e w' ⟨rfl, k, rfl⟩
  go_wp2_with fail
  refine (HI.out _).mono ?_
  rintro e w1 ⟨rfl, hb1⟩
  go_wp2_with fail
  refine (HX.out _).mono ?_
  rintro e w' ⟨rfl, rfl⟩
  go_wp2_with fail
  go_ret2
  exact ⟨rfl, (below_drewN (Below.refl _ _) _).trans hb1⟩

set_option maxRecDepth 100000 in
set_option maxHeartbeats 800000 in
/-- .. and where the ending is too long. -/
theorem copy_long (s x d : ByteArray) (n : Int) (w : World) (hn3 : 1 ≤ n) (hn4 : n ≤ 9999) (hbx : x.toList.isEmpty = false) (hxx : 7 < (x.size : Int)) (hdd : d.size ≤ 4) (hst : s.size ≤ 24)
    (HR : Hid (∀ W, Calls Tryd.prog 10 #[.string s] W fun e w' => e = .returned (.int .i64 0) ∧ ∃ n, w' = W.drewN n))
    (HI : Hid (∀ k, Calls Tryd.prog 31 #[.int .i64 n] (w.drewN k) fun e w' => e = .returned (.string d) ∧ Below (w.drewN k).heap.size (w.drewN k) w'))
    (HX : Hid (∀ W, Calls Tryd.prog 13 #[.string s] W fun e w' => e = .returned (.string x) ∧ W = w')) :
    Calls Tryd.prog 15 #[.string s, .int .i64 n] w fun e w' => e = .returned (.tuple #[.string (s.extract 0 (min (s.size : Int) (24 - (1 + d.size))).toNat ++ (⟨#[126]⟩ ++ d)), .int .i64 0]) ∧ Below w.heap.size w w' := by
  go_enter Tryd.func15, Tryd.ntmps15
  go_wp2_with fail
  refine (HR.out _).mono ?_
  rintro e w' ⟨rfl, k, rfl⟩
  go_wp2_with fail
  refine (HI.out _).mono ?_
  rintro e w1 ⟨rfl, hb1⟩
  go_wp2_with fail
  refine (HX.out _).mono ?_
  rintro e w' ⟨rfl, rfl⟩
  go_wp2_with fail
  go_ret2
  exact ⟨rfl, (below_drewN (Below.refl _ _) _).trans hb1⟩

set_option maxRecDepth 100000 in
set_option maxHeartbeats 800000 in
theorem rcopy_with (s x d : ByteArray) (n : Int) (w : World) (hn3 : 1 ≤ n) (hn4 : n ≤ 9999) (hxx : x.size ≤ 7) (hbx : 1 ≤ (x.size : Int)) (hst : s.size ≤ 24) (hsx : x.size + 1 ≤ s.size)
    (HR : Hid (∀ W, Calls Tryd.prog 11 #[.string s] W fun e w' => e = .returned (.int .i64 0) ∧ W = w'))
    (HX : Hid (∀ W, Calls Tryd.prog 14 #[.string s] W fun e w' => e = .returned (.string x) ∧ W = w'))
    (HI : Hid (∀ W, Calls Tryd.prog 33 #[.int .i64 n] W fun e w' => ∃ t : ByteArray, e = .returned (.string t) ∧ t.size ≤ 4 ∧ Hid (t = d) ∧ Below W.heap.size W w')) :
    Calls Tryd.prog 16 #[.string s, .int .i64 n] w fun e w' => e = .returned (.tuple #[.string ((s.extract 0 (s.size - (1 + x.size))).extract 0 (min ((s.size - (1 + x.size) : Nat) : Int) (24 - (1 + d.size + (1 + x.size)))).toNat ++ (⟨#[126]⟩ ++ d ++ (⟨#[46]⟩ ++ x))), .int .i64 0]) ∧ Below w.heap.size w w' := by
  go_enter Tryd.func16, Tryd.ntmps16
  go_wp2_with fail
  refine (HR.out _).mono ?_
  rintro e w' ⟨rfl, rfl⟩
  go_wp2_with fail
  refine (HX.out _).mono ?_
  rintro e w' ⟨rfl, rfl⟩
  go_wp2_with fail
  refine (HI.out _).mono ?_
  rintro e w1 ⟨t, rfl, ht, Ht, hb1⟩
  go_wp2_with fail
  go_ret2
  rw [← Ht.out]
  exact ⟨rfl, hb1⟩

set_option maxRecDepth 100000 in
set_option maxHeartbeats 800000 in
theorem rcopy_bare (s x d : ByteArray) (n : Int) (w : World) (hn3 : 1 ≤ n) (hn4 : n ≤ 9999) (hbx : (x.size : Int) < 1) (hst : s.size ≤ 24)
    (HR : Hid (∀ W, Calls Tryd.prog 11 #[.string s] W fun e w' => e = .returned (.int .i64 0) ∧ W = w'))
    (HX : Hid (∀ W, Calls Tryd.prog 14 #[.string s] W fun e w' => e = .returned (.string x) ∧ W = w'))
    (HI : Hid (∀ W, Calls Tryd.prog 33 #[.int .i64 n] W fun e w' => ∃ t : ByteArray, e = .returned (.string t) ∧ t.size ≤ 4 ∧ Hid (t = d) ∧ Below W.heap.size W w')) :
    Calls Tryd.prog 16 #[.string s, .int .i64 n] w fun e w' => e = .returned (.tuple #[.string (s.extract 0 (min (s.size : Int) (24 - (1 + d.size))).toNat ++ (⟨#[126]⟩ ++ d ++ ⟨#[]⟩)), .int .i64 0]) ∧ Below w.heap.size w w' := by
  go_enter Tryd.func16, Tryd.ntmps16
  go_wp2_with fail
  refine (HR.out _).mono ?_
  rintro e w' ⟨rfl, rfl⟩
  go_wp2_with fail
  refine (HX.out _).mono ?_
  rintro e w' ⟨rfl, rfl⟩
  go_wp2_with fail
  refine (HI.out _).mono ?_
  rintro e w1 ⟨t, rfl, ht, Ht, hb1⟩
  go_wp2_with fail
  go_ret2
  rw [← Ht.out]
  exact ⟨rfl, hb1⟩

set_option maxRecDepth 100000 in
set_option maxHeartbeats 800000 in
theorem rcopy_long (s x d : ByteArray) (n : Int) (w : World) (hn3 : 1 ≤ n) (hn4 : n ≤ 9999) (hbx : 1 ≤ (x.size : Int)) (hxx : 7 < (x.size : Int)) (hst : s.size ≤ 24)
    (HR : Hid (∀ W, Calls Tryd.prog 11 #[.string s] W fun e w' => e = .returned (.int .i64 0) ∧ W = w'))
    (HX : Hid (∀ W, Calls Tryd.prog 14 #[.string s] W fun e w' => e = .returned (.string x) ∧ W = w'))
    (HI : Hid (∀ W, Calls Tryd.prog 33 #[.int .i64 n] W fun e w' => ∃ t : ByteArray, e = .returned (.string t) ∧ t.size ≤ 4 ∧ Hid (t = d) ∧ Below W.heap.size W w')) :
    Calls Tryd.prog 16 #[.string s, .int .i64 n] w fun e w' => e = .returned (.tuple #[.string (s.extract 0 (min (s.size : Int) (24 - (1 + d.size))).toNat ++ (⟨#[126]⟩ ++ d ++ ⟨#[]⟩)), .int .i64 0]) ∧ Below w.heap.size w w' := by
  go_enter Tryd.func16, Tryd.ntmps16
  go_wp2_with fail
  refine (HR.out _).mono ?_
  rintro e w' ⟨rfl, rfl⟩
  go_wp2_with fail
  refine (HX.out _).mono ?_
  rintro e w' ⟨rfl, rfl⟩
  go_wp2_with fail
  refine (HI.out _).mono ?_
  rintro e w1 ⟨t, rfl, ht, Ht, hb1⟩
  go_wp2_with fail
  go_ret2
  rw [← Ht.out]
  exact ⟨rfl, hb1⟩

end Go.Proofs.YtopoheggngclaaaDoor
