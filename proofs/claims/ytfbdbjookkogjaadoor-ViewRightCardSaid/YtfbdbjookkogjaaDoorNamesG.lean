/-
  
-/
import Derived.Test.YtfbdbjookkogjaaDoorNamesW3
import Derived.Deep.RegionWith
import Derived.Laws.BytesArg
import Derived.IntWalk
import Derived.WalkSmall
import Derived.Test.YtfbdbjookkogjaaDoorNamesW2
import Derived.Test.YtfbdbjookkogjaaDoorSlices
import Derived.Test.YtfbdbjookkogjaaDoorNamesPure
import Derived.Test.YtfbdbjookkogjaaDoorMaps
import Derived.Maps.AppendAt
namespace Go.Proofs.YtfbdbjookkogjaaDoor
open Go.RowKit Go.Lib

theorem conv_at (z : Int) (b : Nat) (W : World) (hc : W.cell? ⟨b, 0, none⟩ = some (.int .u8 z)) :
    Sem.run Tryd.prog (convert 125 9 (.slice (some ⟨b, 0, none⟩) 1 1)) W = .ok (.string ⟨#[UInt8.ofNat z.toNat]⟩) W := by
  have h := run_convert_bytes_arg (P := Tryd.prog) W 125 5 Tryd.underlying125 Tryd.underlying5 b 0 1 1 [z] rfl
    (fun i hi => by
      obtain rfl : i = 0 := by omega
      simpa using hc) 9 Tryd.underlying9
  rw [h]
  simp [strOfNums]
theorem bcell {W w1 : World} (hb : Below W.heap.size W w1) : (∀ b o, b < W.heap.size → w1.cell? ⟨b, o, none⟩ = W.cell? ⟨b, o, none⟩) ∧ (∀ b o, b < W.heap.size → w1.frozen? ⟨b, o, none⟩ = W.frozen? ⟨b, o, none⟩) :=
  ⟨fun b o h => hb.cell (p := ⟨b, o, none⟩) h, fun b o h => hb.frozen (p := ⟨b, o, none⟩) h⟩
theorem conv_one (z : Int) (W : World) :
    Sem.run Tryd.prog (convert 125 9 (.slice (some ⟨W.heap.size, 0, none⟩) 1 1)) (W.alloc (.cells #[.int .u8 z] 5)) = .ok (.string ⟨#[UInt8.ofNat z.toNat]⟩) (W.alloc (.cells #[.int .u8 z] 5)) := by
  have h := run_convert_bytes_arg (P := Tryd.prog) (W.alloc (.cells #[.int .u8 z] 5)) 125 5 Tryd.underlying125 Tryd.underlying5 W.heap.size 0 1 1 [z] rfl
    (fun i hi => by
      obtain rfl : i = 0 := by omega
      simp) 9 Tryd.underlying9
  rw [h]
  simp [strOfNums]

theorem decDigits_len {u : Nat} (h : u < 10000) : (decDigits u).length ≤ 4 := by
  rw [decDigits]
  split
  · simp
  rw [decDigits]
  split
  · simp
  rw [decDigits]
  split
  · simp
  rw [decDigits]
  split
  · simp
  omega

set_option maxRecDepth 100000 in
set_option maxHeartbeats 800000 in
theorem digits_any (m : Nat) : ∀ (n : Int) (w : World), n ≤ m → 0 ≤ n → n ≤ 9999 →
    Calls Tryd.prog 83 #[.int .i64 n] w fun e w' => ∃ t : ByteArray, e = .returned (.string t) ∧ t.size ≤ 4 ∧ Hid (t = ⟨(decDigits n.toNat).toArray⟩) ∧ Below w.heap.size w w' := by
  have hconv := conv_one
  induction m with
  | zero =>
    intro n w hm h0 hn
    obtain rfl : n = 0 := by omega
    go_enter Tryd.func83, Tryd.ntmps83
    go_wp2_with fail
    go_ret
    exact ⟨_, rfl, by decide, (by decide +kernel : _ = _), (Below.refl _ _).alloc (Nat.le_refl _) _⟩
  | succ m ih =>
    intro n w hm h0 hn
    by_cases h : n < 10
    · have Hd : Hid (decDigits n.toNat = [UInt8.ofNat (48 + n).toNat]) := by
        show decDigits n.toNat = _
        rw [decDigits_one (by omega), Int.toNat_add (by omega) (by omega)]
        rfl
      go_enter Tryd.func83, Tryd.ntmps83
      go_wp2_with fail
      go_ret
      exact ⟨_, rfl, by rw [size_eq]; simp, (by rw [Hd.out] : _ = _), (Below.refl _ _).alloc (Nat.le_refl _) _⟩
    · have Hfin : Hid (∀ t : ByteArray, t = ⟨(decDigits (n / 10).toNat).toArray⟩ → t ++ ⟨#[UInt8.ofNat (48 + n % 10).toNat]⟩ = ⟨(decDigits n.toNat).toArray⟩) := by
        intro t ht
        rw [ht]
        conv => rhs; rw [decDigits, dif_neg (by omega)]
        rw [show (n / 10).toNat = n.toNat / 10 from by omega, show (48 + n % 10).toNat = 48 + n.toNat % 10 from by omega]
        apply ByteArray.ext
        simp
      have Hlen := Lib.hid (decDigits_len (u := n.toNat) (by omega))
      go_enter Tryd.func83, Tryd.ntmps83
      have Hih := Lib.hid ih
      clear ih
      go_wp2_with fail
      have e1 : n.tdiv 10 = n / 10 := Int.tdiv_eq_ediv_of_nonneg h0
      have e2 : n.tmod 10 = n % 10 := Int.tmod_eq_emod_of_nonneg h0
      have e3 : IntKind.i64.wrap (n / 10) = n / 10 := IntWalk.i64_in _ (by omega)
      have e4 : IntKind.i64.wrap (48 + n % 10) = 48 + n % 10 := IntWalk.i64_in _ (by omega)
      have e5 : IntKind.u8.wrap (48 + n % 10) = 48 + n % 10 := by rw [IntKind.wrap_u8]; omega
      have hc2 := conv_at (48 + n % 10)
      go_region_with (go_at_call 83; refine (Hih.out (n / 10) _ (by omega) (by omega) (by omega)).mono ?_; rintro e w' ⟨t, rfl, hts, Ht, hb⟩; obtain ⟨hcl, hfz⟩ := bcell hb; (try simp only [World.size_alloc, World.size_drew] at hcl hfz))
      all_goals
        go_wp2
        go_ret
        have hfin := Hfin.out _ Ht.out
        refine ⟨_, rfl, by rw [hfin, size_mk]; exact Hlen.out, hfin, ?_⟩
        first
          | exact (((Below.refl _ _).drew).alloc (Nat.le_refl _) _).trans (hb.mono (by simp))
          | exact ((Below.refl _ _).drew.trans (hb.mono (by simp))).alloc (by have := hb.size; simpa using this) _
          | skip
end Go.Proofs.YtfbdbjookkogjaaDoor

namespace Go.Proofs.YtfbdbjookkogjaaDoor
open Go.RowKit Go.Lib

theorem below_grow {B : Nat} {w : World} (os : Array Obj) (hB : B ≤ w.heap.size) : Below B w (Go.Sort.grow w os) :=
  ⟨rfl, rfl, rfl, by simp [Go.Sort.grow], fun k hk => by simp only [Go.Sort.grow]; rw [Array.getElem?_append_left (by omega)]⟩
def Tab (w : World) : Prop := Lib.TabIs Tryd.prog w "internal/strconv.uint64pow10" .u64 Lib.pow10Tab
theorem var?_keeps {P : Program} {W W' : World} {n : String} {cs : Array Value} (h : Below W.heap.size W W') (hv : W.var? P n = some cs) : W'.var? P n = some cs := by
  unfold World.var? at hv ⊢
  cases hg : P.globalNamed n with
  | none => simp [hg] at hv
  | some g =>
    simp only [hg, Option.bind_some] at hv ⊢
    have hlt : g < W.heap.size := by
      rcases Nat.lt_or_ge g W.heap.size with h' | h'
      · exact h'
      · rw [Array.getElem?_eq_none h'] at hv; simp at hv
    rw [h.block g hlt]
    exact hv
theorem Tab.keeps {W W' : World} (h : Tab W) (hb : Below W.heap.size W W') : Tab W' := var?_keeps hb h

theorem itoa_call (n : Int) (h0 : 0 ≤ n) (h1 : n ≤ 9999) (w : World) (ht : Tab w) :
    Calls Tryd.prog 78 #[.int .i64 n] w fun e w' => e = .returned (.string ⟨(decDigits n.toNat).toArray⟩) ∧ Below w.heap.size w w' :=
  (Tryd.strconv_Itoa n (by omega) (by omega) w ht).mono fun e w' ⟨he, k, os, hw⟩ => ⟨by rw [he]; unfold Lib.itoa; rw [if_neg (by omega)], by
    rw [hw]; exact (below_drewN (Below.refl _ _) k).trans (below_grow os (by simp [World.drewN]))⟩

set_option maxRecDepth 100000 in
set_option maxHeartbeats 800000 in
/-- The walk of Copy at a right name and number, where the ending is kept. -/
theorem copy_with (s x d st : ByteArray) (n : Int) (w : World) (hn3 : 1 ≤ n) (hn4 : n ≤ 9999) (hxx : x.size ≤ 7) (hbx : x.toList.isEmpty = false) (hdd : d.size ≤ 4) (hst : st.size ≤ 24)
    (HR : Hid (∀ W, Calls Tryd.prog 24 #[.string s] W fun e w' => e = .returned (.int .i64 0) ∧ ∃ n, w' = W.drewN n))
    (HI : Hid (∀ k, Calls Tryd.prog 78 #[.int .i64 n] (w.drewN k) fun e w' => e = .returned (.string d) ∧ Below (w.drewN k).heap.size (w.drewN k) w'))
    (HX : Hid (∀ W, Calls Tryd.prog 79 #[.string s] W fun e w' => e = .returned (.string x) ∧ W = w'))
    (HT : Hid (∀ W, Calls Tryd.prog 80 #[.string s, .string (⟨#[46]⟩ ++ x)] W fun e w' => e = .returned (.string st) ∧ W = w')) :
    Calls Tryd.prog 64 #[.string s, .int .i64 n] w fun e w' => e = .returned (.tuple #[.string (st.extract 0 (min (st.size : Int) (24 - (1 + d.size + (1 + x.size)))).toNat ++ (⟨#[126]⟩ ++ d ++ (⟨#[46]⟩ ++ x))), .int .i64 0]) ∧ Below w.heap.size w w' := by
  go_enter Tryd.func64, Tryd.ntmps64
  go_wp2_with fail
  refine (HR.out _).mono ?_
  rintro e w' ⟨rfl, k, rfl⟩
  go_wp2_with fail
  refine (HI.out _).mono ?_
  rintro e w1 ⟨rfl, hb1⟩
  go_wp2_with fail
  refine (HX.out _).mono ?_
  rintro e w' ⟨rfl, rfl⟩
  go_wp2_with fail
  refine (HT.out _).mono ?_
  rintro e w' ⟨rfl, rfl⟩
  go_wp2_with fail
  go_ret2
  exact ⟨rfl, (below_drewN (Below.refl _ _) _).trans hb1⟩

set_option maxRecDepth 100000 in
set_option maxHeartbeats 800000 in
/-- .. and where the name has no ending. -/
theorem copy_bare (s x d : ByteArray) (n : Int) (w : World) (hn3 : 1 ≤ n) (hn4 : n ≤ 9999) (hbx : x.toList.isEmpty = true) (hdd : d.size ≤ 4) (hst : s.size ≤ 24)
    (HR : Hid (∀ W, Calls Tryd.prog 24 #[.string s] W fun e w' => e = .returned (.int .i64 0) ∧ ∃ n, w' = W.drewN n))
    (HI : Hid (∀ k, Calls Tryd.prog 78 #[.int .i64 n] (w.drewN k) fun e w' => e = .returned (.string d) ∧ Below (w.drewN k).heap.size (w.drewN k) w'))
    (HX : Hid (∀ W, Calls Tryd.prog 79 #[.string s] W fun e w' => e = .returned (.string x) ∧ W = w')) :
    Calls Tryd.prog 64 #[.string s, .int .i64 n] w fun e w' => e = .returned (.tuple #[.string (s.extract 0 (min (s.size : Int) (24 - (1 + d.size))).toNat ++ (⟨#[126]⟩ ++ d)), .int .i64 0]) ∧ Below w.heap.size w w' := by
  go_enter Tryd.func64, Tryd.ntmps64
  go_wp2_with fail
  refine (HR.out _).mono ?_
  rintro e w' ⟨rfl, k, rfl⟩
  go_wp2_with fail
  refine (HI.out _).mono ?_
  rintro e w1 ⟨rfl, hb1⟩
  go_wp2_with fail
  refine (HX.out _).mono ?_
  rintro e w' ⟨rfl, rfl⟩
  go_wp2_with fail
  go_ret2
  exact ⟨rfl, (below_drewN (Below.refl _ _) _).trans hb1⟩

set_option maxRecDepth 100000 in
set_option maxHeartbeats 800000 in
/-- .. and where the ending is too long. -/
theorem copy_long (s x d : ByteArray) (n : Int) (w : World) (hn3 : 1 ≤ n) (hn4 : n ≤ 9999) (hbx : x.toList.isEmpty = false) (hxx : 7 < (x.size : Int)) (hdd : d.size ≤ 4) (hst : s.size ≤ 24)
    (HR : Hid (∀ W, Calls Tryd.prog 24 #[.string s] W fun e w' => e = .returned (.int .i64 0) ∧ ∃ n, w' = W.drewN n))
    (HI : Hid (∀ k, Calls Tryd.prog 78 #[.int .i64 n] (w.drewN k) fun e w' => e = .returned (.string d) ∧ Below (w.drewN k).heap.size (w.drewN k) w'))
    (HX : Hid (∀ W, Calls Tryd.prog 79 #[.string s] W fun e w' => e = .returned (.string x) ∧ W = w')) :
    Calls Tryd.prog 64 #[.string s, .int .i64 n] w fun e w' => e = .returned (.tuple #[.string (s.extract 0 (min (s.size : Int) (24 - (1 + d.size))).toNat ++ (⟨#[126]⟩ ++ d)), .int .i64 0]) ∧ Below w.heap.size w w' := by
  go_enter Tryd.func64, Tryd.ntmps64
  go_wp2_with fail
  refine (HR.out _).mono ?_
  rintro e w' ⟨rfl, k, rfl⟩
  go_wp2_with fail
  refine (HI.out _).mono ?_
  rintro e w1 ⟨rfl, hb1⟩
  go_wp2_with fail
  refine (HX.out _).mono ?_
  rintro e w' ⟨rfl, rfl⟩
  go_wp2_with fail
  go_ret2
  exact ⟨rfl, (below_drewN (Below.refl _ _) _).trans hb1⟩

set_option maxRecDepth 100000 in
set_option maxHeartbeats 800000 in
theorem rcopy_with (s x d : ByteArray) (n : Int) (w : World) (hn3 : 1 ≤ n) (hn4 : n ≤ 9999) (hxx : x.size ≤ 7) (hbx : 1 ≤ (x.size : Int)) (hst : s.size ≤ 24) (hsx : x.size + 1 ≤ s.size)
    (HR : Hid (∀ W, Calls Tryd.prog 67 #[.string s] W fun e w' => e = .returned (.int .i64 0) ∧ W = w'))
    (HX : Hid (∀ W, Calls Tryd.prog 82 #[.string s] W fun e w' => e = .returned (.string x) ∧ W = w'))
    (HI : Hid (∀ W, Calls Tryd.prog 83 #[.int .i64 n] W fun e w' => ∃ t : ByteArray, e = .returned (.string t) ∧ t.size ≤ 4 ∧ Hid (t = d) ∧ Below W.heap.size W w')) :
    Calls Tryd.prog 69 #[.string s, .int .i64 n] w fun e w' => e = .returned (.tuple #[.string ((s.extract 0 (s.size - (1 + x.size))).extract 0 (min ((s.size - (1 + x.size) : Nat) : Int) (24 - (1 + d.size + (1 + x.size)))).toNat ++ (⟨#[126]⟩ ++ d ++ (⟨#[46]⟩ ++ x))), .int .i64 0]) ∧ Below w.heap.size w w' := by
  go_enter Tryd.func69, Tryd.ntmps69
  go_wp2_with fail
  refine (HR.out _).mono ?_
  rintro e w' ⟨rfl, rfl⟩
  go_wp2_with fail
  refine (HX.out _).mono ?_
  rintro e w' ⟨rfl, rfl⟩
  go_wp2_with fail
  refine (HI.out _).mono ?_
  rintro e w1 ⟨t, rfl, ht, Ht, hb1⟩
  go_wp2_with fail
  go_ret2
  rw [← Ht.out]
  exact ⟨rfl, hb1⟩

set_option maxRecDepth 100000 in
set_option maxHeartbeats 800000 in
theorem rcopy_bare (s x d : ByteArray) (n : Int) (w : World) (hn3 : 1 ≤ n) (hn4 : n ≤ 9999) (hbx : (x.size : Int) < 1) (hst : s.size ≤ 24)
    (HR : Hid (∀ W, Calls Tryd.prog 67 #[.string s] W fun e w' => e = .returned (.int .i64 0) ∧ W = w'))
    (HX : Hid (∀ W, Calls Tryd.prog 82 #[.string s] W fun e w' => e = .returned (.string x) ∧ W = w'))
    (HI : Hid (∀ W, Calls Tryd.prog 83 #[.int .i64 n] W fun e w' => ∃ t : ByteArray, e = .returned (.string t) ∧ t.size ≤ 4 ∧ Hid (t = d) ∧ Below W.heap.size W w')) :
    Calls Tryd.prog 69 #[.string s, .int .i64 n] w fun e w' => e = .returned (.tuple #[.string (s.extract 0 (min (s.size : Int) (24 - (1 + d.size))).toNat ++ (⟨#[126]⟩ ++ d ++ ⟨#[]⟩)), .int .i64 0]) ∧ Below w.heap.size w w' := by
  go_enter Tryd.func69, Tryd.ntmps69
  go_wp2_with fail
  refine (HR.out _).mono ?_
  rintro e w' ⟨rfl, rfl⟩
  go_wp2_with fail
  refine (HX.out _).mono ?_
  rintro e w' ⟨rfl, rfl⟩
  go_wp2_with fail
  refine (HI.out _).mono ?_
  rintro e w1 ⟨t, rfl, ht, Ht, hb1⟩
  go_wp2_with fail
  go_ret2
  rw [← Ht.out]
  exact ⟨rfl, hb1⟩

set_option maxRecDepth 100000 in
set_option maxHeartbeats 800000 in
theorem rcopy_long (s x d : ByteArray) (n : Int) (w : World) (hn3 : 1 ≤ n) (hn4 : n ≤ 9999) (hbx : 1 ≤ (x.size : Int)) (hxx : 7 < (x.size : Int)) (hst : s.size ≤ 24)
    (HR : Hid (∀ W, Calls Tryd.prog 67 #[.string s] W fun e w' => e = .returned (.int .i64 0) ∧ W = w'))
    (HX : Hid (∀ W, Calls Tryd.prog 82 #[.string s] W fun e w' => e = .returned (.string x) ∧ W = w'))
    (HI : Hid (∀ W, Calls Tryd.prog 83 #[.int .i64 n] W fun e w' => ∃ t : ByteArray, e = .returned (.string t) ∧ t.size ≤ 4 ∧ Hid (t = d) ∧ Below W.heap.size W w')) :
    Calls Tryd.prog 69 #[.string s, .int .i64 n] w fun e w' => e = .returned (.tuple #[.string (s.extract 0 (min (s.size : Int) (24 - (1 + d.size))).toNat ++ (⟨#[126]⟩ ++ d ++ ⟨#[]⟩)), .int .i64 0]) ∧ Below w.heap.size w w' := by
  go_enter Tryd.func69, Tryd.ntmps69
  go_wp2_with fail
  refine (HR.out _).mono ?_
  rintro e w' ⟨rfl, rfl⟩
  go_wp2_with fail
  refine (HX.out _).mono ?_
  rintro e w' ⟨rfl, rfl⟩
  go_wp2_with fail
  refine (HI.out _).mono ?_
  rintro e w1 ⟨t, rfl, ht, Ht, hb1⟩
  go_wp2_with fail
  go_ret2
  rw [← Ht.out]
  exact ⟨rfl, hb1⟩

end Go.Proofs.YtfbdbjookkogjaaDoor

namespace Go.Proofs.YtfbdbjookkogjaaDoor
open Go.RowKit Go.Lib

theorem join_copy {st T : ByteArray} {l : List UInt8} {n m : Int} (h1 : st.data.toList = stemL l) (h2 : T.data.toList = tailL l n) (hm : m = T.size) (h24 : T.size ≤ 24) :
    st.extract 0 (min (st.size : Int) (24 - m)).toNat ++ T = ⟨(copyOk l n).toArray⟩ := by
  apply ba_ext
  rw [ByteArray.data_append, Array.toList_append, h2]
  show _ = copyOk l n
  unfold copyOk
  congr 1
  rw [extract_data, h1, ← h2, ← size_eq, hm, size_eq st, h1]
  simp only [List.drop_zero]
  rw [List.take_eq_take_iff]
  omega
theorem data_add (a b : ByteArray) : (a ++ b).data.toList = a.data.toList ++ b.data.toList := by
  rw [ByteArray.data_append, Array.toList_append]

theorem trim_call (s : ByteArray) (x z : List UInt8) (W : World) (hs : s.size ≤ 140737488351232) (hz : z = Lib.trimSuffix s.data.toList (46 :: x)) :
    Calls Tryd.prog 80 #[.string s, .string (⟨#[46]⟩ ++ ⟨x.toArray⟩)] W fun e w' => e = .returned (.string ⟨z.toArray⟩) ∧ W = w' := by
  have h := Tryd.strings_TrimSuffix s (⟨#[46]⟩ ++ ⟨x.toArray⟩) W (Nat.le_trans hs (by decide))
  have e : (⟨#[46]⟩ ++ ⟨x.toArray⟩ : ByteArray).data.toList = 46 :: x := by rw [data_add]; rfl
  rw [e, ← hz] at h
  exact h.mono fun e w' ⟨he, hw⟩ => ⟨he, hw.symm⟩

theorem copy_any (s : ByteArray) (n : Int) (w : World) (hs : s.size ≤ 140737488351232) (ht : Tab w) :
    Calls Tryd.prog 64 #[.string s, .int .i64 n] w fun e w' => e = .returned (.tuple #[.string ⟨(copyL s.data.toList n).toArray⟩, .int .i64 (copyN s.data.toList n)]) ∧ Below w.heap.size w w' := by
  have HR := Lib.hid fun W => right_any s W hs
  by_cases hr : rightL s.data.toList = true
  · have H0 := Lib.hid (rightN_ok hr)
    by_cases ha : n < 1 ∨ 9999 < n
    · obtain ⟨e1, e2⟩ := copy_arg hr ha
      have E1 := Lib.hid e1
      have E2 := Lib.hid e2
      clear e1 e2 hr
      go_enter Tryd.func64, Tryd.ntmps64
      go_wp2_with fail
      refine (HR.out _).mono ?_
      rw [H0.out]
      rintro e w' ⟨rfl, k, rfl⟩
      go_wp2_with fail
      all_goals
        go_ret2
        rw [E1.out, E2.out]
        exact ⟨rfl, below_drewN (Below.refl _ _) _⟩
    · obtain ⟨e1, e2⟩ := copy_right hr ha
      have hn3 : 1 ≤ n := by omega
      have hn4 : n ≤ 9999 := by omega
      have hsl := rightL_len hr
      have hdl := decDigits_len (u := n.toNat) (by omega)
      have HR' : Hid (∀ W, Calls Tryd.prog 24 #[.string s] W fun e w' => e = .returned (.int .i64 0) ∧ ∃ n, w' = W.drewN n) := fun W => by
        have := HR.out W
        rwa [H0.out] at this
      have HI : Hid (∀ k, Calls Tryd.prog 78 #[.int .i64 n] (w.drewN k) fun e w' => e = .returned (.string ⟨(decDigits n.toNat).toArray⟩) ∧ Below (w.drewN k).heap.size (w.drewN k) w') :=
        fun k => itoa_call n (by omega) (by omega) _ (ht.keeps (below_drewN (Below.refl _ _) k))
      have HX := Lib.hid fun W => ext_any s W hs
      have hss := size_eq s
      have hds := size_mk (decDigits n.toNat)
      have hxs := size_mk (extL s.data.toList)
      rw [e1, e2]
      by_cases h0 : extL s.data.toList = []
      · obtain ⟨c1, c2⟩ := stem_without (.inl h0)
        refine (copy_bare s _ _ n w hn3 hn4 (by rw [toList_data]; simp [h0]) (by omega) (by omega) HR' HI HX).mono fun e w' ⟨he, hb⟩ => ⟨?_, hb⟩
        rw [he, join_copy (l := s.data.toList) (n := n) c1.symm (by rw [data_add]; simp [tailL, c2]) (by rw [ByteArray.size_append]; simp [ByteArray.size]) (by rw [ByteArray.size_append, hds]; show 1 + _ ≤ _; omega)]
      · by_cases h7 : (extL s.data.toList).length ≤ 7
        · obtain ⟨c1, c2⟩ := stem_with h0 h7
          have HTS : Hid (∀ W, Calls Tryd.prog 80 #[.string s, .string (⟨#[46]⟩ ++ ⟨(extL s.data.toList).toArray⟩)] W fun e w' => e = .returned (.string ⟨(stemL s.data.toList).toArray⟩) ∧ W = w') := fun W =>
            trim_call s (extL s.data.toList) _ W hs (by rw [c1, ← trimSuffix_ext h0])
          refine (copy_with s _ _ _ n w hn3 hn4 (by omega) (by rw [toList_data]; simp [h0]) (by omega) (by rw [size_mk]; unfold stemL; simp; omega) HR' HI HX HTS).mono fun e w' ⟨he, hb⟩ => ⟨?_, hb⟩
          rw [he, join_copy (l := s.data.toList) (n := n) rfl (by rw [data_add, data_add, data_add]; simp [tailL, c2]) (by rw [ByteArray.size_append, ByteArray.size_append, ByteArray.size_append]; simp [ByteArray.size]) (by rw [ByteArray.size_append, ByteArray.size_append, ByteArray.size_append, hds, hxs]; show 1 + _ + (1 + _) ≤ _; omega)]
        · obtain ⟨c1, c2⟩ := stem_without (l := s.data.toList) (.inr (by omega))
          refine (copy_long s _ _ n w hn3 hn4 (by rw [toList_data]; simp [h0]) (by omega) (by omega) (by omega) HR' HI HX).mono fun e w' ⟨he, hb⟩ => ⟨?_, hb⟩
          rw [he, join_copy (l := s.data.toList) (n := n) c1.symm (by rw [data_add]; simp [tailL, c2]) (by rw [ByteArray.size_append]; simp [ByteArray.size]) (by rw [ByteArray.size_append, hds]; show 1 + _ ≤ _; omega)]
  · obtain ⟨e1, e2⟩ := copy_wrong (l := s.data.toList) n (by simpa using hr)
    have E1 := Lib.hid e1
    have E2 := Lib.hid e2
    have H0 := Lib.hid (rightN_bad (l := s.data.toList) (by simpa using hr))
    clear e1 e2 hr
    go_enter Tryd.func64, Tryd.ntmps64
    go_wp2_with fail
    refine (HR.out _).mono ?_
    rw [H0.out]
    rintro e w' ⟨rfl, k, rfl⟩
    go_wp2_with fail
    go_ret2
    rw [E1.out, E2.out]
    exact ⟨rfl, below_drewN (Below.refl _ _) _⟩

theorem rcopy_any (s : ByteArray) (n : Int) (w : World) (hs : s.size ≤ 140737488351232) :
    Calls Tryd.prog 69 #[.string s, .int .i64 n] w fun e w' => e = .returned (.tuple #[.string ⟨(copyL s.data.toList n).toArray⟩, .int .i64 (copyN s.data.toList n)]) ∧ Below w.heap.size w w' := by
  have HR := Lib.hid fun W => rright_any s W hs
  by_cases hr : rightL s.data.toList = true
  · have H0 := Lib.hid (rightN_ok hr)
    by_cases ha : n < 1 ∨ 9999 < n
    · obtain ⟨e1, e2⟩ := copy_arg hr ha
      have E1 := Lib.hid e1
      have E2 := Lib.hid e2
      clear e1 e2 hr
      go_enter Tryd.func69, Tryd.ntmps69
      go_wp2_with fail
      refine (HR.out _).mono ?_
      rw [H0.out]
      rintro e w' ⟨rfl, rfl⟩
      go_wp2_with fail
      all_goals
        go_ret2
        rw [E1.out, E2.out]
        exact ⟨rfl, Below.refl _ _⟩
    · obtain ⟨e1, e2⟩ := copy_right hr ha
      have hn3 : 1 ≤ n := by omega
      have hn4 : n ≤ 9999 := by omega
      have hsl := rightL_len hr
      have hdl := decDigits_len (u := n.toNat) (by omega)
      have HR' : Hid (∀ W, Calls Tryd.prog 67 #[.string s] W fun e w' => e = .returned (.int .i64 0) ∧ W = w') := fun W => by
        have := HR.out W
        rwa [H0.out] at this
      have HI : Hid (∀ W, Calls Tryd.prog 83 #[.int .i64 n] W fun e w' => ∃ t : ByteArray, e = .returned (.string t) ∧ t.size ≤ 4 ∧ Hid (t = ⟨(decDigits n.toNat).toArray⟩) ∧ Below W.heap.size W w') :=
        fun W => digits_any n.toNat n W (by omega) (by omega) (by omega)
      have HX := Lib.hid fun W => rext_any s W hs
      have hss := size_eq s
      have hds := size_mk (decDigits n.toNat)
      have hxs := size_mk (extL s.data.toList)
      have hee : (⟨#[]⟩ : ByteArray).data.toList = [] := rfl
      rw [e1, e2]
      by_cases h0 : extL s.data.toList = []
      · obtain ⟨c1, c2⟩ := stem_without (.inl h0)
        refine (rcopy_bare s _ _ n w hn3 hn4 (by rw [hxs, h0]; simp) (by omega) HR' HX HI).mono fun e w' ⟨he, hb⟩ => ⟨?_, hb⟩
        rw [he, join_copy (l := s.data.toList) (n := n) c1.symm (by rw [data_add, data_add]; simp [tailL, c2]) (by rw [ByteArray.size_append, ByteArray.size_append]; simp [ByteArray.size]) (by rw [ByteArray.size_append, ByteArray.size_append, hds]; show 1 + _ + 0 ≤ _; omega)]
      · have hpos := List.length_pos_iff.2 h0
        by_cases h7 : (extL s.data.toList).length ≤ 7
        · obtain ⟨c1, c2⟩ := stem_with h0 h7
          have hsx := (ext_suffix h0).2
          have hst : (s.extract 0 (s.size - (1 + (⟨(extL s.data.toList).toArray⟩ : ByteArray).size))).data.toList = stemL s.data.toList := by
            rw [extract_data, hxs, c1, hss]
            simp only [List.drop_zero]
            congr 1
            omega
          have hsz : ((s.extract 0 (s.size - (1 + (⟨(extL s.data.toList).toArray⟩ : ByteArray).size))).size) = s.size - (1 + (⟨(extL s.data.toList).toArray⟩ : ByteArray).size) := by
            rw [size_eq, hst, c1, hxs, hss]
            simp
            omega
          refine (rcopy_with s _ _ n w hn3 hn4 (by omega) (by omega) (by omega) (by omega) HR' HX HI).mono fun e w' ⟨he, hb⟩ => ⟨?_, hb⟩
          have hj := join_copy (T := ⟨#[126]⟩ ++ ⟨(decDigits n.toNat).toArray⟩ ++ (⟨#[46]⟩ ++ ⟨(extL s.data.toList).toArray⟩)) (l := s.data.toList) (n := n) hst (by rw [data_add, data_add, data_add]; simp [tailL, c2]) (by rw [ByteArray.size_append, ByteArray.size_append, ByteArray.size_append]) (by rw [ByteArray.size_append, ByteArray.size_append, ByteArray.size_append, hds, hxs]; show 1 + _ + (1 + _) ≤ _; omega)
          rw [hsz] at hj
          rw [he, ← hj]
          rfl
        · obtain ⟨c1, c2⟩ := stem_without (l := s.data.toList) (.inr (by omega))
          refine (rcopy_long s _ _ n w hn3 hn4 (by omega) (by omega) (by omega) HR' HX HI).mono fun e w' ⟨he, hb⟩ => ⟨?_, hb⟩
          rw [he, join_copy (l := s.data.toList) (n := n) c1.symm (by rw [data_add, data_add]; simp [tailL, c2]) (by rw [ByteArray.size_append, ByteArray.size_append]; simp [ByteArray.size]) (by rw [ByteArray.size_append, ByteArray.size_append, hds]; show 1 + _ + 0 ≤ _; omega)]
  · obtain ⟨e1, e2⟩ := copy_wrong (l := s.data.toList) n (by simpa using hr)
    have E1 := Lib.hid e1
    have E2 := Lib.hid e2
    have H0 := Lib.hid (rightN_bad (l := s.data.toList) (by simpa using hr))
    clear e1 e2 hr
    go_enter Tryd.func69, Tryd.ntmps69
    go_wp2_with fail
    refine (HR.out _).mono ?_
    rw [H0.out]
    rintro e w' ⟨rfl, rfl⟩
    go_wp2_with fail
    go_ret2
    rw [E1.out, E2.out]
    exact ⟨rfl, Below.refl _ _⟩
end Go.Proofs.YtfbdbjookkogjaaDoor

namespace Go.Proofs.YtfbdbjookkogjaaDoor
open Go.RowKit Go.Lib


theorem hasB_hit {ss : List ByteArray} {s : ByteArray} {k : Nat} (hk : k < ss.length) (h : ss.getD k ByteArray.empty = s) : hasB ss s = true := by
  rw [hasB_iff, ← h, List.getD_eq_getElem?_getD, List.getElem?_eq_getElem hk]
  exact List.getElem_mem hk
theorem hasB_miss {ss : List ByteArray} {s : ByteArray} (h : ∀ k, k < ss.length → ss.getD k ByteArray.empty ≠ s) : hasB ss s = false := by
  rw [← Bool.not_eq_true, hasB_iff]
  intro hm
  obtain ⟨k, hk, e⟩ := List.getElem_of_mem hm
  exact h k hk (by rw [List.getD_eq_getElem?_getD, List.getElem?_eq_getElem hk]; exact e)

set_option maxRecDepth 100000 in
set_option maxHeartbeats 800000 in
theorem has_any (a : Option Addr) (cap : Nat) (ss : List ByteArray) (s : ByteArray) (w : World) (hl : ss.length ≤ 140737488351232) (ha : StrsAt w a ss) :
    Calls Tryd.prog 68 #[.slice a ss.length cap, .string s] w fun e w' => e = .returned (.bool (hasB ss s)) ∧ w = w' := by
  have HA := Lib.hid ha
  clear ha
  go_enter Tryd.func68, Tryd.ntmps68
  go_wp2
  go_loop [5] (fun i => ∃ k : Nat, k ≤ ss.length ∧ i = .int .i64 k ∧ Hid (∀ j, j < k → ss.getD j ByteArray.empty ≠ s)) (fun i => ss.length - (RowKit.intOf i).toNat)
  case atStart => exact ⟨0, Nat.zero_le _, rfl, fun j hj => absurd hj (Nat.not_lt_zero _)⟩
  case round =>
    obtain ⟨k, hk, rfl, Hk⟩ := hrel
    by_cases hlt : k < ss.length
    · obtain ⟨b, off, rfl, hbl, hc⟩ := HA.out k hlt
      generalize hx : ss.getD k ByteArray.empty = x at hc
      have Hx := Lib.hid hx
      clear hx
      by_cases he : x = s
      · have Hr := Lib.hid (hasB_hit hlt (Hx.out.trans he))
        have hb := str_eq he
        clear he
        go_wp2
        go_ret
        exact ⟨ret_bool Hr.out.symm, rfl⟩
      · have Hn := Lib.hid he
        have hb := str_ne he
        clear he
        go_wp2
        go_round
        case rel =>
          refine ⟨k + 1, by omega, by go_num, fun j hj => ?_⟩
          by_cases e : j = k
          · subst e; rw [Hx.out]; exact Hn.out
          · exact Hk.out j (by omega)
        case measure => simp [RowKit.intOf]; omega
    · have Hr := Lib.hid (hasB_miss (ss := ss) (s := s) (fun j hj => Hk.out j (by omega)))
      go_wp2
      go_ret
      exact ⟨ret_bool Hr.out.symm, rfl⟩
end Go.Proofs.YtfbdbjookkogjaaDoor

namespace Go.Proofs.YtfbdbjookkogjaaDoor
open Go.RowKit Go.Lib

def fewB (ss : List ByteArray) : Bool := decide (ss.length ≤ 200) && ss.all fun s => decide (s.size ≤ 200)
theorem fewB_long {ss : List ByteArray} (h : 200 < ss.length) : fewB ss = false := by
  have : ¬ ss.length ≤ 200 := by omega
  simp [fewB, this]
theorem fewB_bad {ss : List ByteArray} {k : Nat} (hk : k < ss.length) (h : 200 < (ss.getD k ByteArray.empty).size) : fewB ss = false := by
  have : ss.all (fun s => decide (s.size ≤ 200)) = false := by
    rw [List.all_eq_false]
    rw [List.getD_eq_getElem?_getD, List.getElem?_eq_getElem hk] at h
    exact ⟨ss[k], List.getElem_mem hk, by simpa using h⟩
  simp [fewB, this]
theorem fewB_ok {ss : List ByteArray} (h : ss.length ≤ 200) (h2 : ∀ k, k < ss.length → (ss.getD k ByteArray.empty).size ≤ 200) : fewB ss = true := by
  have : ss.all (fun s => decide (s.size ≤ 200)) = true := by
    rw [List.all_eq_true]
    intro x hx
    obtain ⟨k, hk, e⟩ := List.getElem_of_mem hx
    have := h2 k hk
    rw [List.getD_eq_getElem?_getD, List.getElem?_eq_getElem hk] at this
    rw [← e]
    simpa using this
  simp [fewB, this, h]
theorem fewB_iff {ss : List ByteArray} : fewB ss = true ↔ ss.length ≤ 200 ∧ ∀ s ∈ ss, s.size ≤ 200 := by
  simp [fewB]

def sameB (xs ys : List ByteArray) : Bool := decide (xs = ys)
theorem sameB_len {xs ys : List ByteArray} (h : xs.length ≠ ys.length) : sameB xs ys = false := by
  simp only [sameB, decide_eq_false_iff_not]; intro e; exact h (by rw [e])
theorem sameB_at {xs ys : List ByteArray} {k : Nat} (h : xs.getD k ByteArray.empty ≠ ys.getD k ByteArray.empty) : sameB xs ys = false := by
  simp only [sameB, decide_eq_false_iff_not]; intro e; exact h (by rw [e])
theorem sameB_ok {xs ys : List ByteArray} (h : xs.length = ys.length) (h2 : ∀ k, k < xs.length → xs.getD k ByteArray.empty = ys.getD k ByteArray.empty) : sameB xs ys = true := by
  simp only [sameB, decide_eq_true_eq]
  apply List.ext_getElem h
  intro i h1 h3
  have := h2 i h1
  simpa [List.getD_eq_getElem?_getD, h1, h3] using this

end Go.Proofs.YtfbdbjookkogjaaDoor

namespace Go.Proofs.YtfbdbjookkogjaaDoor
open Go.RowKit Go.Lib

def setFn (T : List ByteArray) : ByteArray → Option Value := fun c => if hasB T c then some (.bool true) else none
theorem setFn_nil : setFn [] = fun _ => none := rfl
theorem hasB_snoc (T : List ByteArray) (s x : ByteArray) : hasB (T ++ [s]) x = (hasB T x || decide (s = x)) := by
  unfold hasB; rw [List.any_append]; simp
theorem setFn_put (T : List ByteArray) (s : ByteArray) : putAt (setFn T) s (.bool true) = setFn (T ++ [s]) := by
  funext x
  unfold putAt setFn
  rw [hasB_snoc]
  by_cases h : x = s
  · subst h; simp
  · have : ¬ s = x := fun e => h e.symm
    simp [h, this]
theorem setFn_get (T : List ByteArray) (s : ByteArray) : ((setFn T) s).getD (.bool false) = .bool (hasB T s) := by
  unfold setFn; cases hasB T s <;> rfl

set_option maxRecDepth 100000 in
set_option maxHeartbeats 800000 in
theorem unique_big_walk (a : Option Addr) (cap : Nat) (ss : List ByteArray) (w : World) (hl : 1000 < (ss.length : Int)) :
    Calls Tryd.prog 43 #[.slice a ss.length cap] w fun e w' => e = .returned (.tuple #[.slice none 0 0, .int .i64 40]) ∧ w = w' := by
  go_enter Tryd.func43, Tryd.ntmps43
  go_wp2_with fail
  go_ret2
  exact ⟨rfl, rfl⟩

theorem ownBlock_ne {w : World} {base e n j : Nat} {v : Value} {xs : List Value} (h : w.ownsRow base e 1 v n xs) (hj : j < base) : v.ownBlock = none ∨ v.ownBlock ≠ some j :=
  .inr fun e => by have := (h.lt _ e).1; omega
theorem ownsRow_below {w w' : World} {base e size n : Nat} {v : Value} {xs : List Value} (h : w.ownsRow base e size v n xs) (hb : Below w.heap.size w w') : w'.ownsRow base e size v n xs := by
  refine ⟨h.1, ?_⟩
  rcases h.2 with hn | ⟨g, cap, cur, rfl, hg, hgg, rest⟩
  · exact .inl hn
  · refine .inr ⟨g, cap, cur, rfl, hg, ?_, rest⟩
    rw [hb.block g (Array.getElem?_eq_some_iff.1 hgg).1]
    exact hgg
theorem strsAt_own {w : World} {base e n : Nat} {v : Value} {ss : List ByteArray} (h : w.ownsRow base e 1 v n (ss.map Value.string)) : ∃ a cap, v = .slice a ss.length cap ∧ StrsAt w a ss := by
  rcases h.2 with ⟨hv, _⟩ | ⟨g, cap, cur, hv, _⟩
  · subst hv
    obtain ⟨h1, h2, _⟩ := strsAt_of_ownsRow h
    exact ⟨none, 0, by rw [← h2], h1⟩
  · subst hv
    obtain ⟨h1, h2, _⟩ := strsAt_of_ownsRow h
    exact ⟨some ⟨g, 0, none⟩, cap, by rw [h2], h1⟩
theorem strsAt_own' {w : World} {base e n : Nat} {v : Value} {ss : List ByteArray} (h : w.ownsRow base e 1 v n (ss.map Value.string)) : ∃ a cap, v = .slice a ss.length cap ∧ StrsAt w a ss ∧ ∀ ad, a = some ad → base ≤ ad.block := by
  obtain ⟨a, cap, e1, h1⟩ := strsAt_own h
  refine ⟨a, cap, e1, h1, fun ad e2 => ?_⟩
  subst e2
  have hl := World.ownsRow.lt h ad.block (by rw [e1]; rfl)
  exact hl.1
theorem take_getD (ss : List ByteArray) (k : Nat) (h : k < ss.length) : ss.take (k + 1) = ss.take k ++ [ss.getD k ByteArray.empty] := by
  rw [List.take_add_one, List.getElem?_eq_getElem h, List.getD_eq_getElem?_getD, List.getElem?_eq_getElem h]; rfl

set_option maxRecDepth 100000 in
set_option maxHeartbeats 800000 in
theorem unique_new (a : Option Addr) (cap : Nat) (ss : List ByteArray) (w : World) (hl : ss.length ≤ 1000) (ha : StrsAt w a ss) (hsz : ∀ j, j < ss.length → (ss.getD j ByteArray.empty).size ≤ 140737488351232) (hT : Tab w) :
    Calls Tryd.prog 43 #[.slice a ss.length cap] w fun e w' => ∃ v cap' : _, e = .returned (.tuple #[.slice v (uniqueL ss).length cap', .int .i64 (uniqueN ss)]) ∧ StrsAt w' v (uniqueL ss) ∧ Below w.heap.size w w' ∧ ∀ ad, v = some ad → w.heap.size ≤ ad.block := by
  have hmm := @run_makeMap Tryd.prog
  have HA := Lib.hid ha
  have HS := Lib.hid hsz
  clear ha hsz
  go_enter Tryd.func43, Tryd.ntmps43
  go_wp2
  go_loopw [21] (fun i wr => ∃ k : Nat, k ≤ ss.length ∧ i = .int .i64 k ∧ Hid (∀ j, j < k → bright (ss.getD j ByteArray.empty) = true) ∧ MapOf Value.string wr w.heap.size k (setFn (ss.take k)) ∧ Below w.heap.size w wr) (fun i _ => ss.length - (RowKit.intOf i).toNat)
  case atStart => exact ⟨0, Nat.zero_le _, rfl, fun j hj => absurd hj (Nat.not_lt_zero _), MapOf.made _, (Below.refl _ _).alloc (Nat.le_refl _) _⟩
  case round =>
    obtain ⟨k, hk, rfl, Hk, hmo, hbe⟩ := hrel
    by_cases hlt : k < ss.length
    · obtain ⟨b, off, rfl, hbl, hc⟩ := HA.out k hlt
      have hc := (hbe.cell (p := ⟨b, off + k, none⟩) hbl).trans hc
      have hsk := HS.out k hlt
      have hbr := @allRight_bad ss k hlt
      have htk := take_getD ss k hlt
      generalize hx : ss.getD k ByteArray.empty = x at hc hsk hbr htk
      have Hx := Lib.hid hx
      clear hx
      have HR := Lib.hid fun W => right_any x W hsk
      by_cases hr : bright x = true
      · have H0 := Lib.hid (rightN_ok hr)
        clear hbr
        have Htk := Lib.hid htk
        clear htk
        go_wp2_with fail
        refine (HR.out _).mono ?_
        rw [H0.out]
        rintro e w' ⟨rfl, n, rfl⟩
        go_wp2_with (at_mapUpdate; refine wpList_mapUpdate_of rfl _ _ _ 101 rfl 9 4 mapK Tryd.underlying101 rfl (hmo.drewN n) x rfl _ rfl ?_)
        intro w2 hmo2 hg2
        rw [setFn_put, ← Htk.out] at hmo2
        have hbe2 := ((hbe.trans (below_drewN (Below.refl _ _) n)).grown hg2 (by simpa using hbe.size) (fun j ej => by cases ej; exact Nat.le_refl _))
        clear hmo hg2 hc
        go_wp2_with fail
        go_roundw
        case rel =>
          refine ⟨k + 1, by omega, by go_num, fun j hj => ?_, hmo2, hbe2⟩
          by_cases e : j = k
          · subst e; rw [Hx.out]; exact hr
          · exact Hk.out j (by omega)
        case measure => simp [RowKit.intOf]; omega
      · have H0 := Lib.hid (rightN_bad (l := x.data.toList) (by simpa [bright] using hr))
        obtain ⟨u1, u2⟩ := unique_wrong (ss := ss) (by omega) (hbr (by simpa using hr))
        have U1 := Lib.hid u1
        have U2 := Lib.hid u2
        clear hbr u1 u2 htk hr hmo
        go_wp2_with fail
        refine (HR.out _).mono ?_
        rw [H0.out]
        rintro e w' ⟨rfl, n, rfl⟩
        go_wp2_with fail
        go_ret2
        refine ⟨none, 0, ?_, ?_, ?_, (fun _ h => nomatch h)⟩
        · rw [U1.out, U2.out]; rfl
        · rw [U2.out]; exact StrsAt.nil _ _
        · exact hbe.trans (below_drewN (Below.refl _ _) n)
    · obtain rfl : k = ss.length := by omega
      have hall := allRight_ok (fun j hj => Hk.out j hj)
      obtain ⟨u1, u2⟩ := unique_right (ss := ss) (by omega) hall
      have U1 := Lib.hid u1
      have U2 := Lib.hid u2
      have HAll := Lib.hid hall
      rw [List.take_length] at hmo
      clear u1 u2 hall Hk hk
      have hws : w.heap.size + 1 ≤ wr.heap.size := hmo.lt
      obtain ⟨i0, hi, hz0, hz1, hz2⟩ := info_parts strInfo
      have Hi := Lib.hid hi
      have Hz0 := Lib.hid hz0
      have Hz1 := Lib.hid hz1
      have Hz2 := Lib.hid hz2
      clear hi hz0 hz1 hz2
      obtain ⟨wo, rfl⟩ : ∃ wo : World, wo = wr := ⟨_, rfl⟩
      go_wp2_with fail
      go_loopw [9, 36] (fun v i wr2 => ∃ k : Nat, k ≤ ss.length ∧ i = .int .i64 k ∧ MapOf Value.string wr2 w.heap.size (ss.length + k) (setFn (ss ++ outU ss k)) ∧ MapOf Value.string wr2 wo.heap.size k (setFn (ss.take k)) ∧ wr2.ownsRow (wo.heap.size + 1) 9 1 v k ((outU ss k).map Value.string) ∧ Below w.heap.size w wr2 ∧ wo.heap.size + 1 ≤ wr2.heap.size) (fun _ i _ => ss.length - (RowKit.intOf i).toNat)
      case atStart => exact ⟨0, Nat.zero_le _, rfl, (by simpa [outU] using hmo.alloc _), MapOf.made _, World.ownsRow_nil _ _ _ _, hbe.alloc (by omega) _, by simp⟩
      case round =>
        obtain ⟨k, hk, rfl, hm1, hm2, hor, hb2, hsz2⟩ := hrel
        by_cases hlt : k < ss.length
        · obtain ⟨b, off, rfl, hbl, hc⟩ := HA.out k hlt
          have hc := (hb2.cell (p := ⟨b, off + k, none⟩) hbl).trans hc
          have hsk := HS.out k hlt
          have hbr := allRight_at HAll.out hlt
          have htk := take_getD ss k hlt
          have hpk : pickU ss (outU ss k) k = if hasB (ss.take k) (ss.getD k ByteArray.empty) then bcopy (ss.getD k ByteArray.empty) (nextN (ss ++ outU ss k) (ss.getD k ByteArray.empty)) else ss.getD k ByteArray.empty := rfl
          generalize hx : ss.getD k ByteArray.empty = x at hc hsk hbr htk hpk
          have Hx := Lib.hid hx
          have Htk := Lib.hid htk
          have Hbr := Lib.hid hbr
          clear hx htk hbr
          by_cases hin : hasB (ss.take k) x = true
          · rw [hin] at hpk
            obtain ⟨n1, n2, n3, n4⟩ := nextN_spec (T := ss ++ outU ss k) Hbr.out (by simp [outU_length]; omega)
            have hlenT : (ss ++ outU ss k).length = ss.length + k := by simp [outU_length]
            rw [hlenT] at n2
            generalize hmm' : nextN (ss ++ outU ss k) x = m at hpk n1 n2 n3 n4
            have Hpk := Lib.hid hpk
            have N3 := Lib.hid (hasB_not.2 n3)
            have N4 := Lib.hid n4
            clear hpk n3 n4 hmm' hlenT
            have Hin := Lib.hid hin
            have HCp : Hid (∀ z : Int, 1 ≤ z → z ≤ m → ∀ W, Tab W → Calls Tryd.prog 64 #[.string x, .int .i64 z] W fun e w' => e = .returned (.tuple #[.string (bcopy x z.toNat), .int .i64 0]) ∧ Below W.heap.size W w') := fun z hj1 hj2 W hW => by
              have h := copy_any x z W hsk hW
              rw [(copy_right (l := x.data.toList) (n := z) Hbr.out (by omega)).2] at h
              unfold bcopy
              rw [Int.toNat_of_nonneg (by omega)]
              exact h
            have HT := Lib.hid hT
            clear hin
            obtain ⟨wp, rfl⟩ : ∃ wp : World, wp = wr := ⟨_, rfl⟩
            go_wp2_with fail
            go_loopw [12, 13] (fun gv nv wq => ∃ j : Nat, j ≤ m ∧ ((j = 0 ∧ nv = .int .i64 1 ∧ gv = .string x) ∨ (1 ≤ j ∧ nv = .int .i64 ((j : Int) + 1) ∧ gv = .string (bcopy x j))) ∧ Below wp.heap.size wp wq) (fun _ nv _ => m + 1 - (RowKit.intOf nv).toNat)
            case atStart => exact ⟨0, Nat.zero_le _, .inl ⟨rfl, rfl, rfl⟩, Below.refl _ _⟩
            case round =>
              obtain ⟨j, hj, hcase, hbq⟩ := hrel
              have hm1 := hm1.below hbq (by have := hbe.size; omega)
              have hm2 := hm2.below hbq (by omega)
              have hl1 := hm2.lookup mapK Tryd.underlying101 x (zeroBool _)
              rw [setFn_get, Hin.out] at hl1
              have hb2 := hb2.trans (hbq.mono hb2.size)
              have hTq := Lib.hid (HT.out.keeps hb2)
              rcases hcase with ⟨rfl, rfl, rfl⟩ | ⟨hj1, rfl, rfl⟩
              · go_wp2_with fail
                refine (HCp.out _ (by omega) (by omega) _ hTq.out).mono ?_
                rintro e w' ⟨rfl, hb7⟩
                go_wp2_with fail
                go_roundw
                case rel => exact ⟨1, by omega, .inr ⟨by omega, by go_num, rfl⟩, hbq.trans (hb7.mono hbq.size)⟩
                case measure => simp [RowKit.intOf]; omega
              · have hne : (((j : Int) + 1) == 1) = false := by rw [beq_eq_false_iff_ne]; omega
                have hl2 := hm1.lookup mapK Tryd.underlying101 (bcopy x j) (zeroBool _)
                by_cases hjm : j < m
                · rw [setFn_get, hasB_iff.2 (N4.out j hj1 hjm)] at hl2
                  go_wp2_with fail
                  refine (HCp.out _ (by omega) (by omega) _ hTq.out).mono ?_
                  rintro e w' ⟨rfl, hb7⟩
                  go_wp2_with fail
                  go_roundw
                  case rel => exact ⟨j + 1, by omega, .inr ⟨by omega, by go_num, rfl⟩, hbq.trans (hb7.mono hbq.size)⟩
                  case measure => simp [RowKit.intOf]; omega
                · obtain rfl : j = m := by omega
                  rw [setFn_get, N3.out] at hl2
                  have hor := ownsRow_below hor hbq
                  have hsz2 := Nat.le_trans hsz2 hbq.size
                  go_wp2_with (at_mapUpdate; refine wpList_mapUpdate_of rfl _ _ _ 101 rfl 9 4 mapK Tryd.underlying101 rfl hm2 x rfl _ rfl ?_)
                  intro w3 hm2' hg3
                  have hm1' := hm1.grown hg3 (by simp; omega)
                  have hor' := hor.kept hg3 (ownBlock_ne hor (by omega))
                  have hb3 := hb2.grown hg3 (by have := hb2.size; omega) (fun j ej => by cases ej; have := hbe.size; omega)
                  clear hl1 hl2 hm2 hm1 hor hc
                  go_wp2_with (at_mapUpdate; refine wpList_mapUpdate_of rfl _ _ _ 101 rfl 9 4 mapK Tryd.underlying101 rfl hm1' (bcopy x j) rfl _ rfl ?_)
                  intro w4 hm1 hg4
                  have hm2 := hm2'.grown hg4 (by simp; omega)
                  have hor := hor'.kept hg4 (ownBlock_ne hor' (by omega))
                  have hb4 := hb3.grown hg4 (by have := hb3.size; omega) (fun j ej => by cases ej; omega)
                  clear hm2' hm1' hor'
                  rw [setFn_put] at hm1 hm2
                  rw [← Htk.out] at hm2
                  have hsz4 : wo.heap.size + 1 ≤ w4.heap.size := by have := hg3.size; have := hg4.size; omega
                  go_wp2_with (at_builtin; refine wpList_append_own _ rfl _ _ 63 rfl (wo.heap.size + 1) 9 i0 (.string ⟨#[]⟩) 1 16 Tryd.underlying63 Hi.out Hz0.out Hz1.out Hz2.out rfl (by decide) _ _ _ rfl (hor.alloc _) ⟨w4.heap.size, 0, none⟩ 1 1 [.string (bcopy x j)] rfl rfl (cell_one_new _ _ _) (by intro u hu; simp at hu; subst hu; rfl) (by unfold maxLen; omega) (by omega) (by simp; omega) ?_)
                  intro v' w5 hor5 hg5 _
                  have hm1'' := (hm1.alloc (.cells #[.string (bcopy x j)] 9)).grown hg5 (fun e => by have := (hor.lt _ e.symm).1; omega)
                  have hm2'' := (hm2.alloc (.cells #[.string (bcopy x j)] 9)).grown hg5 (fun e => by have := (hor.lt _ e.symm).1; omega)
                  have hb5 := (hb4.alloc (by have := hb4.size; omega) (.cells #[.string (bcopy x j)] 9)).grown hg5 (by have := hb4.size; simp; omega) (fun j ej => by have := (hor.lt _ ej).1; omega)
                  have hs5 : wo.heap.size + 1 ≤ w5.heap.size := by have := hg5.size; simp at this; omega
                  have ho : outU ss (k + 1) = outU ss k ++ [bcopy x j] := by rw [outU, Hpk.out]; rfl
                  have Ho := Lib.hid ho
                  clear ho hm1 hm2 hor hg5 hg4 hg3
                  go_wp2_with fail
                  go_roundw
                  case rel =>
                    refine ⟨k + 1, by omega, by go_num, ?_, hm2'', ?_, hb5, hs5⟩
                    · rw [Ho.out, ← List.append_assoc]; exact hm1''
                    · rw [Ho.out, List.map_append]; exact hor5
                  case measure => simp [RowKit.intOf]; omega
          · have hin : hasB (ss.take k) x = false := by simpa using hin
            rw [hin] at hpk
            have Hpk := Lib.hid hpk
            clear hpk
            have hl1 := hm2.lookup mapK Tryd.underlying101 x (zeroBool _)
            rw [setFn_get, hin] at hl1
            clear hin
            go_wp2_with fail
            refine wp_loop_rounds 1 ?_
            rw [rounds_succ]
            go_wp2_with (at_mapUpdate; refine wpList_mapUpdate_of rfl _ _ _ 101 rfl 9 4 mapK Tryd.underlying101 rfl hm2 x rfl _ rfl ?_)
            intro w3 hm2' hg3
            have hm1' := hm1.grown hg3 (by simp; omega)
            have hor' := hor.kept hg3 (ownBlock_ne hor (by omega))
            have hb3 := hb2.grown hg3 (by have := hbe.size; omega) (fun j ej => by cases ej; have := hbe.size; omega)
            clear hl1 hm2 hm1 hor hc
            go_wp2_with (at_mapUpdate; refine wpList_mapUpdate_of rfl _ _ _ 101 rfl 9 4 mapK Tryd.underlying101 rfl hm1' x rfl _ rfl ?_)
            intro w4 hm1 hg4
            have hm2 := hm2'.grown hg4 (by simp; omega)
            have hor := hor'.kept hg4 (ownBlock_ne hor' (by omega))
            have hb4 := hb3.grown hg4 (by have := hb3.size; omega) (fun j ej => by cases ej; omega)
            clear hm2' hm1' hor'
            rw [setFn_put] at hm1 hm2
            rw [← Htk.out] at hm2
            have hsz4 : wo.heap.size + 1 ≤ w4.heap.size := by have := hg3.size; have := hg4.size; omega
            go_wp2_with (at_builtin; refine wpList_append_own _ rfl _ _ 63 rfl (wo.heap.size + 1) 9 i0 (.string ⟨#[]⟩) 1 16 Tryd.underlying63 Hi.out Hz0.out Hz1.out Hz2.out rfl (by decide) _ _ _ rfl (hor.alloc _) ⟨w4.heap.size, 0, none⟩ 1 1 [.string x] rfl rfl (cell_one_new _ _ _) (by intro u hu; simp at hu; subst hu; rfl) (by unfold maxLen; omega) (by omega) (by simp; omega) ?_)
            intro v' w5 hor5 hg5 _
            have hm1'' := (hm1.alloc (.cells #[.string x] 9)).grown hg5 (fun e => by have := (hor.lt _ e.symm).1; omega)
            have hm2'' := (hm2.alloc (.cells #[.string x] 9)).grown hg5 (fun e => by have := (hor.lt _ e.symm).1; omega)
            have hb5 := (hb4.alloc (by have := hb3.size; omega) (.cells #[.string x] 9)).grown hg5 (by have := hb3.size; simp; omega) (fun j ej => by have := (hor.lt _ ej).1; omega)
            have hs5 : wo.heap.size + 1 ≤ w5.heap.size := by have := hg5.size; simp at this; omega
            have ho : outU ss (k + 1) = outU ss k ++ [x] := by rw [outU, Hpk.out]; rfl
            have Ho := Lib.hid ho
            clear ho hm1 hm2 hor hg5 hg4 hg3
            go_wp2_with fail
            go_roundw
            case rel =>
              refine ⟨k + 1, by omega, by go_num, ?_, hm2'', ?_, hb5, hs5⟩
              · rw [Ho.out, ← List.append_assoc]; exact hm1''
              · rw [Ho.out, List.map_append]; exact hor5
            case measure => simp [RowKit.intOf]; omega
        · obtain rfl : k = ss.length := by omega
          have hse := strsAt_own' hor
          clear hm1 hm2
          go_wp2_with fail
          obtain ⟨va, vc, rfl, hva, hvl⟩ := hse
          go_ret2
          refine ⟨va, vc, ?_, ?_, hb2, fun ad e => by have := hvl ad e; have := hbe.size; omega⟩
          · rw [U1.out, U2.out]; rfl
          · rw [U2.out]; exact hva
theorem unique_any (a : Option Addr) (cap : Nat) (ss : List ByteArray) (w : World) (hl : ss.length ≤ 1000) (ha : StrsAt w a ss) (hsz : ∀ j, j < ss.length → (ss.getD j ByteArray.empty).size ≤ 140737488351232) (hT : Tab w) :
    Calls Tryd.prog 43 #[.slice a ss.length cap] w fun e w' => ∃ v cap' : _, e = .returned (.tuple #[.slice v (uniqueL ss).length cap', .int .i64 (uniqueN ss)]) ∧ StrsAt w' v (uniqueL ss) ∧ Below w.heap.size w w' :=
  (unique_new a cap ss w hl ha hsz hT).mono fun _ _ ⟨v, c, h1, h2, h3, _⟩ => ⟨v, c, h1, h2, h3⟩
end Go.Proofs.YtfbdbjookkogjaaDoor

namespace Go.Proofs.YtfbdbjookkogjaaDoor
open Go.RowKit Go.Lib

theorem has_call (a : Option Addr) (n cap : Nat) (ss : List ByteArray) (s : ByteArray) (w : World) (hn : n = ss.length) (hl : ss.length ≤ 140737488351232) (ha : StrsAt w a ss) :
    Calls Tryd.prog 68 #[.slice a n cap, .string s] w fun e w' => e = .returned (.bool (hasB ss s)) ∧ w' = w := by
  rw [hn]
  exact (has_any a cap ss s w hl ha).mono fun e w' ⟨h1, h2⟩ => ⟨h1, h2.symm⟩

theorem runique_big (a : Option Addr) (cap : Nat) (ss : List ByteArray) (w : World) (hl : 1000 < (ss.length : Int)) :
    Calls Tryd.prog 47 #[.slice a ss.length cap] w fun e w' => e = .returned (.tuple #[.slice none 0 0, .int .i64 40]) ∧ w = w' := by
  go_enter Tryd.func47, Tryd.ntmps47
  go_wp2_with fail
  go_ret2
  exact ⟨rfl, rfl⟩

theorem dis_ne {vo vg : Value} (h : ∀ j, vo.ownBlock = some j → vg.ownBlock = some j → False) : vg.ownBlock = none ∨ vg.ownBlock ≠ vo.ownBlock := by
  cases hg : vg.ownBlock with
  | none => exact .inl rfl
  | some j => exact .inr fun e => h j e.symm hg
set_option maxRecDepth 100000 in
set_option maxHeartbeats 1600000 in
theorem runique_new (a : Option Addr) (cap : Nat) (ss : List ByteArray) (w : World) (hl : ss.length ≤ 1000) (hcap : ss.length ≤ cap) (ha : StrsAt w a ss) (hsz : ∀ j, j < ss.length → (ss.getD j ByteArray.empty).size ≤ 140737488351232) :
    Calls Tryd.prog 47 #[.slice a ss.length cap] w fun e w' => ∃ v cap' : _, e = .returned (.tuple #[.slice v (uniqueL ss).length cap', .int .i64 (uniqueN ss)]) ∧ StrsAt w' v (uniqueL ss) ∧ Below w.heap.size w w' ∧ ∀ ad, v = some ad → w.heap.size ≤ ad.block := by
  have HA := Lib.hid ha
  have HS := Lib.hid hsz
  clear ha hsz
  go_enter Tryd.func47, Tryd.ntmps47
  go_wp2
  go_loop [4] (fun i => ∃ k : Nat, k ≤ ss.length ∧ i = .int .i64 k ∧ Hid (∀ j, j < k → bright (ss.getD j ByteArray.empty) = true)) (fun i => ss.length - (RowKit.intOf i).toNat)
  case atStart => exact ⟨0, Nat.zero_le _, rfl, fun j hj => absurd hj (Nat.not_lt_zero _)⟩
  case round =>
    obtain ⟨k, hk, rfl, Hk⟩ := hrel
    by_cases hlt : k < ss.length
    · obtain ⟨b, off, rfl, hbl, hc⟩ := HA.out k hlt
      have hsk := HS.out k hlt
      have hbr := @allRight_bad ss k hlt
      generalize hx : ss.getD k ByteArray.empty = x at hc hsk hbr
      have Hx := Lib.hid hx
      clear hx
      have HR := Lib.hid fun W => rright_any x W hsk
      by_cases hr : bright x = true
      · have H0 := Lib.hid (rightN_ok hr)
        clear hbr
        go_wp2_with fail
        refine (HR.out _).mono ?_
        rw [H0.out]
        rintro e w' ⟨rfl, rfl⟩
        go_wp2_with fail
        go_round
        case rel =>
          refine ⟨k + 1, by omega, by go_num, fun j hj => ?_⟩
          by_cases e : j = k
          · subst e; rw [Hx.out]; exact hr
          · exact Hk.out j (by omega)
        case measure => simp [RowKit.intOf]; omega
      · have H0 := Lib.hid (rightN_bad (l := x.data.toList) (by simpa [bright] using hr))
        obtain ⟨u1, u2⟩ := unique_wrong (ss := ss) (by omega) (hbr (by simpa using hr))
        have U1 := Lib.hid u1
        have U2 := Lib.hid u2
        clear hbr u1 u2 hr
        go_wp2_with fail
        refine (HR.out _).mono ?_
        rw [H0.out]
        rintro e w' ⟨rfl, rfl⟩
        go_wp2_with fail
        go_ret2
        refine ⟨none, 0, ?_, ?_, ?_, (fun _ h => nomatch h)⟩
        · rw [U1.out, U2.out]; rfl
        · rw [U2.out]; exact StrsAt.nil _ _
        · exact Below.refl _ _
    · obtain rfl : k = ss.length := by omega
      have hall := allRight_ok (fun j hj => Hk.out j hj)
      obtain ⟨u1, u2⟩ := unique_right (ss := ss) (by omega) hall
      have U1 := Lib.hid u1
      have U2 := Lib.hid u2
      have HAll := Lib.hid hall
      clear u1 u2 hall Hk hk
      obtain ⟨i0, hi, hz0, hz1, hz2⟩ := info_parts strInfo
      have Hi := Lib.hid hi
      have Hz0 := Lib.hid hz0
      have Hz1 := Lib.hid hz1
      have Hz2 := Lib.hid hz2
      clear hi hz0 hz1 hz2
      go_wp2_with fail
      go_loopw [5, 6, 7] (fun vo vg i wr => ∃ k : Nat, k ≤ ss.length ∧ i = .int .i64 k ∧ wr.ownsRow w.heap.size 9 1 vo k ((outU ss k).map Value.string) ∧ wr.ownsRow w.heap.size 9 1 vg (outG ss k).length ((outG ss k).map Value.string) ∧ Hid (∀ j, vo.ownBlock = some j → vg.ownBlock = some j → False) ∧ Below w.heap.size w wr) (fun _ _ i _ => ss.length - (RowKit.intOf i).toNat)
      case atStart => exact ⟨0, Nat.zero_le _, rfl, World.ownsRow_nil _ _ _ _, World.ownsRow_nil _ _ _ _, (fun j h => by cases h), Below.refl _ _⟩
      case round =>
        obtain ⟨k, hk, rfl, hor, hog, hdis, hb2⟩ := hrel
        by_cases hlt : k < ss.length
        · obtain ⟨b, off, rfl, hbl, hc⟩ := HA.out k hlt
          have hc := (hb2.cell (p := ⟨b, off + k, none⟩) hbl).trans hc
          have hsk := HS.out k hlt
          have hbr := allRight_at HAll.out hlt
          have hpk : pickU ss (outU ss k) k = if hasB (ss.take k) (ss.getD k ByteArray.empty) then bcopy (ss.getD k ByteArray.empty) (nextN (ss ++ outU ss k) (ss.getD k ByteArray.empty)) else ss.getD k ByteArray.empty := rfl
          have hgk : outG ss (k + 1) = if hasB (ss.take k) (ss.getD k ByteArray.empty) then outG ss k ++ [pickU ss (outU ss k) k] else outG ss k := rfl
          generalize hx : ss.getD k ByteArray.empty = x at hc hsk hbr hpk hgk
          have Hx := Lib.hid hx
          have Hbr := Lib.hid hbr
          clear hx hbr
          obtain ⟨wo, rfl⟩ : ∃ wo : World, wo = wr := ⟨_, rfl⟩
          have HSa := Lib.hid (HA.out.keeps hb2)
          have HSk := Lib.hid (HSa.out.take k)
          have HC : Hid (∀ n W, Below wo.heap.size wo W → n = k → ∀ c, Calls Tryd.prog 68 #[.slice (some ⟨b, off, none⟩) n c, .string x] W fun e w' => e = .returned (.bool (hasB (ss.take k) x)) ∧ w' = W) :=
            fun n W hW hn c => has_call _ n c (ss.take k) x W (by rw [hn, List.length_take]; omega) (by rw [List.length_take]; omega) (HSk.out.keeps hW)
          by_cases hin : hasB (ss.take k) x = true
          · rw [hin] at hpk hgk HC
            obtain ⟨n1, n2, n3, n4⟩ := nextN_spec (T := ss ++ outU ss k) Hbr.out (by simp [outU_length]; omega)
            have hlenT : (ss ++ outU ss k).length = ss.length + k := by simp [outU_length]
            rw [hlenT] at n2
            generalize hmm' : nextN (ss ++ outU ss k) x = m at hpk n1 n2 n3 n4
            have Hpk := Lib.hid hpk
            have Hgk := Lib.hid hgk
            have N3 := Lib.hid n3
            have N4 := Lib.hid n4
            have hGl := outG_length ss k
            obtain ⟨ga, gc, rfl, hga⟩ := strsAt_own hog
            have HGa := Lib.hid hga
            clear hpk hgk n3 n4 hmm' hlenT hin hga
            have HCl : Hid (∀ W y, Below wo.heap.size wo W → Calls Tryd.prog 68 #[.slice (some ⟨b, off, none⟩) ss.length cap, .string y] W fun e w' => e = .returned (.bool (hasB ss y)) ∧ w' = W) :=
              fun W y hW => has_call _ _ cap ss y W rfl (by omega) (HSa.out.keeps hW)
            have HCg : Hid (∀ W y, Below wo.heap.size wo W → Calls Tryd.prog 68 #[.slice ga (outG ss k).length gc, .string y] W fun e w' => e = .returned (.bool (hasB (outG ss k) y)) ∧ w' = W) :=
              fun W y hW => has_call _ _ gc (outG ss k) y W rfl (by omega) (HGa.out.keeps hW)
            have HCp : Hid (∀ z : Int, 1 ≤ z → z ≤ m → ∀ W, Calls Tryd.prog 69 #[.string x, .int .i64 z] W fun e w' => e = .returned (.tuple #[.string (bcopy x z.toNat), .int .i64 0]) ∧ Below W.heap.size W w') := fun z hj1 hj2 W => by
              have h := rcopy_any x z W hsk
              rw [(copy_right (l := x.data.toList) (n := z) Hbr.out (by omega)).2] at h
              unfold bcopy
              rw [Int.toNat_of_nonneg (by omega)]
              exact h
            have hkc : (k : Int) ≤ (cap : Int) := by omega
            go_wp2_with fail
            go_quiet ((go_at_call 68; exact Calls.quiet_of_same (HC.out _ _ (below_drewN (Below.refl _ _) _) rfl _)))
            have hbq0 := below_drewN (Below.refl wo.heap.size wo) nq
            go_wp2_with fail
            refine (HCp.out _ (by omega) (by omega) _).mono ?_
            rintro e w1 ⟨rfl, hb1⟩
            have hbq1 := hbq0.trans (hb1.mono (by simp))
            clear hbq0 hb1
            go_wp2_with fail
            go_loopw [8, 9] (fun nv gv wq => ∃ j : Nat, 1 ≤ j ∧ j ≤ m ∧ nv = .int .i64 j ∧ gv = .string (bcopy x j) ∧ Below wo.heap.size wo wq) (fun nv _ _ => m - (RowKit.intOf nv).toNat)
            case atStart => exact ⟨1, by omega, by omega, rfl, rfl, hbq1⟩
            case round =>
              obtain ⟨j, hj1, hj2, rfl, rfl, hbq⟩ := hrel
              have hc := (hbq.cell (p := ⟨b, off + k, none⟩) (by have := hb2.size; exact Nat.lt_of_lt_of_le hbl this)).trans hc
              by_cases hjm : j < m
              · have hmem := (mem_outU ss k hk _).1 (N4.out j hj1 hjm)
                rw [List.mem_append, ← hasB_iff, ← hasB_iff] at hmem
                by_cases h1 : hasB ss (bcopy x j) = true
                · go_wp2_with fail
                  refine (HCl.out _ _ hbq).mono ?_
                  rw [h1]
                  rintro e w' ⟨rfl, rfl⟩
                  go_wp2_with fail
                  refine (HCp.out _ (by omega) (by omega) _).mono ?_
                  rintro e w2 ⟨rfl, hb7⟩
                  go_wp2_with fail
                  go_roundw
                  case rel => exact ⟨j + 1, by omega, by omega, by go_num, rfl, hbq.trans (hb7.mono hbq.size)⟩
                  case measure => simp [RowKit.intOf]; omega
                · have h2 : hasB (outG ss k) (bcopy x j) = true := hmem.resolve_left h1
                  have h1 : hasB ss (bcopy x j) = false := by simpa using h1
                  clear hmem
                  go_wp2_with fail
                  refine (HCl.out _ _ hbq).mono ?_
                  rw [h1]
                  rintro e w' ⟨rfl, rfl⟩
                  go_wp2_with fail
                  refine (HCg.out _ _ hbq).mono ?_
                  rw [h2]
                  rintro e w' ⟨rfl, rfl⟩
                  go_wp2_with fail
                  refine (HCp.out _ (by omega) (by omega) _).mono ?_
                  rintro e w2 ⟨rfl, hb7⟩
                  go_wp2_with fail
                  go_roundw
                  case rel => exact ⟨j + 1, by omega, by omega, by go_num, rfl, hbq.trans (hb7.mono hbq.size)⟩
                  case measure => simp [RowKit.intOf]; omega
              · obtain rfl : j = m := by omega
                have hnm : ¬ (bcopy x j ∈ ss ++ outG ss k) := fun h => N3.out ((mem_outU ss k hk _).2 h)
                rw [List.mem_append] at hnm
                have h1 : hasB ss (bcopy x j) = false := hasB_not.2 fun h => hnm (.inl h)
                have h2 : hasB (outG ss k) (bcopy x j) = false := hasB_not.2 fun h => hnm (.inr h)
                clear hnm
                have hb2 := hb2.trans (hbq.mono hb2.size)
                have hor := ownsRow_below hor hbq
                have hog := ownsRow_below hog hbq
                go_wp2_with fail
                refine (HCl.out _ _ hbq).mono ?_
                rw [h1]
                rintro e w' ⟨rfl, rfl⟩
                go_wp2_with fail
                refine (HCg.out _ _ hbq).mono ?_
                rw [h2]
                rintro e w' ⟨rfl, rfl⟩
                clear h1 h2 hc
                go_wp2_with (at_builtin; refine wpList_append_own_at _ rfl _ _ 63 rfl w.heap.size 9 i0 (.string ⟨#[]⟩) 1 16 Tryd.underlying63 Hi.out Hz0.out Hz1.out Hz2.out rfl (by decide) _ _ _ rfl (hog.alloc _) ⟨w'.heap.size, 0, none⟩ 1 1 [.string (bcopy x j)] rfl rfl (cell_one_new _ _ _) (by intro u hu; simp at hu; subst hu; rfl) (by unfold maxLen; omega) (by omega) (by simp; have := hb2.size; omega) ?_)
                intro v1 w3 hog3 hg3 _ hat3
                have hor3 := (hor.alloc (.cells #[.string (bcopy x j)] 9)).kept hg3 (dis_ne fun i h1 h2 => hdis.out i h2 h1)
                have hb3 := (hb2.alloc (by simpa using hb2.size) (.cells #[.string (bcopy x j)] 9)).grown hg3 (by have := hb2.size; simp; omega) (fun i ej => (hog.lt _ ej).1)
                have Hdis3 : Hid (∀ i, u5.ownBlock = some i → v1.ownBlock = some i → False) := fun i h1 h2 => by
                  rcases hat3 with h | h
                  · exact hdis.out i h1 (by rw [← h]; exact h2)
                  · rw [h2] at h
                    have := (hor.lt i h1).2
                    simp at h
                    omega
                clear hog hg3 hat3 hor
                go_wp2_with (at_builtin; refine wpList_append_own_at _ rfl _ _ 63 rfl w.heap.size 9 i0 (.string ⟨#[]⟩) 1 16 Tryd.underlying63 Hi.out Hz0.out Hz1.out Hz2.out rfl (by decide) _ _ _ rfl (hor3.alloc _) ⟨w3.heap.size, 0, none⟩ 1 1 [.string (bcopy x j)] rfl rfl (cell_one_new _ _ _) (by intro u hu; simp at hu; subst hu; rfl) (by unfold maxLen; omega) (by omega) (by simp; have := hb3.size; omega) ?_)
                intro v2 w5 hor5 hg5 _ hat5
                have hog5 := (hog3.alloc (.cells #[.string (bcopy x j)] 9)).kept hg5 (dis_ne Hdis3.out)
                have hb5 := (hb3.alloc (by simpa using hb3.size) (.cells #[.string (bcopy x j)] 9)).grown hg5 (by have := hb3.size; simp; omega) (fun i ej => (hor3.lt _ ej).1)
                have Hdis : Hid (∀ i, v2.ownBlock = some i → v1.ownBlock = some i → False) := fun i h1 h2 => by
                  rcases hat5 with h | h
                  · exact Hdis3.out i (by rw [← h]; exact h1) h2
                  · rw [h1] at h
                    have := (hog3.lt i h2).2
                    simp at h this
                    omega
                have ho : outU ss (k + 1) = outU ss k ++ [bcopy x j] := by rw [outU, Hpk.out]; rfl
                have hgg : outG ss (k + 1) = outG ss k ++ [bcopy x j] := by rw [Hgk.out, Hpk.out]; simp
                have Ho := Lib.hid ho
                have Hgg := Lib.hid hgg
                clear ho hgg hor3 hog3 hg5 hat5
                go_wp2_with fail
                go_roundw
                case rel =>
                  refine ⟨k + 1, by omega, by go_num, ?_, ?_, Hdis, hb5⟩
                  · rw [Ho.out, List.map_append]; exact hor5
                  · rw [Hgg.out, List.map_append, List.length_append]; exact hog5
                case measure => simp [RowKit.intOf]; omega
          · have hin : hasB (ss.take k) x = false := by simpa using hin
            rw [hin] at hpk hgk
            have Hpk := Lib.hid hpk
            have Hgk := Lib.hid hgk
            clear hpk hgk
            rw [hin] at HC
            clear hin
            have hkc : (k : Int) ≤ (cap : Int) := by omega
            go_wp2_with fail
            go_quiet ((go_at_call 68; exact Calls.quiet_of_same (HC.out _ _ (below_drewN (Below.refl _ _) _) rfl _)))
            have hor0 := ownsRow_below hor (below_drewN (Below.refl _ _) nq)
            have hog0 := ownsRow_below hog (below_drewN (Below.refl _ _) nq)
            clear hor hog
            go_wp2_with (at_builtin; refine wpList_append_own_at _ rfl _ _ 63 rfl w.heap.size 9 i0 (.string ⟨#[]⟩) 1 16 Tryd.underlying63 Hi.out Hz0.out Hz1.out Hz2.out rfl (by decide) _ _ _ rfl (hor0.alloc _) ⟨(wo.drewN nq).heap.size, 0, none⟩ 1 1 [.string x] rfl rfl (cell_one_new _ _ _) (by intro u hu; simp at hu; subst hu; rfl) (by unfold maxLen; omega) (by omega) (by simp; have := hb2.size; omega) ?_)
            intro v' w5 hor5 hg5 _ hat
            have hog5 := (hog0.alloc (.cells #[.string x] 9)).kept hg5 (dis_ne hdis.out)
            have hb5 := ((below_drewN hb2 nq).alloc (by simpa using hb2.size) (.cells #[.string x] 9)).grown hg5 (by have := hb2.size; simp; omega) (fun j ej => (hor0.lt _ ej).1)
            have Hdis : Hid (∀ j, v'.ownBlock = some j → u6.ownBlock = some j → False) := fun j h1 h2 => by
              rcases hat with h | h
              · exact hdis.out j (by rw [← h]; exact h1) h2
              · rw [h1] at h
                have := (hog0.lt j h2).2
                simp at h this
                omega
            have ho : outU ss (k + 1) = outU ss k ++ [x] := by rw [outU, Hpk.out]; rfl
            have hgg : outG ss (k + 1) = outG ss k := by rw [Hgk.out]; simp
            have Ho := Lib.hid ho
            have Hgg := Lib.hid hgg
            clear ho hgg hor0 hog0 hg5 hat
            go_wp2_with fail
            go_roundw
            case rel =>
              refine ⟨k + 1, by omega, by go_num, ?_, ?_, Hdis, hb5⟩
              · rw [Ho.out, List.map_append]; exact hor5
              · rw [Hgg.out]; exact hog5
            case measure => simp [RowKit.intOf]; omega
        · obtain rfl : k = ss.length := by omega
          have hse := strsAt_own' hor
          go_wp2_with fail
          obtain ⟨va, vc, rfl, hva, hvl⟩ := hse
          go_ret2
          refine ⟨va, vc, ?_, ?_, hb2, fun ad e => by have := hvl ad e; omega⟩
          · rw [U1.out, U2.out]; rfl
          · rw [U2.out]; exact hva
theorem runique_any (a : Option Addr) (cap : Nat) (ss : List ByteArray) (w : World) (hl : ss.length ≤ 1000) (hcap : ss.length ≤ cap) (ha : StrsAt w a ss) (hsz : ∀ j, j < ss.length → (ss.getD j ByteArray.empty).size ≤ 140737488351232) :
    Calls Tryd.prog 47 #[.slice a ss.length cap] w fun e w' => ∃ v cap' : _, e = .returned (.tuple #[.slice v (uniqueL ss).length cap', .int .i64 (uniqueN ss)]) ∧ StrsAt w' v (uniqueL ss) ∧ Below w.heap.size w w' :=
  (runique_new a cap ss w hl hcap ha hsz).mono fun _ _ ⟨v, c, h1, h2, h3, _⟩ => ⟨v, c, h1, h2, h3⟩
end Go.Proofs.YtfbdbjookkogjaaDoor

