/-
  below: the paths of an entry and of all in it.
-/
import Derived.Test.YtgjgeojhhglidaaDoorFsW3
import Derived.Test.YtgjgeojhhglidaaDoorAppends
import Derived.Maps.RangeWalk
import Derived.Sort.KeysCollected
import Derived.Sort.OwnSorted
namespace Go.Proofs.YtgjgeojhhglidaaDoor
open Go Go.RowKit Go.Lib

theorem key_in {es : List Ent} {x : List UInt8} {y : DataW Unit} (h : ∀ zd, (datE es).atKey (.string x) zd = y) : ∃ e ∈ es, e.path = ba x := by
  have h1 := h (.lit (.bool true))
  have h2 := h (.lit (.bool false))
  rw [show (Lit.string x) = .string (ba x).data.toList from rfl, dat_at] at h1 h2
  cases hf : findE es (ba x) with
  | some e => exact ⟨e, find_some hf⟩
  | none =>
    rw [hf] at h1 h2
    rw [← h2] at h1
    cases h1
theorem pref_under {q p : ByteArray} (h : rightsL q.data.toList = true) : Lib.hasPrefix q.data.toList (p ++ ⟨#[47]⟩ : ByteArray).data.toList = underB q p := by
  rw [Bool.eq_iff_iff, underE_iff]
  unfold Lib.hasPrefix
  rw [List.isPrefixOf_iff_prefix, ByteArray.data_append, Array.toList_append]
  constructor
  · rintro ⟨r, hr⟩
    have e : q.data.toList = p.data.toList ++ 47 :: r := by rw [← hr]; simp
    refine ⟨r, ?_, e⟩
    rw [e, rights_join, Bool.and_eq_true] at h
    exact rights_ne h.2
  · rintro ⟨r, _, e⟩
    exact ⟨r, by rw [e]; simp⟩
/-- Which keys are collected. -/
def inK (p : ByteArray) (x : List UInt8) : Bool := inE p (ba x)
theorem inK_snoc (p : ByteArray) (l : List (List UInt8)) (x : List UInt8) : ((l ++ [x]).filter (inK p)).map ba = if inK p x then (l.filter (inK p)).map ba ++ [ba x] else (l.filter (inK p)).map ba := by
  rw [List.filter_append, List.map_append]
  cases h : inK p x <;> simp [h]
theorem below_perm {es : List Ent} {p : ByteArray} {l : List (List UInt8)} (h : l.Perm (es.map pB)) : ((l.filter (inK p)).map ba).Perm ((es.map (·.path)).filter (inE p)) := by
  refine ((h.filter (inK p)).map ba).trans (List.Perm.of_eq ?_)
  rw [List.filter_map, List.filter_map, List.map_map]
  have e : (inK p ∘ pB) = (inE p ∘ fun x : Ent => x.path) := by
    funext x
    show inE p (ba x.path.data.toList) = inE p x.path
    rw [ba_back]
  rw [e]
  refine List.map_congr_left fun x _ => ?_
  show ba x.path.data.toList = x.path
  exact ba_back _
set_option maxRecDepth 100000 in
set_option maxHeartbeats 3200000 in
/-- **below.** -/
theorem fbelow_any (fb mb : Nat) (f : Fs) (p : ByteArray) (w : World) (h : FAt w fb mb f) (hok : FsOK f) (hp : p.size ≤ 100000) :
    Calls Tryd.prog 51 #[.pointer (some ⟨fb, 0, none⟩), .string p] w fun e w' => ∃ v ss, e = .returned v ∧ OwnRows strLay w' w.heap.size 9 v ss ∧ ss.Perm ((f.es.map (·.path)).filter (inE p)) ∧ Below w.heap.size w w' := by
  obtain ⟨i0, hi, hz0, hz1, hz2⟩ := info_parts strInfo
  have Hi := Lib.hid hi
  have Hz0 := Lib.hid hz0
  have Hz1 := Lib.hid hz1
  have Hz2 := Lib.hid hz2
  clear hi hz0 hz1 hz2
  have hown : w.ownsMap Tryd.prog 9 rowE mb f.es.length (datE f.es) := h.2
  have hbl := h.2.lt
  have k1 := h.1.2.2 1 _ rfl
  have hfew := hok.few
  have hdsz := dat_size f.es
  have Hpath := Lib.hid hok.path
  have hA1 : ¬ (p.size + 1 > 9223372036854775807) := by omega
  have hA2 : p.size + 1 ≤ 9223372036854775807 := by omega
  go_enter Tryd.func51, Tryd.ntmps51
  go_wp2_with (at_range; refine wpList_range_own _ rfl _ 68 rfl 9 38 keyL Tryd.underlying68 _ mb _ _ rfl hown ?_; intro w0 hrg0 hg0 hs0)
  go_frame
  go_loopw [5, 6] (fun o _ wr => ∃ (left : Lit → Bool) (cnt : Nat) (all : List (List UInt8)), wr.ranges Tryd.prog 9 rowE mb w.heap.size f.es.length (datE f.es) left cnt ∧ all.length + cnt ≤ Go.Maps.size (datE f.es) ∧
      OwnRows strLay wr w.heap.size 9 o ((all.filter (inK p)).map ba) ∧ Hid (Collected (datE f.es) left all) ∧ Below w.heap.size w wr)
    (fun _ _ wr => wr.rangeLeft mb w.heap.size)
  case atStart =>
    exact ⟨_, _, [], hrg0, by simp, OwnRows.nil _ _ _ _, Lib.hid (Collected.start _), (Below.refl _ _).grown hg0 (Nat.le_refl _) (fun j hj => by cases hj)⟩
  case round =>
    obtain ⟨left, cnt, all, hrg, hcs, hrow, HC, hnx⟩ := hrel
    go_wp2_with (at_next; refine wpList_next_ranges _ rfl _ rfl 9 keyL rowE Value.string Ent.val (fun key kl hk => by obtain ⟨x, hx, _⟩ := Go.Maps.keyOf_str Tryd.underlying9 hk; exact ⟨ba x, hx⟩) (fun v y hv => by obtain ⟨c, rfl, _⟩ := rowE_inv hv; exact ⟨c, rfl⟩) mb w.heap.size f.es.length _ _ _ rfl hrg ?_ ?_)
    · intro hc0 hl0
      have hperm : all.Perm (f.es.map pB) := by
        rw [← dat_keys]
        exact HC.out.perm hown keyL Tryd.underlying9 hl0
      have hp1 := below_perm (p := p) hperm
      clear hperm
      have Hp1 := Lib.hid hp1
      clear hp1
      go_wp2_with fail
      go_ret
      exact ⟨_, _, rfl, hrow, Hp1.out, hnx⟩
    · intro q0 c kl yd yp w2 cnt2 hkey hlk hv hat hrg2 hlt hg2 hs2 hen
      obtain ⟨x, ex, rfl, _⟩ := Go.Maps.keyOf_str Tryd.underlying9 hkey
      obtain rfl : q0 = ba x := Value.string.inj ex
      obtain ⟨e0, he0, hep⟩ := key_in hat
      have HC2 := Lib.hid (HC.out.step hlk hat)
      have hrow2 : OwnRows strLay w2 w.heap.size 9 _ ((all.filter (inK p)).map ba) := hrow.kept hg2 (.inr (row_ne_iter hrow hrg).symm)
      have hnx2 := hnx.grown hg2 hnx.size (fun j hj => by cases hj; exact Nat.le_refl _)
      have hen2 : (Instr.entry (.pointer (some ⟨w.heap.size, 0, none⟩))).run Tryd.prog w2 = .ok (.tuple #[.string (ba x), c.val]) w2 := hen
      have hqs : (ba x).size ≤ 400 := by
        rw [← hep]
        exact path_size (Hpath.out e0 he0)
      have Hpu := Lib.hid (pref_under (q := ba x) (p := p) (by rw [← hep]; exact path_rights (Hpath.out e0 he0)))
      have hla : ((all.filter (inK p)).map ba).length ≤ 300 := by
        rw [List.length_map]
        have := List.length_filter_le (inK p) all
        omega
      clear hs2 hkey ex hen he0 hep hat hv
      obtain ⟨q, hq⟩ : ∃ q, ba x = q := ⟨_, rfl⟩
      rw [hq] at hen2 hqs Hpu
      rw [hq]
      have Hq := Lib.hid hq
      have HK := Lib.hid (show inK p x = (decide (q = p) || underB q p) by rw [← hq]; rfl)
      clear hq
      generalize hacc : (all.filter (inK p)).map ba = acc at *
      have Hacc := Lib.hid hacc
      clear hacc
      by_cases h1 : q = p
      · have e1 := str_eq h1
        have Hin := Lib.hid (show inK p x = true by rw [HK.out, decide_eq_true h1]; rfl)
        clear h1
        go_wp2_with (at_builtin; refine wpList_append_rows _ rfl _ _ 76 rfl strLay w.heap.size 9 i0 (.string ⟨#[]⟩) 16 Tryd.underlying76 Hi.out Hz0.out Hz1.out Hz2.out rfl (by decide) _ _ rfl (hrow2.alloc _) ⟨w2.heap.size, 0, none⟩ 1 q rfl (cells_new_at w2 w2.heap.size #[.string q] 9 rfl) (by unfold maxLen; omega) (by omega) (by have := hnx2.size; simp; omega) ?_; intro va w3 hrow3 hg3 _; go_frame)
        have hb3 := (hnx2.alloc hnx2.size (.cells #[.string q] 9)).grown hg3 (by have := hnx2.size; simp; omega) (fun j ej => (hrow2.lt ej).1)
        have hrg3 := (hrg2.alloc (.cells #[.string q] 9)).kept hg3 (row_ne_low hrow2 hbl) (row_ne_iter hrow2 hrg2)
        go_roundw
        case rel => exact ⟨_, cnt2, all ++ [x], hrg3, by rw [List.length_append]; simp only [List.length_cons, List.length_nil]; omega, by rw [inK_snoc, if_pos Hin.out, Hq.out]; rw [Hacc.out]; exact hrow3, HC2, hb3⟩
        case measure => rw [hrg3.left_eq, hrg.left_eq]; exact hlt
      · have e1 := str_ne h1
        have HK2 := Lib.hid (show inK p x = underB q p by rw [HK.out, decide_eq_false h1]; rfl)
        clear h1
        have HP := Lib.hid fun W => (Tryd.strings_HasPrefix q (p ++ ⟨#[47]⟩) W).mono fun _ _ h => (⟨h.1, h.2.symm⟩ : _ ∧ W = _)
        rw [Hpu.out] at HP
        cases hu : underB q p with
        | true =>
          rw [hu] at HP
          have Hin := Lib.hid (show inK p x = true by rw [HK2.out, hu])
          clear hu
          go_wp2_with fail
          refine (HP.out _).mono ?_
          rintro e w9 ⟨rfl, rfl⟩
          go_wp2_with (at_builtin; refine wpList_append_rows _ rfl _ _ 76 rfl strLay w.heap.size 9 i0 (.string ⟨#[]⟩) 16 Tryd.underlying76 Hi.out Hz0.out Hz1.out Hz2.out rfl (by decide) _ _ rfl (hrow2.alloc _) ⟨w2.heap.size, 0, none⟩ 1 q rfl (cells_new_at w2 w2.heap.size #[.string q] 9 rfl) (by unfold maxLen; omega) (by omega) (by have := hnx2.size; simp; omega) ?_; intro va w3 hrow3 hg3 _; go_frame)
          have hb3 := (hnx2.alloc hnx2.size (.cells #[.string q] 9)).grown hg3 (by have := hnx2.size; simp; omega) (fun j ej => (hrow2.lt ej).1)
          have hrg3 := (hrg2.alloc (.cells #[.string q] 9)).kept hg3 (row_ne_low hrow2 hbl) (row_ne_iter hrow2 hrg2)
          go_roundw
          case rel => exact ⟨_, cnt2, all ++ [x], hrg3, by rw [List.length_append]; simp only [List.length_cons, List.length_nil]; omega, by rw [inK_snoc, if_pos Hin.out, Hq.out]; rw [Hacc.out]; exact hrow3, HC2, hb3⟩
          case measure => rw [hrg3.left_eq, hrg.left_eq]; exact hlt
        | false =>
          rw [hu] at HP
          have Hin := Lib.hid (show inK p x = false by rw [HK2.out, hu])
          clear hu
          go_wp2_with fail
          refine (HP.out _).mono ?_
          rintro e w9 ⟨rfl, rfl⟩
          go_wp2_with fail
          go_roundw
          case rel => exact ⟨_, cnt2, all ++ [x], hrg2, by rw [List.length_append]; simp only [List.length_cons, List.length_nil]; omega, by rw [inK_snoc, if_neg (by rw [Hin.out]; exact Bool.false_ne_true), Hacc.out]; exact hrow2, HC2, hnx2⟩
          case measure => rw [hrg2.left_eq, hrg.left_eq]; exact hlt
end Go.Proofs.YtgjgeojhhglidaaDoor
