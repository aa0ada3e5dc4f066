/-
  The reference's file system: at, stands. The reference's put. The reference's made, Mkdir. The reference's Mkdir, Write, Get. The reference's Remove. The reference's Rename.
-/
import Derived.Test.YtgjgeojhhglidaaDoorFsX4
import Derived.BigQuiet
import Derived.Laws.Cover1
import Derived.Test.YtgjgeojhhglidaaDoorAppends
import Derived.Deep.CutRange
import Derived.StillTailTactics
namespace Go.Proofs.YtgjgeojhhglidaaDoor
open Go Go.RowKit Go.Lib

theorem find_none_of {es : List Ent} {p : ByteArray} (h : ∀ x ∈ es, x.path ≠ p) : findE es p = none :=
  List.find?_eq_none.2 fun x hx e => h x hx (of_decide_eq_true e)
theorem less_iff {x y : ByteArray} : Op.bytesLess x.toList y.toList = true ↔ x.data.toList < y.data.toList := by
  rw [less_before, toList_data, toList_data, before_lt, decide_eq_true_eq]
theorem at_no {es : List Ent} (hr : Rising es) {p : ByteArray} {k : Nat} {x : Ent} (hx : es[k]? = some x) (hlo : ∀ (j : Nat) (y : Ent), j < k → es[j]? = some y → Op.bytesLess y.path.toList p.toList = true) (hb : Op.bytesLess x.path.toList p.toList = false) (hne : x.path ≠ p) : findE es p = none := by
  refine find_none_of fun y hy e => ?_
  obtain ⟨j, hj⟩ := List.mem_iff_getElem?.1 hy
  rcases Nat.lt_trichotomy j k with h | h | h
  · have h1 := less_iff.1 (hlo j y h hj)
    rw [e] at h1
    exact List.lt_irrefl _ h1
  · subst h
    rw [hx] at hj
    cases hj
    exact hne e
  · obtain ⟨hx1, hx2⟩ := List.getElem?_eq_some_iff.1 hx
    obtain ⟨hj1, hj2⟩ := List.getElem?_eq_some_iff.1 hj
    have h1 := List.pairwise_iff_getElem.1 hr k j hx1 hj1 h
    rw [hx2, hj2] at h1
    unfold befE pB at h1
    rw [before_lt, decide_eq_true_eq, e] at h1
    rw [less_iff.2 h1] at hb
    cases hb
theorem at_end {es : List Ent} {p : ByteArray} (hlo : ∀ (j : Nat) (y : Ent), j < es.length → es[j]? = some y → Op.bytesLess y.path.toList p.toList = true) : findE es p = none := by
  refine find_none_of fun y hy e => ?_
  obtain ⟨j, hj⟩ := List.mem_iff_getElem?.1 hy
  have h1 := less_iff.1 (hlo j y (List.getElem?_eq_some_iff.1 hj).1 hj)
  rw [e] at h1
  exact List.lt_irrefl _ h1
set_option maxRecDepth 100000 in
set_option maxHeartbeats 1600000 in
/-- **at.** -/
theorem rat_any (rb : Nat) (a : Option Addr) (cap : Nat) (n : Int) (es : List Ent) (p : ByteArray) (w : World) (hV : VarAt w rb [.slice a es.length cap, .int .i64 n]) (hR : RowsAt entLay w a es) (hr : Rising es) (hl : es.length ≤ 1000) :
    Calls Tryd.prog 40 #[.pointer (some ⟨rb, 0, none⟩), .string p] w fun e w' => ∃ k : Nat, e = .returned (.tuple #[.int .i64 k, .bool (findE es p).isSome]) ∧ (∀ x, findE es p = some x → es[k]? = some x) ∧ ∃ n, w' = w.drewN n := by
  have c0 := hV.2.2 0 _ rfl
  have HR := Lib.hid hR
  have Hr := Lib.hid hr
  clear hR hr hV
  go_enter Tryd.func40, Tryd.ntmps40
  go_wp2_with fail
  go_loopw [6] (fun i wr => ∃ k : Nat, k ≤ es.length ∧ i = .int .i64 k ∧ Hid (∀ (j : Nat) (y : Ent), j < k → es[j]? = some y → Op.bytesLess y.path.toList p.toList = true) ∧ wr = w) (fun i _ => es.length - (RowKit.intOf i).toNat)
  case atStart => exact ⟨0, Nat.zero_le _, rfl, Lib.hid (fun j y hj => absurd hj (Nat.not_lt_zero _)), rfl⟩
  case round =>
    obtain ⟨k, hk, rfl, HK, hwr⟩ := hrel
    rw [hwr]
    clear hwr wr
    by_cases hlt : k < es.length
    · obtain ⟨x, hx⟩ := at_some hlt
      obtain ⟨b, off, rfl, hbl, d0, d1, d2, d3⟩ := ent_at HR.out hx
      have hlti : (k : Int) < (es.length : Int) := by omega
      have hlti0 : (0 : Int) ≤ (k : Int) := by omega
      have Hx := Lib.hid hx
      clear hx d1 d2 d3
      cases hb : Op.bytesLess x.path.toList p.toList with
      | true =>
        go_wp2_with fail
        go_roundw
        case rel =>
          refine ⟨k + 1, by omega, by go_num, Lib.hid (fun j y hj hy => ?_), by first | rfl | trivial⟩
          by_cases e : j = k
          · subst e
            rw [Hx.out] at hy
            cases hy
            exact hb
          · exact HK.out j y (by omega) hy
        case measure => simp [RowKit.intOf]; omega
      | false =>
        by_cases h1 : x.path = p
        · have e1 := str_eq h1
          have Hf := Lib.hid (show findE es p = some x by rw [← h1]; exact find_of Hr.out (List.mem_of_getElem? Hx.out))
          clear h1
          go_wp2_with fail
          go_quiet (fail)
          go_wp2_with fail
          refine bodyPost_ret (v := .tuple #[.int .i64 k, .bool true]) (by simp [results, Tryd.results40, go_sem]) rfl ⟨k, by rw [Hf.out]; rfl, fun y hy => ?_, nq, rfl⟩
          rw [Hf.out] at hy
          cases hy
          exact Hx.out
        · have e1 := str_ne h1
          have Hf := Lib.hid (at_no Hr.out Hx.out HK.out hb h1)
          clear h1
          go_wp2_with fail
          go_quiet (fail)
          go_wp2_with fail
          refine bodyPost_ret (v := .tuple #[.int .i64 k, .bool false]) (by simp [results, Tryd.results40, go_sem]) rfl ⟨k, by rw [Hf.out]; rfl, fun y hy => ?_, nq, rfl⟩
          rw [Hf.out] at hy
          cases hy
    · obtain rfl : k = es.length := by omega
      have Hf := Lib.hid (at_end HK.out)
      go_wp2_with fail
      refine bodyPost_ret (v := .tuple #[.int .i64 es.length, .bool false]) (by simp [results, Tryd.results40, go_sem]) rfl ⟨es.length, by rw [Hf.out]; rfl, fun y hy => ?_, 0, (World.drewN_zero _).symm⟩
      rw [Hf.out] at hy
      cases hy
theorem stands_empty {es : List Ent} {p : ByteArray} (hp : rightsL p.data.toList = true) (h : dirE p = ⟨#[]⟩) : standsE es p = true := by
  rcases slash_spec p with ⟨h1, _⟩ | ⟨a, b, h1, h2, h3⟩
  · exact stands_neg h1
  · exfalso
    have h4 := dir_list h1 h3
    have h5 : dirE p = p.extract 0 (slashI p).toNat := if_neg (by omega)
    rw [← h5, h] at h4
    have h6 : a = [] := h4.symm
    rw [h1, h6, rights_join, rights_nil, Bool.false_and] at hp
    cases hp
theorem stands_dir {es : List Ent} {p : ByteArray} (h : dirE p ≠ ⟨#[]⟩) : standsE es p = ((findE es (dirE p)).map (·.dir)).getD false := by
  unfold dirE at *
  split at h
  · exact absurd rfl h
  · rename_i h1
    rw [if_neg h1]
    unfold standsE isDirE
    rw [decide_eq_false h1]
    rfl
set_option maxRecDepth 100000 in
set_option maxHeartbeats 1600000 in
/-- **stands.** -/
theorem rstands_any (rb : Nat) (a : Option Addr) (cap : Nat) (n : Int) (es : List Ent) (p : ByteArray) (w : World) (hV : VarAt w rb [.slice a es.length cap, .int .i64 n]) (hR : RowsAt entLay w a es) (hr : Rising es) (hl : es.length ≤ 1000) (hp : p.size ≤ 100000) (hpr : rightsL p.data.toList = true) :
    Calls Tryd.prog 42 #[.pointer (some ⟨rb, 0, none⟩), .string p] w fun e w' => e = .returned (.bool (standsE es p)) ∧ ∃ n, w' = w.drewN n := by
  have c0 := hV.2.2 0 _ rfl
  have HD := Lib.hid (rdir_any p w hp)
  have HA := Lib.hid (rat_any rb a cap n es (dirE p) w hV hR hr hl)
  by_cases hd : dirE p = ⟨#[]⟩
  · have Hs := Lib.hid (stands_empty (es := es) hpr hd)
    rw [hd] at HA HD
    clear hd hV hR hr hpr
    go_enter Tryd.func42, Tryd.ntmps42
    go_wp2_with fail
    refine HD.out.mono ?_
    rintro e w1 ⟨rfl, rfl⟩
    go_wp2_with fail
    refine HA.out.mono ?_
    rintro e w2 ⟨k, rfl, _, n2, rfl⟩
    go_wp2_with fail
    go_ret
    exact ⟨ret_bool Hs.out.symm, n2, rfl⟩
  · have qd := empty_ne hd
    have hs := stands_dir (es := es) hd
    generalize dirE p = d at *
    cases hf : findE es d with
    | none =>
      have Hs := Lib.hid (show standsE es p = false by rw [hs, hf]; rfl)
      rw [hf] at HA
      clear hd hV hR hr hpr hf hs
      go_enter Tryd.func42, Tryd.ntmps42
      go_wp2_with fail
      refine HD.out.mono ?_
      rintro e w1 ⟨rfl, rfl⟩
      go_wp2_with fail
      refine HA.out.mono ?_
      rintro e w2 ⟨k, rfl, _, n2, rfl⟩
      go_wp2_with fail
      go_ret
      exact ⟨ret_bool Hs.out.symm, n2, rfl⟩
    | some u =>
      have Hs := Lib.hid (show standsE es p = u.dir by rw [hs, hf]; rfl)
      rw [hf] at HA
      have HR := Lib.hid hR
      clear hd hV hR hr hpr hf hs
      go_enter Tryd.func42, Tryd.ntmps42
      go_wp2_with fail
      refine HD.out.mono ?_
      rintro e w1 ⟨rfl, rfl⟩
      go_wp2_with fail
      refine HA.out.mono ?_
      rintro e w2 ⟨k, rfl, hk, n2, rfl⟩
      have hku := hk u rfl
      have hlt := (List.getElem?_eq_some_iff.1 hku).1
      obtain ⟨b, off, rfl, hbl, d0, d1, d2, d3⟩ := ent_at HR.out hku
      clear hk hku
      go_wp2_with fail
      go_ret
      exact ⟨ret_bool Hs.out.symm, n2, rfl⟩
theorem ins_none {x : Ent} : ∀ {l : List Ent} (m : List Ent), (∀ y ∈ l, befE x y = false) → insE x (l ++ m) = l ++ insE x m
  | [], _, _ => rfl
  | y :: r, m, h => by
    have h1 := h y List.mem_cons_self
    show (if befE x y then x :: y :: (r ++ m) else y :: insE x (r ++ m)) = _
    rw [if_neg (by rw [h1]; exact Bool.noConfusion), ins_none m (fun z hz => h z (List.mem_cons_of_mem _ hz))]
    rfl
theorem ins_some {x : Ent} : ∀ {l : List Ent} (m : List Ent), (∃ y ∈ l, befE x y = true) → insE x (l ++ m) = insE x l ++ m
  | [], _, h => by obtain ⟨_, h, _⟩ := h; cases h
  | y :: r, m, h => by
    show (if befE x y then x :: y :: (r ++ m) else y :: insE x (r ++ m)) = (if befE x y then x :: y :: r else y :: insE x r) ++ m
    cases hb : befE x y with
    | true => rfl
    | false =>
      rw [if_neg Bool.false_ne_true, if_neg Bool.false_ne_true, ins_some m ?_]
      · rfl
      · obtain ⟨z, hz, hz2⟩ := h
        rcases List.mem_cons.1 hz with rfl | hz
        · rw [hb] at hz2
          cases hz2
        · exact ⟨z, hz, hz2⟩
end Go.Proofs.YtgjgeojhhglidaaDoor

namespace Go.Proofs.YtgjgeojhhglidaaDoor
open Go Go.RowKit Go.Lib

/-- What put has built behind k entries. -/
def putK (x : Ent) (l : List Ent) (k : Nat) (d : Bool) : List Ent := if d then insE x (l.take k) else l.take k
def PutR (x : Ent) (l : List Ent) (k : Nat) (d : Bool) : Prop := (d = true ∧ ∃ y ∈ l.take k, befE x y = true) ∨ (d = false ∧ ∀ y ∈ l.take k, befE x y = false)
theorem take_snoc {α : Type} {l : List α} {k : Nat} {y : α} (h : l[k]? = some y) : l.take (k + 1) = l.take k ++ [y] := by
  rw [List.take_add_one, h]
  rfl
theorem put_done {x y : Ent} {l : List Ent} {k : Nat} (h : PutR x l k true) (hy : l[k]? = some y) : putK x l (k + 1) true = putK x l k true ++ [y] ∧ PutR x l (k + 1) true := by
  rcases h with ⟨_, z, hz, hb⟩ | ⟨h, _⟩
  · unfold putK PutR
    rw [take_snoc hy, if_pos rfl, if_pos rfl]
    exact ⟨ins_some _ ⟨z, hz, hb⟩, .inl ⟨rfl, z, List.mem_append_left _ hz, hb⟩⟩
  · cases h
theorem put_now {x y : Ent} {l : List Ent} {k : Nat} (h : PutR x l k false) (hy : l[k]? = some y) (hb : befE x y = true) : putK x l (k + 1) true = putK x l k false ++ [x] ++ [y] ∧ PutR x l (k + 1) true := by
  rcases h with ⟨h, _⟩ | ⟨_, hn⟩
  · cases h
  · unfold putK PutR
    rw [take_snoc hy, if_pos rfl, if_neg Bool.false_ne_true]
    refine ⟨?_, .inl ⟨rfl, y, List.mem_append_right _ (List.mem_singleton.2 rfl), hb⟩⟩
    rw [ins_none _ hn, List.append_assoc]
    congr 1
    show (if befE x y then [x, y] else _) = _
    rw [if_pos hb]
    rfl
theorem put_not {x y : Ent} {l : List Ent} {k : Nat} (h : PutR x l k false) (hy : l[k]? = some y) (hb : befE x y = false) : putK x l (k + 1) false = putK x l k false ++ [y] ∧ PutR x l (k + 1) false := by
  rcases h with ⟨h, _⟩ | ⟨_, hn⟩
  · cases h
  · unfold putK PutR
    rw [take_snoc hy, if_neg Bool.false_ne_true, if_neg Bool.false_ne_true]
    refine ⟨rfl, .inr ⟨rfl, fun z hz => ?_⟩⟩
    rcases List.mem_append.1 hz with hz | hz
    · exact hn z hz
    · rw [List.mem_singleton.1 hz]
      exact hb
theorem put_end {x : Ent} {l : List Ent} {d : Bool} (h : PutR x l l.length d) : putK x l l.length d ++ (if d then [] else [x]) = insE x l := by
  unfold putK PutR at *
  rw [List.take_length] at *
  rcases h with ⟨rfl, _⟩ | ⟨rfl, hn⟩
  · rw [if_pos rfl, if_pos rfl, List.append_nil]
  · rw [if_neg Bool.false_ne_true, if_neg Bool.false_ne_true]
    have := ins_none [] hn
    rw [List.append_nil] at this
    exact this.symm
theorem putK_len (x : Ent) (l : List Ent) (k : Nat) (d : Bool) : (putK x l k d).length ≤ l.length + 1 := by
  have h := List.length_take_le' k l
  unfold putK
  split
  · rw [len_ins]
    omega
  · omega
theorem bef_facts {x y : Ent} (h : befE x y = true) : Op.bytesLess y.path.toList x.path.toList = false ∧ (y.path.toList == x.path.toList) = false := by
  constructor
  · refine bool_f fun e => ?_
    have h1 := less_iff.1 e
    unfold befE pB at h
    rw [before_lt, decide_eq_true_eq] at h
    exact List.lt_irrefl _ (List.lt_trans h h1)
  · exact str_ne (fun e => befE_ne h e.symm)
theorem bef_not {x y : Ent} (h : befE x y = false) : Op.bytesLess y.path.toList x.path.toList = true ∨ (Op.bytesLess y.path.toList x.path.toList = false ∧ (y.path.toList == x.path.toList) = true) := by
  by_cases e : x.path = y.path
  · refine .inr ⟨bool_f fun e2 => ?_, str_eq e.symm⟩
    have h1 := less_iff.1 e2
    rw [e] at h1
    exact List.lt_irrefl _ h1
  · rcases befE_total e with h1 | h1
    · rw [h] at h1
      cases h1
    · refine .inl (less_iff.2 ?_)
      unfold befE pB at h1
      rwa [before_lt, decide_eq_true_eq] at h1
set_option maxRecDepth 100000 in
set_option maxHeartbeats 3200000 in
/-- **put.** -/
theorem rput_any (a : Option Addr) (cap : Nat) (l : List Ent) (x : Ent) (w : World) (hR : RowsAt entLay w a l) (hl : l.length ≤ 1000) :
    Calls Tryd.prog 44 #[.slice a l.length cap, x.val] w fun e w' => ∃ v, e = .returned v ∧ OwnRows entLay w' w.heap.size 38 v (insE x l) ∧ Below w.heap.size w w' := by
  obtain ⟨i0, hi, hz0, hz1, hz2⟩ := info_parts fentInfo
  have Hi := Lib.hid hi
  have Hz0 := Lib.hid hz0
  have Hz1 := Lib.hid hz1
  have Hz2 := Lib.hid hz2
  clear hi hz0 hz1 hz2
  obtain ⟨xp, xi, xd, xs⟩ := x
  show Calls _ _ #[_, .agg #[.string xp, .int .i64 xi, .bool xd, .string xs]] _ _
  have hal := (Below.refl w.heap.size w).alloc (Nat.le_refl _) (.cells #[.string xp, .int .i64 xi, .bool xd, .string xs] 38)
  have HR := Lib.hid (hR.keeps hal)
  have hV := VarAt.new w #[.string xp, .int .i64 xi, .bool xd, .string xs] 38
  obtain ⟨bx, hbx⟩ : ∃ bx, bx = w.heap.size := ⟨_, rfl⟩
  rw [← hbx] at hV
  have Hbx := Lib.hid hbx
  clear hR hbx
  go_enter Tryd.func44, Tryd.ntmps44
  go_wp2_with fail
  rw [← Hbx.out]
  generalize w.alloc (.cells #[.string xp, .int .i64 xi, .bool xd, .string xs] 38) = W1 at *
  go_loopw [5, 6, 7] (fun v dn i wr => ∃ (k : Nat) (d : Bool), k ≤ l.length ∧ i = .int .i64 k ∧ dn = .bool d ∧ OwnRows entLay wr W1.heap.size 38 v (putK ⟨xp, xi, xd, xs⟩ l k d) ∧ Hid (PutR ⟨xp, xi, xd, xs⟩ l k d) ∧ Below W1.heap.size W1 wr) (fun _ _ i _ => l.length - (RowKit.intOf i).toNat)
  case atStart => exact ⟨0, false, Nat.zero_le _, rfl, rfl, OwnRows.nil _ _ _ _, Lib.hid (.inr ⟨rfl, fun y hy => by rw [List.take_zero] at hy; cases hy⟩), Below.refl _ _⟩
  case round =>
    obtain ⟨k, d, hk, rfl, rfl, ho, HP, hb⟩ := hrel
    have hVr := hV.keeps hb hV.1
    have v0 : wr.cell? ⟨bx, 0, none⟩ = some (.string xp) := hVr.2.2 0 _ rfl
    have v1 : wr.cell? ⟨bx, 1, none⟩ = some (.int .i64 xi) := hVr.2.2 1 _ rfl
    have v2 : wr.cell? ⟨bx, 2, none⟩ = some (.bool xd) := hVr.2.2 2 _ rfl
    have v3 : wr.cell? ⟨bx, 3, none⟩ = some (.string xs) := hVr.2.2 3 _ rfl
    have hlen := putK_len ⟨xp, xi, xd, xs⟩ l k d
    by_cases hlt : k < l.length
    · obtain ⟨y, hy⟩ := at_some hlt
      obtain ⟨b, off, rfl, hbl, d0, d1, d2, d3⟩ := ent_at (HR.out.keeps hb) hy
      have hlti : (k : Int) < (l.length : Int) := by omega
      have hlti0 : (0 : Int) ≤ (k : Int) := by omega
      have HC := Lib.hid (show ∀ W, Below W1.heap.size W1 W → W.cell? ⟨b, off + k * 4, none⟩ = some (.string y.path) ∧ W.cell? ⟨b, off + k * 4 + 1, none⟩ = some (.int .i64 y.id) ∧ W.cell? ⟨b, off + k * 4 + 2, none⟩ = some (.bool y.dir) ∧ W.cell? ⟨b, off + k * 4 + 3, none⟩ = some (.string y.data) from fun W h => by
        obtain ⟨b', off', e, _, g0, g1, g2, g3⟩ := ent_at (HR.out.keeps h) hy
        cases e
        exact ⟨g0, g1, g2, g3⟩)
      have Hy := Lib.hid hy
      obtain ⟨yp, yi, yd, ys⟩ := y
      dsimp only at d0 d1 d2 d3 HC
      clear hy
      go_upto_region 6 with fail
      go_cut [25] from 8 to 36 (fun c wx => c = .bool (!d && befE ⟨xp, xi, xd, xs⟩ ⟨yp, yi, yd, ys⟩) ∧ ∃ n, wx = wr.drewN n)
      case first =>
        cases d with
        | true =>
          go_quiet (fail)
          go_wp2_with fail
          go_meet
          exact ⟨rfl, nq, rfl⟩
        | false =>
          cases hq : befE ⟨xp, xi, xd, xs⟩ ⟨yp, yi, yd, ys⟩ with
          | true =>
            obtain ⟨f1, f2⟩ := bef_facts hq
            dsimp only at f1 f2
            have Hq := Lib.hid hq
            clear hq
            go_quiet (fail)
            go_wp2_with fail
            go_meet
            exact ⟨by rw [Hq.out]; rfl, nq, rfl⟩
          | false =>
            rcases bef_not hq with f1 | ⟨f1, f2⟩
            · dsimp only at f1
              have Hq := Lib.hid hq
              clear hq
              go_quiet (fail)
              go_wp2_with fail
              go_meet
              exact ⟨by rw [Hq.out]; rfl, nq, rfl⟩
            · dsimp only at f1 f2
              have Hq := Lib.hid hq
              clear hq
              go_quiet (fail)
              go_wp2_with fail
              go_meet
              exact ⟨by rw [Hq.out]; rfl, nq, rfl⟩
      case rest =>
        obtain ⟨hc, nq, hwc⟩ := hcut
        have ho2 := ho.drewN nq
        rw [← hwc] at ho2
        have hb2 := belowDrew hb nq
        rw [← hwc] at hb2
        replace v0 : wc.cell? ⟨bx, 0, none⟩ = some (.string xp) := by rw [hwc]; exact v0
        replace v1 : wc.cell? ⟨bx, 1, none⟩ = some (.int .i64 xi) := by rw [hwc]; exact v1
        replace v2 : wc.cell? ⟨bx, 2, none⟩ = some (.bool xd) := by rw [hwc]; exact v2
        replace v3 : wc.cell? ⟨bx, 3, none⟩ = some (.string xs) := by rw [hwc]; exact v3
        obtain ⟨g0, g1, g2, g3⟩ := HC.out wc hb2
        clear ho hb hVr d0 d1 d2 d3 hbl hwc wr
        cases d with
        | true =>
          obtain ⟨hn, hrel2⟩ := put_done HP.out Hy.out
          have HN := Lib.hid hn
          clear hn
          generalize putK ⟨xp, xi, xd, xs⟩ l k true = acc at *
          replace hc := hc.trans (show _ = Value.bool false from rfl)
          subst hc
          go_wp2_with (at_builtin; refine wpList_append_rows _ rfl _ _ 26 rfl entLay W1.heap.size 38 i0 (.agg #[.string ⟨#[]⟩, .int .i64 0, .bool false, .string ⟨#[]⟩]) 48 Tryd.underlying26 Hi.out Hz0.out Hz1.out Hz2.out rfl (by decide) _ acc rfl (ho2.alloc _) ⟨wc.heap.size, 0, none⟩ 1 ⟨yp, yi, yd, ys⟩ rfl (cells_new_at wc wc.heap.size #[.string yp, .int .i64 yi, .bool yd, .string ys] 38 rfl) (by unfold maxLen; omega) (by omega) (by have := hb2.size; simp; omega) ?_)
          intro va1 w5 ho5 hg1 _
          have hb5 := (hb2.alloc hb2.size (.cells #[.string yp, .int .i64 yi, .bool yd, .string ys] 38)).grown hg1 (by have := hb2.size; simp; omega) (fun j ej => (ho2.lt ej).1)
          clear hg1 ho2
          go_wp2_with fail
          go_roundw
          case rel => exact ⟨k + 1, true, by omega, by go_num, rfl, by rw [HN.out]; exact ho5, Lib.hid hrel2, hb5⟩
          case measure => simp [RowKit.intOf]; omega
        | false =>
          cases hq : befE ⟨xp, xi, xd, xs⟩ ⟨yp, yi, yd, ys⟩ with
          | true =>
            obtain ⟨hn, hrel2⟩ := put_now HP.out Hy.out hq
            have HN := Lib.hid hn
            replace hc := hc.trans (show _ = Value.bool true by rw [hq]; rfl)
            subst hc
            clear hn hq
            generalize putK ⟨xp, xi, xd, xs⟩ l k false = acc at *
            go_wp2_with (at_builtin; refine wpList_append_rows _ rfl _ _ 26 rfl entLay W1.heap.size 38 i0 (.agg #[.string ⟨#[]⟩, .int .i64 0, .bool false, .string ⟨#[]⟩]) 48 Tryd.underlying26 Hi.out Hz0.out Hz1.out Hz2.out rfl (by decide) _ acc rfl (ho2.alloc _) ⟨wc.heap.size, 0, none⟩ 1 ⟨xp, xi, xd, xs⟩ rfl (cells_new_at wc wc.heap.size #[.string xp, .int .i64 xi, .bool xd, .string xs] 38 rfl) (by unfold maxLen; omega) (by omega) (by have := hb2.size; simp; omega) ?_)
            intro va1 w5 ho5 hg1 _
            have hb5 := (hb2.alloc hb2.size (.cells #[.string xp, .int .i64 xi, .bool xd, .string xs] 38)).grown hg1 (by have := hb2.size; simp; omega) (fun j ej => (ho2.lt ej).1)
            clear hg1 ho2
            obtain ⟨g0, g1, g2, g3⟩ := HC.out w5 hb5
            have hlen2 : (acc ++ [(⟨xp, xi, xd, xs⟩ : Ent)]).length ≤ 1002 := by rw [List.length_append]; simp; omega
            obtain ⟨acc2, hacc2⟩ : ∃ acc2, acc ++ [(⟨xp, xi, xd, xs⟩ : Ent)] = acc2 := ⟨_, rfl⟩
            rw [hacc2] at ho5 hlen2 HN
            go_wp2_with (at_builtin; refine wpList_append_rows _ rfl _ _ 26 rfl entLay W1.heap.size 38 i0 (.agg #[.string ⟨#[]⟩, .int .i64 0, .bool false, .string ⟨#[]⟩]) 48 Tryd.underlying26 Hi.out Hz0.out Hz1.out Hz2.out rfl (by decide) _ acc2 rfl (ho5.alloc _) ⟨w5.heap.size, 0, none⟩ 1 ⟨yp, yi, yd, ys⟩ rfl (cells_new_at w5 w5.heap.size #[.string yp, .int .i64 yi, .bool yd, .string ys] 38 rfl) (by unfold maxLen; omega) (by omega) (by have := hb5.size; simp; omega) ?_)
            intro va2 w6 ho6 hg2 _
            have hb6 := (hb5.alloc hb5.size (.cells #[.string yp, .int .i64 yi, .bool yd, .string ys] 38)).grown hg2 (by have := hb5.size; simp; omega) (fun j ej => (ho5.lt ej).1)
            clear hg2 ho5
            go_wp2_with fail
            go_roundw
            case rel => exact ⟨k + 1, true, by omega, by go_num, rfl, by rw [HN.out]; exact ho6, Lib.hid hrel2, hb6⟩
            case measure => simp [RowKit.intOf]; omega
          | false =>
            obtain ⟨hn, hrel2⟩ := put_not HP.out Hy.out hq
            have HN := Lib.hid hn
            replace hc := hc.trans (show _ = Value.bool false by rw [hq]; rfl)
            subst hc
            clear hn hq
            generalize putK ⟨xp, xi, xd, xs⟩ l k false = acc at *
            go_wp2_with (at_builtin; refine wpList_append_rows _ rfl _ _ 26 rfl entLay W1.heap.size 38 i0 (.agg #[.string ⟨#[]⟩, .int .i64 0, .bool false, .string ⟨#[]⟩]) 48 Tryd.underlying26 Hi.out Hz0.out Hz1.out Hz2.out rfl (by decide) _ acc rfl (ho2.alloc _) ⟨wc.heap.size, 0, none⟩ 1 ⟨yp, yi, yd, ys⟩ rfl (cells_new_at wc wc.heap.size #[.string yp, .int .i64 yi, .bool yd, .string ys] 38 rfl) (by unfold maxLen; omega) (by omega) (by have := hb2.size; simp; omega) ?_)
            intro va1 w5 ho5 hg1 _
            have hb5 := (hb2.alloc hb2.size (.cells #[.string yp, .int .i64 yi, .bool yd, .string ys] 38)).grown hg1 (by have := hb2.size; simp; omega) (fun j ej => (ho2.lt ej).1)
            clear hg1 ho2
            go_wp2_with fail
            go_roundw
            case rel => exact ⟨k + 1, false, by omega, by go_num, rfl, by rw [HN.out]; exact ho5, Lib.hid hrel2, hb5⟩
            case measure => simp [RowKit.intOf]; omega
    · obtain rfl : k = l.length := by omega
      have hend := put_end HP.out
      have hbz := hal.trans (hb.mono hal.size)
      cases d with
      | true =>
        rw [if_pos rfl, List.append_nil] at hend
        rw [hend] at ho
        go_wp2_with fail
        go_ret
        exact ⟨_, rfl, ho.lower hal.size, hbz⟩
      | false =>
        rw [if_neg Bool.false_ne_true] at hend
        have HN := Lib.hid hend
        clear hend
        generalize putK ⟨xp, xi, xd, xs⟩ l l.length false = acc at *
        go_wp2_with (at_builtin; refine wpList_append_rows _ rfl _ _ 26 rfl entLay W1.heap.size 38 i0 (.agg #[.string ⟨#[]⟩, .int .i64 0, .bool false, .string ⟨#[]⟩]) 48 Tryd.underlying26 Hi.out Hz0.out Hz1.out Hz2.out rfl (by decide) _ acc rfl (ho.alloc _) ⟨wr.heap.size, 0, none⟩ 1 ⟨xp, xi, xd, xs⟩ rfl (cells_new_at wr wr.heap.size #[.string xp, .int .i64 xi, .bool xd, .string xs] 38 rfl) (by unfold maxLen; omega) (by omega) (by have := hb.size; simp; omega) ?_)
        intro va1 w5 ho5 hg1 _
        have hb5 := (hb.alloc hb.size (.cells #[.string xp, .int .i64 xi, .bool xd, .string xs] 38)).grown hg1 (by have := hb.size; simp; omega) (fun j ej => (ho.lt ej).1)
        clear hg1 ho
        rw [HN.out] at ho5
        go_wp2_with fail
        go_ret
        exact ⟨_, rfl, ho5.lower hal.size, hal.trans (hb5.mono hal.size)⟩
end Go.Proofs.YtgjgeojhhglidaaDoor

namespace Go.Proofs.YtgjgeojhhglidaaDoor
open Go Go.RowKit Go.Lib

theorem flat_set {α : Type} (L : Lay α) : ∀ (xs : List α) (k : Nat) (x y : α) (f : Nat) (u : Value), xs[k]? = some x → f < L.sz → L.cells y = (L.cells x).set f u → flat L (xs.set k y) = (flat L xs).set (k * L.sz + f) u
  | [], k, x, y, f, u, h, _, _ => by simp at h
  | z :: r, 0, x, y, f, u, h, hf, hy => by
    simp only [List.getElem?_cons_zero, Option.some.injEq] at h
    subst h
    show L.cells y ++ flat L r = (L.cells z ++ flat L r).set (0 * L.sz + f) u
    rw [Nat.zero_mul, Nat.zero_add, List.set_append_left _ _ (by rw [L.len]; exact hf), hy]
  | z :: r, k + 1, x, y, f, u, h, hf, hy => by
    simp only [List.getElem?_cons_succ] at h
    show L.cells z ++ flat L (r.set k y) = (L.cells z ++ flat L r).set ((k + 1) * L.sz + f) u
    rw [List.set_append_right _ _ (by rw [L.len, Nat.succ_mul]; omega), L.len, flat_set L r k x y f u h hf hy]
    congr 2
    rw [Nat.succ_mul]
    omega
theorem OwnRows.at_field {α : Type} {L : Lay α} {w : World} {base : Nat} {e : TypeId} {v : Value} {xs : List α} (h : OwnRows L w base e v xs) {k : Nat} {x y : α} {f : Nat} {u : Value} (hk : xs[k]? = some x) (hf : f < L.sz) (hy : L.cells y = (L.cells x).set f u) :
    ∃ g cap, v = .slice (some ⟨g, 0, none⟩) xs.length cap ∧ base ≤ g ∧ (∀ i, w.frozen? ⟨g, i, none⟩ = false) ∧ OwnRows L (w.setCell ⟨g, k * L.sz + f, none⟩ u) base e v (xs.set k y) := by
  have hkl : k < xs.length := (List.getElem?_eq_some_iff.1 hk).1
  rcases h.2 with ⟨rfl, hx⟩ | ⟨g, cap, cur, rfl, hg, hgg, hcap, hcm, hcs, htk⟩
  · exfalso
    have : xs.length = 0 := by simpa using hx
    omega
  · refine ⟨g, cap, rfl, hg, fun i => by simp [World.frozen?, hgg], ?_, .inr ⟨g, cap, cur.set! (k * L.sz + f) u, ?_, hg, ?_, ?_, hcm, ?_, ?_⟩⟩
    · rw [flat_length]
    · simp
    · simp [World.setCell, Array.getElem?_modify, hgg]
    · simpa using hcap
    · simpa using hcs
    · rw [flat_set L xs k x y f u hk hf hy]
      simp only [Array.set!_eq_setIfInBounds, Array.toList_setIfInBounds, List.length_set] at htk ⊢
      rw [List.take_set, htk]
theorem put_set : ∀ {es : List Ent} (k : Nat) (x y : Ent), Rising es → es[k]? = some x → y.path = x.path → putE es y = es.set k y
  | [], k, x, y, _, h, _ => by simp at h
  | z :: r, 0, x, y, hr, h, e => by
    simp only [List.getElem?_cons_zero, Option.some.injEq] at h
    subst h
    obtain ⟨h1, h2⟩ := List.pairwise_cons.1 hr
    have h3 : delE (z :: r) y.path = r := by
      show List.filter _ (z :: r) = r
      rw [List.filter_cons_of_neg (by simp [e])]
      refine List.filter_eq_self.2 fun v hv => ?_
      have := befE_ne (h1 v hv)
      simp only [Bool.not_eq_true', decide_eq_false_iff_not]
      rw [e]
      exact fun h => this h.symm
    show insE y (delE (z :: r) y.path) = y :: r
    rw [h3]
    cases r with
    | nil => rfl
    | cons v r =>
      have h4 : befE y v = true := by
        have := h1 v List.mem_cons_self
        unfold befE pB at *
        rw [e]
        exact this
      show (if befE y v then _ else _) = _
      rw [if_pos h4]
  | z :: r, k + 1, x, y, hr, h, e => by
    simp only [List.getElem?_cons_succ] at h
    obtain ⟨h1, h2⟩ := List.pairwise_cons.1 hr
    have hzx := h1 x (List.mem_of_getElem? h)
    have h3 : delE (z :: r) y.path = z :: delE r y.path := by
      show List.filter _ (z :: r) = _
      rw [List.filter_cons_of_pos (by simp only [Bool.not_eq_true', decide_eq_false_iff_not]; rw [e]; exact befE_ne hzx)]
      rfl
    have h4 : befE y z = false := by
      have : befE y z = befE x z := by
        unfold befE pB
        rw [e]
      rw [this]
      exact befE_asym hzx
    show insE y (delE (z :: r) y.path) = z :: r.set k y
    rw [h3]
    show (if befE y z then _ else z :: insE y (delE r y.path)) = _
    rw [if_neg (by rw [h4]; exact Bool.noConfusion), ← put_set k x y h2 h e]
    rfl

theorem own_lowR {α : Type} {L : Lay α} {w : World} {base : Nat} {e : TypeId} {v : Value} {xs : List α} (h : OwnRows L w base e v xs) : ∃ a cap, v = .slice a xs.length cap ∧ RowsAt L w a xs ∧ xs.length ≤ cap ∧ (∀ ad, a = some ad → base ≤ ad.block ∧ ad.block < w.heap.size) ∧ v.ownBlock = a.map (·.block) := by
  obtain ⟨a, cap, rfl, h1, h2⟩ := h.read
  refine ⟨a, cap, rfl, h1, h2, fun ad e => ?_, ?_⟩
  · subst e
    rcases h.2 with ⟨h3, _⟩ | ⟨g, cap', cur, h3, hg, hgg, _⟩
    · cases h3
    · cases h3
      exact ⟨hg, (Array.getElem?_eq_some_iff.1 hgg).1⟩
  · cases a <;> rfl
/-- The reference's file system lies in block rb, its entries in the row of v. -/
structure RAt (w : World) (rb base : Nat) (v : Value) (f : Fs) : Prop where
  var : VarAt w rb [v, .int .i64 f.n]
  rows : OwnRows entLay w base 38 v f.es
  ne : v.ownBlock ≠ some rb
/-- What a call of it may change. -/
def RS (rb : Nat) (v : Value) : Nat → Prop := fun k => k = rb ∨ v.ownBlock = some k
theorem RAt.below {w w' : World} {rb base : Nat} {v : Value} {f : Fs} (h : RAt w rb base v f) (hb : Below w.heap.size w w') : RAt w' rb base v f := ⟨h.var.keeps hb h.var.1, h.rows.below hb, h.ne⟩
set_option maxRecDepth 100000 in
set_option maxHeartbeats 1600000 in
/-- **made.** -/
theorem rmade_any (rb base : Nat) (v : Value) (f : Fs) (x : Ent) (w : World) (h : RAt w rb base v f) (hr : Rising f.es) (hl : f.es.length ≤ 300) (hn : f.n ≤ 1000000) (hp : x.path.size ≤ 100000) (hpr : rightsL x.path.data.toList = true) (hno : findE f.es x.path = none) (hbase : base ≤ w.heap.size) :
    Calls Tryd.prog 41 #[.pointer (some ⟨rb, 0, none⟩), x.val] w fun e w' => e = .returned (.int .i64 (madeF f x).2) ∧ ∃ v', RAt w' rb base v' (madeF f x).1 ∧ (v' = v ∨ ∀ k, v'.ownBlock = some k → w.heap.size ≤ k) ∧ Turned (RS rb v) w.heap.size w w' := by
  obtain ⟨xp, xi, xd, xs⟩ := x
  dsimp only at hp hpr hno
  show Calls _ _ #[_, .agg #[.string xp, .int .i64 xi, .bool xd, .string xs]] _ _
  have hal := (Below.refl w.heap.size w).alloc (Nat.le_refl _) (.cells #[.string xp, .int .i64 xi, .bool xd, .string xs] 38)
  have hRA := h.below hal
  have hV := VarAt.new w #[.string xp, .int .i64 xi, .bool xd, .string xs] 38
  obtain ⟨bx, hbx⟩ : ∃ bx, bx = w.heap.size := ⟨_, rfl⟩
  rw [← hbx] at hV
  have hrbx : rb < bx := by rw [hbx]; exact h.var.1
  have HM0 := Lib.hid (made_no (f := f) (x := ⟨xp, xi, xd, xs⟩))
  have HM1 := Lib.hid (made_full (f := f) (x := ⟨xp, xi, xd, xs⟩))
  have hput : putE f.es ⟨xp, (f.n : Int) + 1, xd, xs⟩ = insE ⟨xp, (f.n : Int) + 1, xd, xs⟩ f.es := by
    unfold putE
    rw [delE_none hno]
  have HM2 := made_yes (f := f) (x := ⟨xp, xi, xd, xs⟩)
  dsimp only at HM2
  rw [hput] at HM2
  replace HM2 := Lib.hid HM2
  obtain ⟨av, cv, rfl, hrow0, hcv, hlow, hown⟩ := own_lowR h.rows
  have hrow := hrow0.keeps hal
  have hnrb : ∀ ad, av = some ad → ad.block < w.heap.size ∧ ¬ ad.block = rb := fun ad e => ⟨(hlow ad e).2, fun e2 => h.ne (by rw [hown, e, ← e2]; rfl)⟩
  have hrbw := h.var.1
  have c0 := hRA.var.2.2 0 _ rfl
  have v0 : (w.alloc (.cells #[.string xp, .int .i64 xi, .bool xd, .string xs] 38)).cell? ⟨bx, 0, none⟩ = some (.string xp) := hV.2.2 0 _ rfl
  have HS := Lib.hid (rstands_any rb av cv f.n f.es xp _ hRA.var hrow hr (by omega) hp hpr)
  obtain ⟨M, hM⟩ : ∃ M, madeF f ⟨xp, xi, xd, xs⟩ = M := ⟨_, rfl⟩
  rw [hM] at HM0 HM1 HM2 ⊢
  dsimp only at HM0 HM1
  have Hbx := Lib.hid hbx
  clear hM hput hno h hbx hlow hown
  have hts := Turned.of_below (S := fun k => k = rb) hal (Nat.le_refl _)
  have ht := Turned.of_below (S := RS rb (.slice av f.es.length cv)) hal (Nat.le_refl _)
  rw [Hbx.out] at v0
  generalize standsE f.es xp = st at *
  cases st with
  | false =>
    have hM := Lib.hid (HM0.out rfl)
    go_enter Tryd.func41, Tryd.ntmps41
    go_wp2_with fail
    rw [← Hbx.out]
    clear v0
    generalize w.alloc (.cells #[.string xp, .int .i64 xi, .bool xd, .string xs] 38) = W1 at *
    refine HS.out.mono ?_
    rintro e w2 ⟨rfl, n2, rfl⟩
    go_wp2_with fail
    go_ret
    rw [hM.out]
    exact ⟨rfl, _, hRA.below (belowDrew (Below.refl _ W1) n2), .inl rfl, ht.drewN n2⟩
  | true =>
    by_cases h300 : 300 ≤ f.es.length
    · have hM := Lib.hid (HM1.out rfl h300)
      go_enter Tryd.func41, Tryd.ntmps41
      go_wp2_with fail
      rw [← Hbx.out]
      clear v0
      generalize w.alloc (.cells #[.string xp, .int .i64 xi, .bool xd, .string xs] 38) = W1 at *
      refine HS.out.mono ?_
      rintro e w2 ⟨rfl, n2, rfl⟩
      go_wp2_with fail
      go_ret
      rw [hM.out]
      exact ⟨rfl, _, hRA.below (belowDrew (Below.refl _ W1) n2), .inl rfl, ht.drewN n2⟩
    · have hM := Lib.hid (HM2.out rfl h300)
      go_enter Tryd.func41, Tryd.ntmps41
      go_wp2_with fail
      rw [← Hbx.out]
      clear v0
      generalize w.alloc (.cells #[.string xp, .int .i64 xi, .bool xd, .string xs] 38) = W1 at *
      refine HS.out.mono ?_
      rintro e w2 ⟨rfl, n2, rfl⟩
      have hR2 := hRA.below (belowDrew (Below.refl _ W1) n2)
      have hV2 := hV.drew n2
      have ht2 := ht.drewN n2
      have hts2 := hts.drewN n2
      generalize W1.drewN n2 = W2 at *
      have k1 := hR2.var.2.2 1 _ rfl
      have f1 := hR2.var.2.1 1
      have k0 := hR2.var.2.2 0 _ rfl
      have hV3 := hV2.other (k := rb) (i := 1) (.int .i64 ((f.n : Int) + 1)) (by omega)
      have b1 := hV3.2.2 1 _ rfl
      have g1 := hV3.2.1 1
      go_wp2_with fail
      have hX := (hR2.var.set 1 (.int .i64 ((f.n : Int) + 1)) (by simp)).other (k := bx) (i := 1) (.int .i64 ((f.n : Int) + 1)) (by omega)
      have hY := hV3.set 1 (.int .i64 ((f.n : Int) + 1)) (by simp)
      have hbxw : bx = w.heap.size := Hbx.out
      have ht3 := (ht2.set 1 (.int .i64 ((f.n : Int) + 1)) (b := rb) (fun _ => .inl rfl)).set 1 (.int .i64 ((f.n : Int) + 1)) (b := bx) (fun e => by omega)
      have hts3 := (hts2.set 1 (.int .i64 ((f.n : Int) + 1)) (b := rb) (fun _ => rfl)).set 1 (.int .i64 ((f.n : Int) + 1)) (b := bx) (fun e => by omega)
      have hrow3 := hrow0.turned hts3 hnrb
      have hz3 := hts3.size
      generalize (W2.setCell ⟨rb, 1, none⟩ (.int .i64 ((f.n : Int) + 1))).setCell ⟨bx, 1, none⟩ (.int .i64 ((f.n : Int) + 1)) = W3 at *
      dsimp only [List.set] at hX hY
      clear hbxw hV3 hR2 hV2 ht2 hts2 k1 f1 k0 b1 g1 hts hts3 ht hrow hrow0 hRA hV HS hal c0
      have k0 : W3.drew.cell? ⟨rb, 0, none⟩ = some (.slice av f.es.length cv) := hX.2.2 0 _ rfl
      have y0 : W3.drew.cell? ⟨bx, 0, none⟩ = some (.string xp) := hY.2.2 0 _ rfl
      have y1 : W3.drew.cell? ⟨bx, 1, none⟩ = some (.int .i64 ((f.n : Int) + 1)) := hY.2.2 1 _ rfl
      have y2 : W3.drew.cell? ⟨bx, 2, none⟩ = some (.bool xd) := hY.2.2 2 _ rfl
      have y3 : W3.drew.cell? ⟨bx, 3, none⟩ = some (.string xs) := hY.2.2 3 _ rfl
      have l0 : W3.cell? ⟨rb, 0, none⟩ = some (.slice av f.es.length cv) := hX.2.2 0 _ rfl
      have m0 : W3.cell? ⟨bx, 0, none⟩ = some (.string xp) := hY.2.2 0 _ rfl
      have m1 : W3.cell? ⟨bx, 1, none⟩ = some (.int .i64 ((f.n : Int) + 1)) := hY.2.2 1 _ rfl
      have m2 : W3.cell? ⟨bx, 2, none⟩ = some (.bool xd) := hY.2.2 2 _ rfl
      have m3 : W3.cell? ⟨bx, 3, none⟩ = some (.string xs) := hY.2.2 3 _ rfl
      have HP := Lib.hid fun W h => rput_any av cv f.es ⟨xp, (f.n : Int) + 1, xd, xs⟩ W h (by omega)
      have HX := Lib.hid hX
      have HRW := Lib.hid hrow3
      clear hX hY hrow3
      go_region_law ((go_simp; go_at_call 44; refine (HP.out _ (by exact HRW.out)).mono ?_; rintro e w4 ⟨v', rfl, ho4, hb4⟩; obtain ⟨av2, cv2, rfl, hrow2, hcv2⟩ := ho4.read; have hX4 := VarAt.keeps (W := W3.drew) HX.out hb4 HX.out.1; have q0 := hX4.2.2 0 _ rfl; have qf := hX4.2.1 0))
      all_goals
        go_wp2_with fail
        go_ret
        rw [hM.out]
        have hz4 := hb4.size
        have hzd : W3.drew.heap.size = W3.heap.size := rfl
        refine ⟨rfl, _, ⟨hX4.set 0 _ (by simp), (ho4.turned (S := fun k => k = rb) ((Turned.refl _ _ _).set 0 _ (fun _ => rfl)) (fun k hk => by rw [hk]; omega)).lower (by omega), fun e => ?_⟩, .inr fun k hk => ?_, ((ht3.drewN 1).trans (Turned.of_below (W := W3.drewN 1) hb4 (by omega))).set 0 _ (fun _ => .inl rfl)⟩
        · have := (ho4.lt e).1
          omega
        · have := (ho4.lt hk).1
          omega
end Go.Proofs.YtgjgeojhhglidaaDoor

namespace Go.Proofs.YtgjgeojhhglidaaDoor
open Go Go.RowKit Go.Lib

set_option maxRecDepth 100000 in
set_option maxHeartbeats 1600000 in
/-- **Mkdir.** -/
theorem rmkdir_any (rb base : Nat) (v : Value) (f : Fs) (p : ByteArray) (w : World) (h : RAt w rb base v f) (hok : FsOK f) (hn : f.n ≤ 1000000) (hp : p.size ≤ 100000) (hbase : base ≤ w.heap.size) :
    Calls Tryd.prog 17 #[.pointer (some ⟨rb, 0, none⟩), .string p] w fun e w' => e = .returned (.int .i64 (mkdirF f p).2) ∧ ∃ v', RAt w' rb base v' (mkdirF f p).1 ∧ (v' = v ∨ ∀ k, v'.ownBlock = some k → w.heap.size ≤ k) ∧ Turned (RS rb v) w.heap.size w w' := by
  obtain ⟨av, cv, hve, hrow, hcv, hlow, hown⟩ := own_lowR h.rows
  have hfew := hok.few
  have Hok := Lib.hid hok
  have HA := Lib.hid fun W (hb : Below w.heap.size w W) => rat_any rb av cv f.n f.es p W (by have := (h.below hb).var; rw [hve] at this; exact this) (hrow.keeps hb) Hok.out.rise (by omega)
  have HP := Lib.hid (rpath_any p w hp)
  cases hpg : pathG p.data.toList with
  | false =>
    have hM := mkdir_bad (f := f) hpg
    rw [hpg] at HP
    clear HA
    go_enter Tryd.func17, Tryd.ntmps17
    go_wp2_with fail
    refine HP.out.mono ?_
    rintro e w1 ⟨rfl, hb1⟩
    go_wp2_with fail
    go_ret
    rw [hM]
    exact ⟨rfl, _, h.below hb1, .inl rfl, Turned.of_below hb1 (Nat.le_refl _)⟩
  | true =>
    rw [hpg] at HP
    cases hf : findE f.es p with
    | some x =>
      have hM := mkdir_there hpg hf
      rw [hf] at HA
      clear hf
      go_enter Tryd.func17, Tryd.ntmps17
      go_wp2_with fail
      refine HP.out.mono ?_
      rintro e w1 ⟨rfl, hb1⟩
      go_wp2_with fail
      refine (HA.out _ hb1).mono ?_
      rintro e w2 ⟨k, rfl, hkf, n2, rfl⟩
      have hb2 := belowDrew hb1 n2
      generalize w1.drewN n2 = w3 at *
      go_wp2_with fail
      go_ret
      rw [hM]
      exact ⟨rfl, _, h.below hb2, .inl rfl, Turned.of_below hb2 (Nat.le_refl _)⟩
    | none =>
      have hM := mkdir_new hpg hf
      rw [hf] at HA
      have HU := Lib.hid fun W hR hb => rmade_any rb base v f ⟨p, 0, true, noBa⟩ W hR Hok.out.rise hfew hn hp (path_rights hpg) hf hb
      rw [show Ent.val ⟨p, 0, true, noBa⟩ = .agg #[.string p, .int .i64 0, .bool true, .string ⟨#[]⟩] from rfl] at HU
      clear hf
      go_enter Tryd.func17, Tryd.ntmps17
      go_wp2_with fail
      refine HP.out.mono ?_
      rintro e w1 ⟨rfl, hb1⟩
      go_wp2_with fail
      refine (HA.out _ hb1).mono ?_
      rintro e w2 ⟨k, rfl, hkf, n2, rfl⟩
      have hb2 := belowDrew hb1 n2
      generalize w1.drewN n2 = w3 at *
      go_wp2_with fail
      refine (HU.out _ (h.below hb2) (Nat.le_trans hbase hb2.size)).mono ?_
      rintro e w4 ⟨rfl, v', hR4, hv4, ht4⟩
      have hz2 := hb2.size
      go_wp2_with fail
      go_ret
      rw [hM]
      exact ⟨rfl, v', hR4, hv4.imp id (fun h k hk => Nat.le_trans hz2 (h k hk)), (Turned.of_below hb2 (Nat.le_refl _)).trans (ht4.mono hz2 (fun _ _ h => h))⟩
set_option maxRecDepth 100000 in
set_option maxHeartbeats 1600000 in
/-- **Write.** -/
theorem rwrite_any (rb base : Nat) (v : Value) (f : Fs) (p d : ByteArray) (w : World) (h : RAt w rb base v f) (hok : FsOK f) (hn : f.n ≤ 1000000) (hp : p.size ≤ 100000) (hbase : base ≤ w.heap.size) :
    Calls Tryd.prog 18 #[.pointer (some ⟨rb, 0, none⟩), .string p, .string d] w fun e w' => e = .returned (.int .i64 (writeF f p d).2) ∧ ∃ v', RAt w' rb base v' (writeF f p d).1 ∧ (v' = v ∨ ∀ k, v'.ownBlock = some k → w.heap.size ≤ k) ∧ Turned (RS rb v) w.heap.size w w' := by
  obtain ⟨av, cv, hve, hrow, hcv, hlow, hown⟩ := own_lowR h.rows
  have hfew := hok.few
  have Hok := Lib.hid hok
  have HA := Lib.hid fun W (hb : Below w.heap.size w W) => rat_any rb av cv f.n f.es p W (by have := (h.below hb).var; rw [hve] at this; exact this) (hrow.keeps hb) Hok.out.rise (by omega)
  have HP := Lib.hid (rpath_any p w hp)
  cases hpg : pathG p.data.toList with
  | false =>
    have hM := write_bad (f := f) (d := d) hpg
    rw [hpg] at HP
    clear HA
    go_enter Tryd.func18, Tryd.ntmps18
    go_wp2_with fail
    refine HP.out.mono ?_
    rintro e w1 ⟨rfl, hb1⟩
    go_wp2_with fail
    go_ret
    rw [hM]
    exact ⟨rfl, _, h.below hb1, .inl rfl, Turned.of_below hb1 (Nat.le_refl _)⟩
  | true =>
    rw [hpg] at HP
    by_cases hd : 4096 < d.size
    · have hM := write_big (f := f) hpg hd
      have g1 : (d.size : Int) > 4096 := by omega
      clear HA
      go_enter Tryd.func18, Tryd.ntmps18
      go_wp2_with fail
      refine HP.out.mono ?_
      rintro e w1 ⟨rfl, hb1⟩
      go_wp2_with fail
      go_ret
      rw [hM]
      exact ⟨rfl, _, h.below hb1, .inl rfl, Turned.of_below hb1 (Nat.le_refl _)⟩
    · have g1 : ¬ ((d.size : Int) > 4096) := by omega
      cases hf : findE f.es p with
      | none =>
        have hM := write_new hpg hd hf
        rw [hf] at HA
        have HU := Lib.hid fun W hR hb => rmade_any rb base v f ⟨p, 0, false, d⟩ W hR Hok.out.rise hfew hn hp (path_rights hpg) hf hb
        rw [show Ent.val ⟨p, 0, false, d⟩ = .agg #[.string p, .int .i64 0, .bool false, .string d] from rfl] at HU
        clear hf
        go_enter Tryd.func18, Tryd.ntmps18
        go_wp2_with fail
        refine HP.out.mono ?_
        rintro e w1 ⟨rfl, hb1⟩
        go_wp2_with fail
        refine (HA.out _ hb1).mono ?_
        rintro e w2 ⟨k, rfl, hkf, n2, rfl⟩
        have hb2 := belowDrew hb1 n2
        generalize w1.drewN n2 = w3 at *
        go_wp2_with fail
        refine (HU.out _ (h.below hb2) (Nat.le_trans hbase hb2.size)).mono ?_
        rintro e w4 ⟨rfl, v', hR4, hv4, ht4⟩
        have hz2 := hb2.size
        go_wp2_with fail
        go_ret
        rw [hM]
        exact ⟨rfl, v', hR4, hv4.imp id (fun h k hk => Nat.le_trans hz2 (h k hk)), (Turned.of_below hb2 (Nat.le_refl _)).trans (ht4.mono hz2 (fun _ _ h => h))⟩
      | some x =>
        cases hxd : x.dir with
        | true =>
          have hM := write_dir hpg hd hf hxd
          rw [hf] at HA
          have hfx := hf
          clear hf
          go_enter Tryd.func18, Tryd.ntmps18
          go_wp2_with fail
          refine HP.out.mono ?_
          rintro e w1 ⟨rfl, hb1⟩
          go_wp2_with fail
          refine (HA.out _ hb1).mono ?_
          rintro e w2 ⟨k, rfl, hkf, n2, rfl⟩
          have hb2 := belowDrew hb1 n2
          generalize w1.drewN n2 = w3 at *
          have hkx := hkf x rfl
          have hlt := (List.getElem?_eq_some_iff.1 hkx).1
          obtain ⟨b, off, hae, hbl, d0, d1, d2, d3⟩ := ent_at (hrow.keeps hb2) hkx
          have hR3 := h.below hb2
          have q0 := hR3.var.2.2 0 _ rfl
          subst hae
          rw [hve] at q0
          rw [hxd] at d2
          have hlti : (k : Int) < (f.es.length : Int) := by omega
          clear hkf hkx hR3 hfx
          go_wp2_with fail
          go_ret
          rw [hM]
          exact ⟨rfl, _, h.below hb2, .inl rfl, Turned.of_below hb2 (Nat.le_refl _)⟩
        | false =>
          have hM := write_file hpg hd hf hxd
          rw [hf] at HA
          have hfx := hf
          clear hf
          go_enter Tryd.func18, Tryd.ntmps18
          go_wp2_with fail
          refine HP.out.mono ?_
          rintro e w1 ⟨rfl, hb1⟩
          go_wp2_with fail
          refine (HA.out _ hb1).mono ?_
          rintro e w2 ⟨k, rfl, hkf, n2, rfl⟩
          have hb2 := belowDrew hb1 n2
          generalize w1.drewN n2 = w3 at *
          have hkx := hkf x rfl
          have hlt := (List.getElem?_eq_some_iff.1 hkx).1
          have hR3 := h.below hb2
          obtain ⟨g, cap, hvg, hbg, hfz, hset⟩ := hR3.rows.at_field (y := ⟨x.path, x.id, x.dir, d⟩) (f := 3) (u := .string d) hkx (by decide) rfl
          rw [← put_set k x ⟨x.path, x.id, x.dir, d⟩ Hok.out.rise hkx rfl] at hset
          obtain ⟨b, off, hae, hbl, d0, d1, d2, d3⟩ := ent_at (hrow.keeps hb2) hkx
          have q0 := hR3.var.2.2 0 _ rfl
          rw [hve] at hvg
          have hgb : b = g ∧ off = 0 := by
            rw [hae] at hvg
            injection hvg with h1 _ _
            injection h1 with h2
            injection h2 with h3 h4 _
            exact ⟨h3, h4⟩
          obtain ⟨rfl, rfl⟩ := hgb
          subst hae
          rw [hve] at q0
          rw [hxd] at d2
          have hlti : (k : Int) < (f.es.length : Int) := by omega
          have hbrb : b ≠ rb := fun e => h.ne (by rw [hown, e]; rfl)
          have hfz3 := hfz (0 + k * 4 + 3)
          have hvb : v.ownBlock = some b := by rw [hown]; rfl
          have hvar := hR3.var
          have Hset := Lib.hid hset
          clear hkf hkx hR3 hfx hset hfz hvg
          simp only [Nat.zero_add] at d0 d1 d2 d3 hfz3
          go_wp2_with fail
          go_ret
          rw [hM]
          exact ⟨rfl, v, ⟨hvar.other _ (fun e => hbrb e.symm), Hset.out, h.ne⟩, .inl rfl, (Turned.of_below hb2 (Nat.le_refl _)).set _ _ (fun _ => .inr hvb)⟩
set_option maxRecDepth 100000 in
set_option maxHeartbeats 1600000 in
/-- **Get.** -/
theorem rget_any (rb base : Nat) (v : Value) (f : Fs) (p : ByteArray) (w : World) (h : RAt w rb base v f) (hok : FsOK f) :
    Calls Tryd.prog 22 #[.pointer (some ⟨rb, 0, none⟩), .string p] w fun e w' => e = .returned (.tuple #[(getF f p).1.val, .int .i64 (getF f p).2]) ∧ Below w.heap.size w w' := by
  obtain ⟨av, cv, hve, hrow, hcv, hlow, hown⟩ := own_lowR h.rows
  have hfew := hok.few
  have Hok := Lib.hid hok
  have HA := Lib.hid fun W (hb : Below w.heap.size w W) => rat_any rb av cv f.n f.es p W (by have := (h.below hb).var; rw [hve] at this; exact this) (hrow.keeps hb) Hok.out.rise (by omega)
  have hal := (Below.refl w.heap.size w).alloc (Nat.le_refl _) (.cells #[.string ⟨#[]⟩, .int .i64 0, .bool false, .string ⟨#[]⟩] 38)
  have hV := VarAt.new w #[.string ⟨#[]⟩, .int .i64 0, .bool false, .string ⟨#[]⟩] 38
  cases hf : findE f.es p with
  | none =>
    rw [hf] at HA
    rw [getF_none hf]
    show Calls _ _ _ _ fun e w' => e = .returned (.tuple #[.agg #[.string ⟨#[]⟩, .int .i64 0, .bool false, .string ⟨#[]⟩], .int .i64 25]) ∧ _
    clear hf
    go_enter Tryd.func22, Tryd.ntmps22
    go_wp2_with fail
    refine (HA.out _ hal).mono ?_
    rintro e w2 ⟨k, rfl, hkf, n2, rfl⟩
    have hb2 := belowDrew hal n2
    have hV2 := hV.drew n2
    generalize (w.alloc (.cells #[.string ⟨#[]⟩, .int .i64 0, .bool false, .string ⟨#[]⟩] 38)).drewN n2 = w3 at *
    have c0 : (w3).cell? ⟨w.heap.size, 0, none⟩ = some (.string ⟨#[]⟩) := hV2.2.2 0 _ rfl
    have z0 : (w3).frozen? ⟨w.heap.size, 0, none⟩ = false := hV2.2.1 0
    have s0 := hV2.set 0 (.string ⟨#[]⟩) (by simp)
    have c1 : ((w3).setCell ⟨w.heap.size, 0, none⟩ (.string ⟨#[]⟩)).cell? ⟨w.heap.size, 1, none⟩ = some (.int .i64 0) := s0.2.2 1 _ rfl
    have z1 : ((w3).setCell ⟨w.heap.size, 0, none⟩ (.string ⟨#[]⟩)).frozen? ⟨w.heap.size, 1, none⟩ = false := s0.2.1 1
    have s1 := s0.set 1 (.int .i64 0) (by simp)
    have c2 : (((w3).setCell ⟨w.heap.size, 0, none⟩ (.string ⟨#[]⟩)).setCell ⟨w.heap.size, 1, none⟩ (.int .i64 0)).cell? ⟨w.heap.size, 2, none⟩ = some (.bool false) := s1.2.2 2 _ rfl
    have z2 : (((w3).setCell ⟨w.heap.size, 0, none⟩ (.string ⟨#[]⟩)).setCell ⟨w.heap.size, 1, none⟩ (.int .i64 0)).frozen? ⟨w.heap.size, 2, none⟩ = false := s1.2.1 2
    have s2 := s1.set 2 (.bool false) (by simp)
    have c3 : ((((w3).setCell ⟨w.heap.size, 0, none⟩ (.string ⟨#[]⟩)).setCell ⟨w.heap.size, 1, none⟩ (.int .i64 0)).setCell ⟨w.heap.size, 2, none⟩ (.bool false)).cell? ⟨w.heap.size, 3, none⟩ = some (.string ⟨#[]⟩) := s2.2.2 3 _ rfl
    have z3 : ((((w3).setCell ⟨w.heap.size, 0, none⟩ (.string ⟨#[]⟩)).setCell ⟨w.heap.size, 1, none⟩ (.int .i64 0)).setCell ⟨w.heap.size, 2, none⟩ (.bool false)).frozen? ⟨w.heap.size, 3, none⟩ = false := s2.2.1 3
    have s3 := s2.set 3 (.string ⟨#[]⟩) (by simp)
    dsimp only [List.set] at s3
    have r0 : (((((w3).setCell ⟨w.heap.size, 0, none⟩ (.string ⟨#[]⟩)).setCell ⟨w.heap.size, 1, none⟩ (.int .i64 0)).setCell ⟨w.heap.size, 2, none⟩ (.bool false)).setCell ⟨w.heap.size, 3, none⟩ (.string ⟨#[]⟩)).cell? ⟨w.heap.size, 0, none⟩ = some (.string ⟨#[]⟩) := s3.2.2 0 _ rfl
    have r1 : (((((w3).setCell ⟨w.heap.size, 0, none⟩ (.string ⟨#[]⟩)).setCell ⟨w.heap.size, 1, none⟩ (.int .i64 0)).setCell ⟨w.heap.size, 2, none⟩ (.bool false)).setCell ⟨w.heap.size, 3, none⟩ (.string ⟨#[]⟩)).cell? ⟨w.heap.size, 1, none⟩ = some (.int .i64 0) := s3.2.2 1 _ rfl
    have r2 : (((((w3).setCell ⟨w.heap.size, 0, none⟩ (.string ⟨#[]⟩)).setCell ⟨w.heap.size, 1, none⟩ (.int .i64 0)).setCell ⟨w.heap.size, 2, none⟩ (.bool false)).setCell ⟨w.heap.size, 3, none⟩ (.string ⟨#[]⟩)).cell? ⟨w.heap.size, 2, none⟩ = some (.bool false) := s3.2.2 2 _ rfl
    have r3 : (((((w3).setCell ⟨w.heap.size, 0, none⟩ (.string ⟨#[]⟩)).setCell ⟨w.heap.size, 1, none⟩ (.int .i64 0)).setCell ⟨w.heap.size, 2, none⟩ (.bool false)).setCell ⟨w.heap.size, 3, none⟩ (.string ⟨#[]⟩)).cell? ⟨w.heap.size, 3, none⟩ = some (.string ⟨#[]⟩) := s3.2.2 3 _ rfl
    clear s0 s1 s2 s3
    have hbz := ((((hb2.setCell (p := ⟨w.heap.size, 0, none⟩) (Nat.le_refl _) (.string ⟨#[]⟩)).setCell (p := ⟨w.heap.size, 1, none⟩) (Nat.le_refl _) (.int .i64 0)).setCell (p := ⟨w.heap.size, 2, none⟩) (Nat.le_refl _) (.bool false)).setCell (p := ⟨w.heap.size, 3, none⟩) (Nat.le_refl _) (.string ⟨#[]⟩))
    go_wp2_with fail
    refine bodyPost_ret (v := .tuple #[.agg #[.string ⟨#[]⟩, .int .i64 0, .bool false, .string ⟨#[]⟩], .int .i64 25]) (by simp [results, Tryd.results22, go_sem, *]) rfl ⟨rfl, hbz⟩
  | some x =>
    rw [hf] at HA
    rw [getF_some hf]
    show Calls _ _ _ _ fun e w' => e = .returned (.tuple #[.agg #[.string x.path, .int .i64 x.id, .bool x.dir, .string x.data], .int .i64 0]) ∧ _
    clear hf
    go_enter Tryd.func22, Tryd.ntmps22
    go_wp2_with fail
    refine (HA.out _ hal).mono ?_
    rintro e w2 ⟨k, rfl, hkf, n2, rfl⟩
    have hb2 := belowDrew hal n2
    have hV2 := hV.drew n2
    generalize (w.alloc (.cells #[.string ⟨#[]⟩, .int .i64 0, .bool false, .string ⟨#[]⟩] 38)).drewN n2 = w3 at *
    have hkx := hkf x rfl
    have hlt := (List.getElem?_eq_some_iff.1 hkx).1
    obtain ⟨b, off, hae, hbl, d0, d1, d2, d3⟩ := ent_at (hrow.keeps hb2) hkx
    have q0 := (h.below hb2).var.2.2 0 _ rfl
    subst hae
    rw [hve] at q0
    have hlti : (k : Int) < (f.es.length : Int) := by omega
    clear hkf hkx
    have c0 : (w3).cell? ⟨w.heap.size, 0, none⟩ = some (.string ⟨#[]⟩) := hV2.2.2 0 _ rfl
    have z0 : (w3).frozen? ⟨w.heap.size, 0, none⟩ = false := hV2.2.1 0
    have s0 := hV2.set 0 (.string x.path) (by simp)
    have c1 : ((w3).setCell ⟨w.heap.size, 0, none⟩ (.string x.path)).cell? ⟨w.heap.size, 1, none⟩ = some (.int .i64 0) := s0.2.2 1 _ rfl
    have z1 : ((w3).setCell ⟨w.heap.size, 0, none⟩ (.string x.path)).frozen? ⟨w.heap.size, 1, none⟩ = false := s0.2.1 1
    have s1 := s0.set 1 (.int .i64 x.id) (by simp)
    have c2 : (((w3).setCell ⟨w.heap.size, 0, none⟩ (.string x.path)).setCell ⟨w.heap.size, 1, none⟩ (.int .i64 x.id)).cell? ⟨w.heap.size, 2, none⟩ = some (.bool false) := s1.2.2 2 _ rfl
    have z2 : (((w3).setCell ⟨w.heap.size, 0, none⟩ (.string x.path)).setCell ⟨w.heap.size, 1, none⟩ (.int .i64 x.id)).frozen? ⟨w.heap.size, 2, none⟩ = false := s1.2.1 2
    have s2 := s1.set 2 (.bool x.dir) (by simp)
    have c3 : ((((w3).setCell ⟨w.heap.size, 0, none⟩ (.string x.path)).setCell ⟨w.heap.size, 1, none⟩ (.int .i64 x.id)).setCell ⟨w.heap.size, 2, none⟩ (.bool x.dir)).cell? ⟨w.heap.size, 3, none⟩ = some (.string ⟨#[]⟩) := s2.2.2 3 _ rfl
    have z3 : ((((w3).setCell ⟨w.heap.size, 0, none⟩ (.string x.path)).setCell ⟨w.heap.size, 1, none⟩ (.int .i64 x.id)).setCell ⟨w.heap.size, 2, none⟩ (.bool x.dir)).frozen? ⟨w.heap.size, 3, none⟩ = false := s2.2.1 3
    have s3 := s2.set 3 (.string x.data) (by simp)
    dsimp only [List.set] at s3
    have r0 : (((((w3).setCell ⟨w.heap.size, 0, none⟩ (.string x.path)).setCell ⟨w.heap.size, 1, none⟩ (.int .i64 x.id)).setCell ⟨w.heap.size, 2, none⟩ (.bool x.dir)).setCell ⟨w.heap.size, 3, none⟩ (.string x.data)).cell? ⟨w.heap.size, 0, none⟩ = some (.string x.path) := s3.2.2 0 _ rfl
    have r1 : (((((w3).setCell ⟨w.heap.size, 0, none⟩ (.string x.path)).setCell ⟨w.heap.size, 1, none⟩ (.int .i64 x.id)).setCell ⟨w.heap.size, 2, none⟩ (.bool x.dir)).setCell ⟨w.heap.size, 3, none⟩ (.string x.data)).cell? ⟨w.heap.size, 1, none⟩ = some (.int .i64 x.id) := s3.2.2 1 _ rfl
    have r2 : (((((w3).setCell ⟨w.heap.size, 0, none⟩ (.string x.path)).setCell ⟨w.heap.size, 1, none⟩ (.int .i64 x.id)).setCell ⟨w.heap.size, 2, none⟩ (.bool x.dir)).setCell ⟨w.heap.size, 3, none⟩ (.string x.data)).cell? ⟨w.heap.size, 2, none⟩ = some (.bool x.dir) := s3.2.2 2 _ rfl
    have r3 : (((((w3).setCell ⟨w.heap.size, 0, none⟩ (.string x.path)).setCell ⟨w.heap.size, 1, none⟩ (.int .i64 x.id)).setCell ⟨w.heap.size, 2, none⟩ (.bool x.dir)).setCell ⟨w.heap.size, 3, none⟩ (.string x.data)).cell? ⟨w.heap.size, 3, none⟩ = some (.string x.data) := s3.2.2 3 _ rfl
    clear s0 s1 s2 s3
    have hbz := ((((hb2.setCell (p := ⟨w.heap.size, 0, none⟩) (Nat.le_refl _) (.string x.path)).setCell (p := ⟨w.heap.size, 1, none⟩) (Nat.le_refl _) (.int .i64 x.id)).setCell (p := ⟨w.heap.size, 2, none⟩) (Nat.le_refl _) (.bool x.dir)).setCell (p := ⟨w.heap.size, 3, none⟩) (Nat.le_refl _) (.string x.data))
    go_wp2_with fail
    refine bodyPost_ret (v := .tuple #[.agg #[.string x.path, .int .i64 x.id, .bool x.dir, .string x.data], .int .i64 0]) (by simp [results, Tryd.results22, go_sem, *]) rfl ⟨rfl, hbz⟩
end Go.Proofs.YtgjgeojhhglidaaDoor

namespace Go.Proofs.YtgjgeojhhglidaaDoor
open Go Go.RowKit Go.Lib

set_option maxRecDepth 100000 in
set_option maxHeartbeats 1600000 in
/-- **Remove.** -/
theorem rremove_any (rb base : Nat) (v : Value) (f : Fs) (p : ByteArray) (w : World) (h : RAt w rb base v f) (hok : FsOK f) (hp : p.size ≤ 100000) (hbase : base ≤ w.heap.size) :
    Calls Tryd.prog 20 #[.pointer (some ⟨rb, 0, none⟩), .string p] w fun e w' => e = .returned (.int .i64 (removeF f p).2) ∧ ∃ v', RAt w' rb base v' (removeF f p).1 ∧ (v' = v ∨ ∀ k, v'.ownBlock = some k → w.heap.size ≤ k) ∧ Turned (RS rb v) w.heap.size w w' := by
  obtain ⟨av, cv, hve, hrow, hcv, hlow, hown⟩ := own_lowR h.rows
  have hfew := hok.few
  have Hok := Lib.hid hok
  have HA := Lib.hid fun W (hb : Below w.heap.size w W) => rat_any rb av cv f.n f.es p W (by have := (h.below hb).var; rw [hve] at this; exact this) (hrow.keeps hb) Hok.out.rise (by omega)
  obtain ⟨i0, hi, hz0, hz1, hz2⟩ := info_parts fentInfo
  have Hi := Lib.hid hi
  have Hz0 := Lib.hid hz0
  have Hz1 := Lib.hid hz1
  have Hz2 := Lib.hid hz2
  clear hi hz0 hz1 hz2
  cases hf : findE f.es p with
  | none =>
    have hM := remove_no hf
    rw [hf] at HA
    clear hf
    go_enter Tryd.func20, Tryd.ntmps20
    go_wp2_with fail
    refine (HA.out _ (Below.refl _ _)).mono ?_
    rintro e w2 ⟨k, rfl, hkf, n2, rfl⟩
    have hb2 := belowDrew (Below.refl w.heap.size w) n2
    generalize w.drewN n2 = w3 at *
    go_wp2_with fail
    go_ret
    rw [hM]
    exact ⟨rfl, _, h.below hb2, .inl rfl, Turned.of_below hb2 (Nat.le_refl _)⟩
  | some x0 =>
    have hM := remove_yes hf
    rw [hf] at HA
    clear hf
    go_enter Tryd.func20, Tryd.ntmps20
    go_wp2_with fail
    refine (HA.out _ (Below.refl _ _)).mono ?_
    rintro e w2 ⟨k, rfl, hkf, n2, rfl⟩
    have hb2 := belowDrew (Below.refl w.heap.size w) n2
    generalize w.drewN n2 = w3 at *
    clear hkf
    have HR := Lib.hid (hrow.keeps hb2)
    have hvar3 := (h.below hb2).var
    have hrbw : rb < w3.heap.size := hvar3.1
    have hrb0 := h.var.1
    rw [hve] at hvar3
    have HIn := Lib.hid fun q W => rin_any q p W hp
    have HV := Lib.hid hvar3
    clear hvar3
    go_wp2_with fail
    go_loopw [7, 8] (fun v i wr => ∃ k : Nat, k ≤ f.es.length ∧ i = .int .i64 k ∧ OwnRows entLay wr w3.heap.size 38 v ((f.es.take k).filter fun y => !inE p y.path) ∧ Below w3.heap.size w3 wr) (fun _ i _ => f.es.length - (RowKit.intOf i).toNat)
    case atStart => exact ⟨0, Nat.zero_le _, rfl, OwnRows.nil _ _ _ _, Below.refl _ _⟩
    case round =>
      obtain ⟨k, hk, rfl, ho, hb⟩ := hrel
      have q0 := (HV.out.keeps hb hrbw).2.2 0 _ rfl
      by_cases hlt : k < f.es.length
      · obtain ⟨x, hx⟩ := at_some hlt
        obtain ⟨b, off, hae, hbl, d0, d1, d2, d3⟩ := ent_at (HR.out.keeps hb) hx
        rw [hae] at q0
        have hlti : (k : Int) < (f.es.length : Int) := by omega
        have Hx := Lib.hid hx
        have Hae := Lib.hid hae
        obtain ⟨xp, xi, xd, xs⟩ := x
        dsimp only at d0 d1 d2 d3
        clear hx hae
        go_upto_region 8 with fail
        go_cut [48] from 17 to 58 (fun c wx => c = .bool (!inE p xp) ∧ wx = wr)
        case first =>
          by_cases h0 : xp = p
          · have e1 := str_eq h0
            have hin : inE p xp = true := inE_iff.2 (.inl h0)
            clear h0
            go_wp2_with fail
            go_meet
            exact ⟨by rw [hin]; rfl, rfl⟩
          · have e1 := str_ne h0
            have hin : inE p xp = underB xp p := by
              unfold inE
              rw [decide_eq_false h0, Bool.false_or]
            clear h0
            go_wp2_with fail
            refine (HIn.out _ _).mono ?_
            rintro e w5 ⟨rfl, rfl⟩
            go_wp2_with fail
            go_meet
            exact ⟨by rw [hin], rfl⟩
        case rest =>
          obtain ⟨hc, hwc⟩ := hcut
          rw [← hwc] at d0 d1 d2 d3 ho hb q0 hbl
          clear hwc wr
          cases hin : inE p xp with
          | true =>
            have Hst := Lib.hid (show (f.es.take (k + 1)).filter (fun y => !inE p y.path) = (f.es.take k).filter (fun y => !inE p y.path) by
              rw [take_snoc Hx.out, List.filter_append, List.filter_cons_of_neg (by rw [hin]; exact Bool.noConfusion), List.filter_nil, List.append_nil])
            replace hc := hc.trans (show _ = Value.bool false by rw [hin]; rfl)
            subst hc
            clear hin
            go_wp2_with fail
            go_roundw
            case rel => exact ⟨k + 1, by omega, by go_num, by rw [Hst.out]; exact ho, hb⟩
            case measure => simp [RowKit.intOf]; omega
          | false =>
            have Hst := Lib.hid (show (f.es.take (k + 1)).filter (fun y => !inE p y.path) = (f.es.take k).filter (fun y => !inE p y.path) ++ [⟨xp, xi, xd, xs⟩] by
              rw [take_snoc Hx.out, List.filter_append, List.filter_cons_of_pos (by rw [hin]; rfl), List.filter_nil])
            have hlen : ((f.es.take k).filter (fun y => !inE p y.path)).length ≤ 300 := Nat.le_trans (List.length_filter_le _ _) (by rw [List.length_take]; omega)
            replace hc := hc.trans (show _ = Value.bool true by rw [hin]; rfl)
            subst hc
            clear hin
            generalize (f.es.take k).filter (fun y => !inE p y.path) = acc at *
            go_wp2_with (at_builtin; refine wpList_append_rows _ rfl _ _ 26 rfl entLay w3.heap.size 38 i0 (.agg #[.string ⟨#[]⟩, .int .i64 0, .bool false, .string ⟨#[]⟩]) 48 Tryd.underlying26 Hi.out Hz0.out Hz1.out Hz2.out rfl (by decide) _ acc rfl (ho.alloc _) ⟨wc.heap.size, 0, none⟩ 1 ⟨xp, xi, xd, xs⟩ rfl (cells_new_at wc wc.heap.size #[.string xp, .int .i64 xi, .bool xd, .string xs] 38 rfl) (by unfold maxLen; omega) (by omega) (by have := hb.size; simp; omega) ?_)
            intro va1 w5 ho5 hg1 _
            have hb5 := (hb.alloc hb.size (.cells #[.string xp, .int .i64 xi, .bool xd, .string xs] 38)).grown hg1 (by have := hb.size; simp; omega) (fun j ej => (ho.lt ej).1)
            clear hg1 ho
            go_wp2_with fail
            go_roundw
            case rel => exact ⟨k + 1, by omega, by go_num, by rw [Hst.out]; exact ho5, hb5⟩
            case measure => simp [RowKit.intOf]; omega
      · obtain rfl : k = f.es.length := by omega
        rw [List.take_length] at ho
        obtain ⟨av2, cv2, rfl, hrow2, hcv2⟩ := ho.read
        have hVr := HV.out.keeps hb hrbw
        have qf := hVr.2.1 0
        have hz3 := hb2.size
        have hbz := hb2.trans (hb.mono hb2.size)
        have hzr := hb.size
        go_wp2_with fail
        go_ret
        rw [hM]
        refine ⟨rfl, _, ⟨hVr.set 0 _ (by simp), (ho.turned (S := fun k => k = rb) ((Turned.refl _ _ _).set 0 _ (fun _ => rfl)) (fun k hk => by rw [hk]; omega)).lower (by omega), fun e => ?_⟩, .inr fun k hk => ?_, (Turned.of_below hbz (Nat.le_refl _)).set 0 _ (fun _ => .inl rfl)⟩
        · have := (ho.lt e).1
          omega
        · have := (ho.lt hk).1
          omega
end Go.Proofs.YtgjgeojhhglidaaDoor

namespace Go.Proofs.YtgjgeojhhglidaaDoor
open Go Go.RowKit Go.Lib

set_option maxRecDepth 100000 in
set_option maxHeartbeats 6400000 in
/-- **Rename.** -/
theorem rrename_any (rb base : Nat) (v : Value) (f : Fs) (a b : ByteArray) (w : World) (h : RAt w rb base v f) (hok : FsOK f) (hpa : a.size ≤ 100000) (hpb : b.size ≤ 100000) (hbase : base ≤ w.heap.size) :
    Calls Tryd.prog 19 #[.pointer (some ⟨rb, 0, none⟩), .string a, .string b] w fun e w' => e = .returned (.int .i64 (renameF f a b).2) ∧ ∃ v', RAt w' rb base v' (renameF f a b).1 ∧ (v' = v ∨ ∀ k, v'.ownBlock = some k → w.heap.size ≤ k) ∧ Turned (RS rb v) w.heap.size w w' := by
  obtain ⟨av, cv, hve, hrow, hcv, hlow, hown⟩ := own_lowR h.rows
  have hfew := hok.few
  have Hok := Lib.hid hok
  have HA := Lib.hid fun W (hb : Below w.heap.size w W) => rat_any rb av cv f.n f.es a W (by have := (h.below hb).var; rw [hve] at this; exact this) (hrow.keeps hb) Hok.out.rise (by omega)
  have HB := Lib.hid fun W (hb : Below w.heap.size w W) => rat_any rb av cv f.n f.es b W (by have := (h.below hb).var; rw [hve] at this; exact this) (hrow.keeps hb) Hok.out.rise (by omega)
  have HP := Lib.hid fun W => rpath_any b W hpb
  have HIn := Lib.hid fun q W => rin_any q a W hpa
  have HPut := Lib.hid fun (s : Option Addr × Nat) (l : List Ent) (x : Ent) (W : World) (hR : RowsAt entLay W s.1 l) (hl : l.length ≤ 1000) => rput_any s.1 s.2 l x W hR hl
  clear hok
  cases hfa : findE f.es a with
  | none =>
    have hM := rename_no (b := b) hfa
    rw [hfa] at HA
    clear hfa
    go_enter Tryd.func19, Tryd.ntmps19
    go_wp2_with fail
    refine (HA.out _ (Below.refl _ _)).mono ?_
    rintro e w2 ⟨k, rfl, hkf, n2, rfl⟩
    have hb2 := belowDrew (Below.refl w.heap.size w) n2
    generalize w.drewN n2 = w3 at *
    clear hkf
    go_wp2_with fail
    go_ret
    rw [hM]
    exact ⟨rfl, _, h.below hb2, .inl rfl, Turned.of_below hb2 (Nat.le_refl _)⟩
  | some x0 =>
    rw [hfa] at HA
    cases hpg : pathG b.data.toList with
    | false =>
      have hM := rename_bad hfa hpg
      rw [hpg] at HP
      clear hfa
      go_enter Tryd.func19, Tryd.ntmps19
      go_wp2_with fail
      refine (HA.out _ (Below.refl _ _)).mono ?_
      rintro e w2 ⟨k, rfl, hkf, n2, rfl⟩
      have hb2 := belowDrew (Below.refl w.heap.size w) n2
      generalize w.drewN n2 = w3 at *
      clear hkf
      go_wp2_with fail
      refine (HP.out w3).mono ?_
      rintro e w4 ⟨rfl, hbp⟩
      have hb4 := hb2.trans (hbp.mono hb2.size)
      go_wp2_with fail
      go_ret
      rw [hM]
      exact ⟨rfl, _, h.below hb4, .inl rfl, Turned.of_below hb4 (Nat.le_refl _)⟩
    | true =>
      rw [hpg] at HP
      have hb400 := path_size hpg
      have HS := Lib.hid fun W (hb : Below w.heap.size w W) => rstands_any rb av cv f.n f.es b W (by have := (h.below hb).var; rw [hve] at this; exact this) (hrow.keeps hb) Hok.out.rise (by omega) hpb (path_rights hpg)
      cases hfb : findE f.es b with
      | some y0 =>
        have hM := rename_twice hfa hpg hfb
        rw [hfb] at HB
        clear hfa hfb
        go_enter Tryd.func19, Tryd.ntmps19
        go_wp2_with fail
        refine (HA.out _ (Below.refl _ _)).mono ?_
        rintro e w2 ⟨k, rfl, hkf, n2, rfl⟩
        have hb2 := belowDrew (Below.refl w.heap.size w) n2
        generalize w.drewN n2 = w3 at *
        clear hkf
        go_wp2_with fail
        refine (HP.out w3).mono ?_
        rintro e w4 ⟨rfl, hbp⟩
        have hb4 := hb2.trans (hbp.mono hb2.size)
        go_wp2_with fail
        refine (HB.out _ hb4).mono ?_
        rintro e w5 ⟨k2, rfl, hkf2, n5, rfl⟩
        have hb5 := belowDrew hb4 n5
        generalize w4.drewN n5 = w6 at *
        clear hkf2
        go_wp2_with fail
        go_ret
        rw [hM]
        exact ⟨rfl, _, h.below hb5, .inl rfl, Turned.of_below hb5 (Nat.le_refl _)⟩
      | none =>
        rw [hfb] at HB
        cases hst : standsE f.es b with
        | false =>
          have hM := rename_dir hfa hpg hfb (.inl hst)
          rw [hst] at HS
          clear hfa hfb hst
          go_enter Tryd.func19, Tryd.ntmps19
          go_wp2_with fail
          refine (HA.out _ (Below.refl _ _)).mono ?_
          rintro e w2 ⟨k, rfl, hkf, n2, rfl⟩
          have hb2 := belowDrew (Below.refl w.heap.size w) n2
          generalize w.drewN n2 = w3 at *
          clear hkf
          go_wp2_with fail
          refine (HP.out w3).mono ?_
          rintro e w4 ⟨rfl, hbp⟩
          have hb4 := hb2.trans (hbp.mono hb2.size)
          go_wp2_with fail
          refine (HB.out _ hb4).mono ?_
          rintro e w5 ⟨k2, rfl, hkf2, n5, rfl⟩
          have hb5 := belowDrew hb4 n5
          generalize w4.drewN n5 = w6 at *
          clear hkf2
          go_wp2_with fail
          refine (HS.out _ hb5).mono ?_
          rintro e w7 ⟨rfl, n7, rfl⟩
          have hb7 := belowDrew hb5 n7
          generalize w6.drewN n7 = w8 at *
          go_wp2_with fail
          go_ret
          rw [hM]
          exact ⟨rfl, _, h.below hb7, .inl rfl, Turned.of_below hb7 (Nat.le_refl _)⟩
        | true =>
          rw [hst] at HS
          cases hun : underB b a with
          | true =>
            have hM := rename_dir hfa hpg hfb (.inr hun)
            clear hfa hfb hst
            go_enter Tryd.func19, Tryd.ntmps19
            go_wp2_with fail
            refine (HA.out _ (Below.refl _ _)).mono ?_
            rintro e w2 ⟨k, rfl, hkf, n2, rfl⟩
            have hb2 := belowDrew (Below.refl w.heap.size w) n2
            generalize w.drewN n2 = w3 at *
            clear hkf
            go_wp2_with fail
            refine (HP.out w3).mono ?_
            rintro e w4 ⟨rfl, hbp⟩
            have hb4 := hb2.trans (hbp.mono hb2.size)
            go_wp2_with fail
            refine (HB.out _ hb4).mono ?_
            rintro e w5 ⟨k2, rfl, hkf2, n5, rfl⟩
            have hb5 := belowDrew hb4 n5
            generalize w4.drewN n5 = w6 at *
            clear hkf2
            go_wp2_with fail
            refine (HS.out _ hb5).mono ?_
            rintro e w7 ⟨rfl, n7, rfl⟩
            have hb7 := belowDrew hb5 n7
            generalize w6.drewN n7 = w8 at *
            go_wp2_with fail
            refine (HIn.out b _).mono ?_
            rintro e w9 ⟨rfl, hw9⟩
            rw [hw9]
            clear hw9 w9
            rw [hun]
            go_wp2_with fail
            go_ret
            rw [hM]
            exact ⟨rfl, _, h.below hb7, .inl rfl, Turned.of_below hb7 (Nat.le_refl _)⟩
          | false =>
            have HMay := Lib.hid (show (∀ x ∈ f.es, inE a x.path = true → pathG (newP a b x.path).data.toList = true) → renameF f a b = (⟨f.n, sortE (f.es.map (movE a b))⟩, 0) from fun hall => rename_does ⟨⟨_, hfa⟩, hpg, hfb, hst, hun, hall⟩)
            have HDeep := Lib.hid (show ∀ y ∈ f.es, inE a y.path = true → pathG (newP a b y.path).data.toList = false → renameF f a b = (f, 23) from fun y hy h1 h2 => rename_deep hfa hpg hfb hst hun hy h1 h2)
            have Hpg := Lib.hid hpg
            have Hfb := Lib.hid hfb
            have Hun := Lib.hid hun
            clear hfa hfb hst hpg hun
            go_enter Tryd.func19, Tryd.ntmps19
            go_wp2_with fail
            refine (HA.out _ (Below.refl _ _)).mono ?_
            rintro e w2 ⟨k, rfl, hkf, n2, rfl⟩
            have hb2 := belowDrew (Below.refl w.heap.size w) n2
            generalize w.drewN n2 = w3 at *
            clear hkf
            go_wp2_with fail
            refine (HP.out w3).mono ?_
            rintro e w4 ⟨rfl, hbp⟩
            have hb4 := hb2.trans (hbp.mono hb2.size)
            go_wp2_with fail
            refine (HB.out _ hb4).mono ?_
            rintro e w5 ⟨k2, rfl, hkf2, n5, rfl⟩
            have hb5 := belowDrew hb4 n5
            generalize w4.drewN n5 = w6 at *
            clear hkf2
            go_wp2_with fail
            refine (HS.out _ hb5).mono ?_
            rintro e w7 ⟨rfl, n7, rfl⟩
            have hb7 := belowDrew hb5 n7
            generalize w6.drewN n7 = w8 at *
            go_wp2_with fail
            refine (HIn.out b _).mono ?_
            rintro e w9 ⟨rfl, hw9⟩
            rw [hw9]
            clear hw9 w9
            rw [Hun.out]
            have HRW := Lib.hid (hrow.keeps hb7)
            have hvar3 := (h.below hb7).var
            have hrbw : rb < w8.heap.size := hvar3.1
            have hrb0 := h.var.1
            have hz8 := hb7.size
            rw [hve] at hvar3
            have HV := Lib.hid hvar3
            clear hvar3 HA HB HS
            go_wp2_with fail
            go_loopw [11, 12, 13] (fun v i _ wr => ∃ (k : Nat) (R : List Ent), k ≤ f.es.length ∧ i = .int .i64 k ∧ OwnRows entLay wr w8.heap.size 38 v R ∧ Rising R ∧ Hid (∀ z, z ∈ R ↔ ∃ x ∈ f.es.take k, z = movE a b x) ∧ Hid (∀ x ∈ f.es.take k, inE a x.path = true → pathG (newP a b x.path).data.toList = true) ∧ R.length ≤ k ∧ Below w8.heap.size w8 wr) (fun _ i _ _ => f.es.length - (RowKit.intOf i).toNat)
            case atStart => exact ⟨0, [], Nat.zero_le _, rfl, OwnRows.nil _ _ _ _, List.Pairwise.nil, Lib.hid (fun z => by rw [List.take_zero]; exact ⟨(fun h => nomatch h), (fun ⟨_, h, _⟩ => nomatch h)⟩), Lib.hid (fun x hx => by rw [List.take_zero] at hx; cases hx), Nat.le_refl _, Below.refl _ _⟩
            case round =>
              obtain ⟨k, R, hk, rfl, ho, hrR, HmR, HpR, hlR, hb⟩ := hrel
              have q0 := (HV.out.keeps hb hrbw).2.2 0 _ rfl
              by_cases hlt : k < f.es.length
              · obtain ⟨x, hx⟩ := at_some hlt
                have hxm := List.mem_of_getElem? hx
                obtain ⟨bb, off, hae, hbl, d0, d1, d2, d3⟩ := ent_at (HRW.out.keeps hb) hx
                rw [hae] at q0
                have hlti : (k : Int) < (f.es.length : Int) := by omega
                have Hx := Lib.hid hx
                have Hdeep := Lib.hid (HDeep.out x hxm)
                have hps := path_size (Hok.out.path x hxm)
                have Hnew := Lib.hid (show ∀ y0 ∈ f.es.take k, (movE a b y0).path ≠ (movE a b x).path from fun y0 hy0 e => by
                  have h1 := mov_one Hok.out Hpg.out Hfb.out (List.mem_of_mem_take hy0) hxm e
                  obtain ⟨j, hj⟩ := List.mem_iff_getElem?.1 hy0
                  have hj2 := (List.getElem?_eq_some_iff.1 hj).1
                  rw [List.length_take] at hj2
                  rw [List.getElem?_take_of_lt (by omega), h1] at hj
                  have := nodup_at (rising_nodup Hok.out.rise) hj hx
                  omega)
                obtain ⟨xp, xi, xd, xs⟩ := x
                dsimp only at d0 d1 d2 d3 hps Hdeep
                clear hx hxm
                have hbx := hb.alloc hb.size (.cells #[.string xp, .int .i64 xi, .bool xd, .string xs] 38)
                have hVx := VarAt.new wr #[.string xp, .int .i64 xi, .bool xd, .string xs] 38
                have hox := ho.alloc (.cells #[.string xp, .int .i64 xi, .bool xd, .string xs] 38)
                obtain ⟨bx, hbxe⟩ : ∃ bx, bx = wr.heap.size := ⟨_, rfl⟩
                have hbx8 : w8.heap.size ≤ bx := by rw [hbxe]; exact hb.size
                have hown5 : ∀ g, u11.ownBlock = some g → g < bx := fun g hg => by rw [hbxe]; exact (ho.lt hg).2
                rw [← hbxe] at hVx
                have Hbx := Lib.hid hbxe
                clear hbxe
                go_upto_region 16 with fail
                rw [← Hbx.out]
                generalize wr.alloc (.cells #[.string xp, .int .i64 xi, .bool xd, .string xs] 38) = Wx at *
                have v0 : Wx.cell? ⟨bx, 0, none⟩ = some (.string xp) := hVx.2.2 0 _ rfl
                go_cut [66] from 41 to 81 (fun c wx => c = .bool (inE a xp) ∧ wx = Wx)
                case first =>
                  by_cases h0 : xp = a
                  · have e1 := str_eq h0
                    have hin : inE a xp = true := inE_iff.2 (.inl h0)
                    clear h0
                    go_wp2_with fail
                    go_meet
                    exact ⟨by rw [hin], rfl⟩
                  · have e1 := str_ne h0
                    have hin : inE a xp = underB xp a := by
                      unfold inE
                      rw [decide_eq_false h0, Bool.false_or]
                    clear h0
                    go_wp2_with fail
                    refine (HIn.out xp _).mono ?_
                    rintro e w10 ⟨rfl, rfl⟩
                    go_wp2_with fail
                    go_meet
                    exact ⟨by rw [hin], rfl⟩
                case rest =>
                  obtain ⟨hc, hwc⟩ := hcut
                  rw [← hwc] at hVx hox hbx
                  clear v0 hwc d0 d1 d2 d3 hbl ho hb q0 Hbx
                  obtain ⟨al, cl, rfl, hrl, hcl⟩ := hox.read
                  cases hin : inE a xp with
                  | true =>
                    replace hc := hc.trans (show _ = Value.bool true by rw [hin])
                    subst hc
                    have Hgood0 := hin
                    have has := in_size hin
                    have hmv := movE_in (b := b) (x := ⟨xp, xi, xd, xs⟩) hin
                    have Hd := Lib.hid (Hdeep.out hin)
                    dsimp only at hmv
                    have Hmv := Lib.hid hmv
                    have hnw := Hnew.out
                    rw [hmv] at hnw
                    have Hnew := Lib.hid hnw
                    clear hmv hin hnw Hdeep
                    have hs0 : (0 : Int) ≤ (a.size : Int) := by omega
                    have hs1 : (a.size : Int) ≤ (xp.size : Int) := by omega
                    have hB1 : ¬ (b.size + (xp.size - a.size) > 9223372036854775807) := by omega
                    have hB2 : b.size + (xp.size - a.size) ≤ 9223372036854775807 := by omega
                    have Hnp := Lib.hid (show newP a b xp = b ++ xp.extract a.size xp.size from rfl)
                    have hns := newP_size (a := a) hb400 hps
                    have v0 : wc.cell? ⟨bx, 0, none⟩ = some (.string xp) := hVx.2.2 0 _ rfl
                    have z0 : wc.frozen? ⟨bx, 0, none⟩ = false := hVx.2.1 0
                    have hVs := hVx.set 0 (.string (b ++ xp.extract a.size xp.size)) (by simp)
                    dsimp only [List.set] at hVs
                    have y0 : (wc.setCell ⟨bx, 0, none⟩ (.string (b ++ xp.extract a.size xp.size))).cell? ⟨bx, 0, none⟩ = some (.string (b ++ xp.extract a.size xp.size)) := hVs.2.2 0 _ rfl
                    have hbs := hbx.setCell (p := ⟨bx, 0, none⟩) hbx8 (.string (b ++ xp.extract a.size xp.size))
                    have hrs := hrl.turned (S := fun j => j = bx) ((Turned.refl (fun j => j = bx) bx wc).set 0 (.string (b ++ xp.extract a.size xp.size)) (fun _ => rfl)) (fun ad e => by
                      have := hown5 ad.block (by rw [e]; rfl)
                      exact ⟨this, by show ¬ ad.block = bx; omega⟩)
                    have HPq := Lib.hid fun W => rpath_any (newP a b xp) W (by omega)
                    go_wp2_with fail
                    rw [← Hnp.out]
                    rw [← Hnp.out] at hVs y0 hbs hrs
                    generalize wc.setCell ⟨bx, 0, none⟩ (.string (newP a b xp)) = Wy at *
                    refine (HPq.out _).mono ?_
                    rintro e w11 ⟨rfl, hb11⟩
                    have hby := hbs.trans (hb11.mono hbs.size)
                    cases hpn : pathG (newP a b xp).data.toList with
                    | false =>
                      have hM := Hd.out hpn
                      have hb11w := hb7.trans (hby.mono hz8)
                      go_wp2_with fail
                      go_ret
                      rw [hM]
                      exact ⟨rfl, _, h.below hb11w, .inl rfl, Turned.of_below hb11w (Nat.le_refl _)⟩
                    | true =>
                      have Hgood := Lib.hid (show inE a xp = true → pathG (newP a b xp).data.toList = true from fun _ => hpn)
                      have hVy := hVs.keeps hb11 hVs.1
                      have y0 : w11.cell? ⟨bx, 0, none⟩ = some (.string (newP a b xp)) := hVy.2.2 0 _ rfl
                      have y1 : w11.cell? ⟨bx, 1, none⟩ = some (.int .i64 xi) := hVy.2.2 1 _ rfl
                      have y2 : w11.cell? ⟨bx, 2, none⟩ = some (.bool xd) := hVy.2.2 2 _ rfl
                      have y3 : w11.cell? ⟨bx, 3, none⟩ = some (.string xs) := hVy.2.2 3 _ rfl
                      have hry := hrs.keeps hb11
                      clear hVs hbs hrs hVx hbx hrl hox v0 z0
                      go_wp2_with fail
                      refine (HPut.out (al, cl) R ⟨newP a b xp, xi, xd, xs⟩ _ hry (by omega)).mono ?_
                      rintro e w12 ⟨v2, rfl, ho12, hb12⟩
                      have hz12 := hby.size
                      have hb12w := hby.trans (hb12.mono hby.size)
                      go_wp2_with fail
                      go_roundw
                      case rel =>
                        refine ⟨k + 1, insE ⟨newP a b xp, xi, xd, xs⟩ R, by omega, by go_num, ho12.lower hz12, rising_ins hrR (fun y hy e => ?_), Lib.hid (fun z => ?_), Lib.hid (fun z hz hi => ?_), by rw [len_ins]; omega, hb12w⟩
                        · obtain ⟨y0, hy0, rfl⟩ := (HmR.out y).1 hy
                          exact Hnew.out y0 hy0 e
                        · rw [mem_insE, HmR.out z, take_snoc Hx.out]
                          constructor
                          · rintro (rfl | ⟨x0, hx0, e⟩)
                            · exact ⟨_, List.mem_append_right _ (List.mem_singleton.2 rfl), Hmv.out.symm⟩
                            · exact ⟨x0, List.mem_append_left _ hx0, e⟩
                          · rintro ⟨x0, hx0, e⟩
                            rcases List.mem_append.1 hx0 with hx0 | hx0
                            · exact .inr ⟨x0, hx0, e⟩
                            · rw [List.mem_singleton.1 hx0, Hmv.out] at e
                              exact .inl e
                        · rw [take_snoc Hx.out] at hz
                          rcases List.mem_append.1 hz with hz | hz
                          · exact HpR.out z hz hi
                          · rw [List.mem_singleton.1 hz] at hi ⊢
                            exact Hgood.out hi
                      case measure => simp [RowKit.intOf]; omega
                  | false =>
                    replace hc := hc.trans (show _ = Value.bool false by rw [hin])
                    subst hc
                    have hmv := movE_out (b := b) (x := ⟨xp, xi, xd, xs⟩) hin
                    have Hgood := Lib.hid (show inE a xp = true → pathG (newP a b xp).data.toList = true from fun e => by rw [hin] at e; cases e)
                    have Hmv := Lib.hid hmv
                    have hnw := Hnew.out
                    rw [hmv] at hnw
                    have Hnew := Lib.hid hnw
                    clear hmv hin hnw Hdeep
                    have y0 : wc.cell? ⟨bx, 0, none⟩ = some (.string xp) := hVx.2.2 0 _ rfl
                    have y1 : wc.cell? ⟨bx, 1, none⟩ = some (.int .i64 xi) := hVx.2.2 1 _ rfl
                    have y2 : wc.cell? ⟨bx, 2, none⟩ = some (.bool xd) := hVx.2.2 2 _ rfl
                    have y3 : wc.cell? ⟨bx, 3, none⟩ = some (.string xs) := hVx.2.2 3 _ rfl
                    clear hVx hox
                    go_wp2_with fail
                    refine (HPut.out (al, cl) R ⟨xp, xi, xd, xs⟩ _ hrl (by omega)).mono ?_
                    rintro e w12 ⟨v2, rfl, ho12, hb12⟩
                    have hz12 := hbx.size
                    have hb12w := hbx.trans (hb12.mono hbx.size)
                    go_wp2_with fail
                    go_roundw
                    case rel =>
                      refine ⟨k + 1, insE ⟨xp, xi, xd, xs⟩ R, by omega, by go_num, ho12.lower hz12, rising_ins hrR (fun y hy e => ?_), Lib.hid (fun z => ?_), Lib.hid (fun z hz hi => ?_), by rw [len_ins]; omega, hb12w⟩
                      · obtain ⟨y0, hy0, rfl⟩ := (HmR.out y).1 hy
                        exact Hnew.out y0 hy0 e
                      · rw [mem_insE, HmR.out z, take_snoc Hx.out]
                        constructor
                        · rintro (rfl | ⟨x0, hx0, e⟩)
                          · exact ⟨_, List.mem_append_right _ (List.mem_singleton.2 rfl), Hmv.out.symm⟩
                          · exact ⟨x0, List.mem_append_left _ hx0, e⟩
                        · rintro ⟨x0, hx0, e⟩
                          rcases List.mem_append.1 hx0 with hx0 | hx0
                          · exact .inr ⟨x0, hx0, e⟩
                          · rw [List.mem_singleton.1 hx0, Hmv.out] at e
                            exact .inl e
                      · rw [take_snoc Hx.out] at hz
                        rcases List.mem_append.1 hz with hz | hz
                        · exact HpR.out z hz hi
                        · rw [List.mem_singleton.1 hz] at hi ⊢
                          exact Hgood.out hi
                    case measure => simp [RowKit.intOf]; omega
              · obtain rfl : k = f.es.length := by omega
                have hmR := HmR.out
                have hpR := HpR.out
                rw [List.take_length] at hmR hpR
                have hRe := renamed_ext Hok.out Hpg.out Hfb.out hrR hmR
                have hM := HMay.out hpR
                rw [hRe] at ho
                obtain ⟨av2, cv2, rfl, hrow2, hcv2⟩ := ho.read
                have hVr := HV.out.keeps hb hrbw
                have qf := hVr.2.1 0
                have hbz := hb7.trans (hb.mono hz8)
                have hzr := hb.size
                go_wp2_with fail
                go_ret
                rw [hM]
                refine ⟨rfl, _, ⟨hVr.set 0 _ (by simp), (ho.turned (S := fun k => k = rb) ((Turned.refl _ _ _).set 0 _ (fun _ => rfl)) (fun k hk => by rw [hk]; omega)).lower (by omega), fun e => ?_⟩, .inr fun k hk => ?_, (Turned.of_below hbz (Nat.le_refl _)).set 0 _ (fun _ => .inl rfl)⟩
                · have := (ho.lt e).1
                  omega
                · have := (ho.lt hk).1
                  omega
theorem OwnRows.same_block {α : Type} {L : Lay α} {w w' : World} {base : Nat} {e : TypeId} {v : Value} {xs : List α} (h : OwnRows L w base e v xs) (hs : ∀ k, v.ownBlock = some k → k < w.heap.size → w'.heap[k]? = w.heap[k]?) : OwnRows L w' base e v xs := by
  refine ⟨h.1, ?_⟩
  rcases h.2 with hn | ⟨g, cap, cur, rfl, hg, hgg, rest⟩
  · exact .inl hn
  · refine .inr ⟨g, cap, cur, rfl, hg, ?_, rest⟩
    rw [hs g rfl (Array.getElem?_eq_some_iff.1 hgg).1]
    exact hgg
theorem RAt.turned {S : Nat → Prop} {w w' : World} {rb base : Nat} {v : Value} {f : Fs} (h : RAt w rb base v f) (ht : Turned S w.heap.size w w') (h1 : ¬ S rb) (h2 : ∀ k, v.ownBlock = some k → ¬ S k) : RAt w' rb base v f :=
  ⟨h.var.same (ht.block rb h.var.1 h1) ht.size, h.rows.same_block (fun k hk hlt => ht.block k hlt (h2 k hk)), h.ne⟩
theorem keepS {W W' W'' : World} (h : Below W.heap.size W W') (h2 : Below W'.heap.size W' W'') : Below W.heap.size W W'' := h.trans (h2.mono h.size)
end Go.Proofs.YtgjgeojhhglidaaDoor

