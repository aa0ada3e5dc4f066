/-
  The reference's file system: at, stands.
-/
import Derived.Test.YtgjgeojhhglidaaDoorFsX4
import Derived.BigQuiet
import Derived.Laws.Cover1
namespace Go.Proofs.YtgjgeojhhglidaaDoor
open Go Go.RowKit Go.Lib

theorem find_none_of {es : List Ent} {p : ByteArray} (h : ∀ x ∈ es, x.path ≠ p) : findE es p = none :=
  List.find?_eq_none.2 fun x hx e => h x hx (of_decide_eq_true e)
theorem less_iff {x y : ByteArray} : Op.bytesLess x.toList y.toList = true ↔ x.data.toList < y.data.toList := by
  rw [less_before, toList_data, toList_data, before_lt, decide_eq_true_eq]
theorem at_no {es : List Ent} (hr : Rising es) {p : ByteArray} {k : Nat} {x : Ent} (hx : es[k]? = some x) (hlo : ∀ (j : Nat) (y : Ent), j < k → es[j]? = some y → Op.bytesLess y.path.toList p.toList = true) (hb : Op.bytesLess x.path.toList p.toList = false) (hne : x.path ≠ p) : findE es p = none := by
  refine find_none_of fun y hy e => ?_
  obtain ⟨j, hj⟩ := List.mem_iff_getElem?.1 hy
  rcases Nat.lt_trichotomy j k with h | h | h
  · have h1 := less_iff.1 (hlo j y h hj)
    rw [e] at h1
    exact List.lt_irrefl _ h1
  · subst h
    rw [hx] at hj
    cases hj
    exact hne e
  · obtain ⟨hx1, hx2⟩ := List.getElem?_eq_some_iff.1 hx
    obtain ⟨hj1, hj2⟩ := List.getElem?_eq_some_iff.1 hj
    have h1 := List.pairwise_iff_getElem.1 hr k j hx1 hj1 h
    rw [hx2, hj2] at h1
    unfold befE pB at h1
    rw [before_lt, decide_eq_true_eq, e] at h1
    rw [less_iff.2 h1] at hb
    cases hb
theorem at_end {es : List Ent} {p : ByteArray} (hlo : ∀ (j : Nat) (y : Ent), j < es.length → es[j]? = some y → Op.bytesLess y.path.toList p.toList = true) : findE es p = none := by
  refine find_none_of fun y hy e => ?_
  obtain ⟨j, hj⟩ := List.mem_iff_getElem?.1 hy
  have h1 := less_iff.1 (hlo j y (List.getElem?_eq_some_iff.1 hj).1 hj)
  rw [e] at h1
  exact List.lt_irrefl _ h1
set_option maxRecDepth 100000 in
set_option maxHeartbeats 1600000 in
/-- **at.** -/
theorem rat_any (rb : Nat) (a : Option Addr) (cap : Nat) (n : Int) (es : List Ent) (p : ByteArray) (w : World) (hV : VarAt w rb [.slice a es.length cap, .int .i64 n]) (hR : RowsAt entLay w a es) (hr : Rising es) (hl : es.length ≤ 1000) :
    Calls Tryd.prog 40 #[.pointer (some ⟨rb, 0, none⟩), .string p] w fun e w' => ∃ k : Nat, e = .returned (.tuple #[.int .i64 k, .bool (findE es p).isSome]) ∧ (∀ x, findE es p = some x → es[k]? = some x) ∧ ∃ n, w' = w.drewN n := by
  have c0 := hV.2.2 0 _ rfl
  have HR := Lib.hid hR
  have Hr := Lib.hid hr
  clear hR hr hV
  go_enter Tryd.func40, Tryd.ntmps40
  go_wp2_with fail
  go_loopw [6] (fun i wr => ∃ k : Nat, k ≤ es.length ∧ i = .int .i64 k ∧ Hid (∀ (j : Nat) (y : Ent), j < k → es[j]? = some y → Op.bytesLess y.path.toList p.toList = true) ∧ wr = w) (fun i _ => es.length - (RowKit.intOf i).toNat)
  case atStart => exact ⟨0, Nat.zero_le _, rfl, Lib.hid (fun j y hj => absurd hj (Nat.not_lt_zero _)), rfl⟩
  case round =>
    obtain ⟨k, hk, rfl, HK, hwr⟩ := hrel
    rw [hwr]
    clear hwr wr
    by_cases hlt : k < es.length
    · obtain ⟨x, hx⟩ := at_some hlt
      obtain ⟨b, off, rfl, hbl, d0, d1, d2, d3⟩ := ent_at HR.out hx
      have hlti : (k : Int) < (es.length : Int) := by omega
      have hlti0 : (0 : Int) ≤ (k : Int) := by omega
      have Hx := Lib.hid hx
      clear hx d1 d2 d3
      cases hb : Op.bytesLess x.path.toList p.toList with
      | true =>
        go_wp2_with fail
        go_roundw
        case rel =>
          refine ⟨k + 1, by omega, by go_num, Lib.hid (fun j y hj hy => ?_), by first | rfl | trivial⟩
          by_cases e : j = k
          · subst e
            rw [Hx.out] at hy
            cases hy
            exact hb
          · exact HK.out j y (by omega) hy
        case measure => simp [RowKit.intOf]; omega
      | false =>
        by_cases h1 : x.path = p
        · have e1 := str_eq h1
          have Hf := Lib.hid (show findE es p = some x by rw [← h1]; exact find_of Hr.out (List.mem_of_getElem? Hx.out))
          clear h1
          go_wp2_with fail
          go_quiet (fail)
          go_wp2_with fail
          refine bodyPost_ret (v := .tuple #[.int .i64 k, .bool true]) (by simp [results, Tryd.results40, go_sem]) rfl ⟨k, by rw [Hf.out]; rfl, fun y hy => ?_, nq, rfl⟩
          rw [Hf.out] at hy
          cases hy
          exact Hx.out
        · have e1 := str_ne h1
          have Hf := Lib.hid (at_no Hr.out Hx.out HK.out hb h1)
          clear h1
          go_wp2_with fail
          go_quiet (fail)
          go_wp2_with fail
          refine bodyPost_ret (v := .tuple #[.int .i64 k, .bool false]) (by simp [results, Tryd.results40, go_sem]) rfl ⟨k, by rw [Hf.out]; rfl, fun y hy => ?_, nq, rfl⟩
          rw [Hf.out] at hy
          cases hy
    · obtain rfl : k = es.length := by omega
      have Hf := Lib.hid (at_end HK.out)
      go_wp2_with fail
      refine bodyPost_ret (v := .tuple #[.int .i64 es.length, .bool false]) (by simp [results, Tryd.results40, go_sem]) rfl ⟨es.length, by rw [Hf.out]; rfl, fun y hy => ?_, 0, (World.drewN_zero _).symm⟩
      rw [Hf.out] at hy
      cases hy
theorem stands_empty {es : List Ent} {p : ByteArray} (hp : rightsL p.data.toList = true) (h : dirE p = ⟨#[]⟩) : standsE es p = true := by
  rcases slash_spec p with ⟨h1, _⟩ | ⟨a, b, h1, h2, h3⟩
  · exact stands_neg h1
  · exfalso
    have h4 := dir_list h1 h3
    have h5 : dirE p = p.extract 0 (slashI p).toNat := if_neg (by omega)
    rw [← h5, h] at h4
    have h6 : a = [] := h4.symm
    rw [h1, h6, rights_join, rights_nil, Bool.false_and] at hp
    cases hp
theorem stands_dir {es : List Ent} {p : ByteArray} (h : dirE p ≠ ⟨#[]⟩) : standsE es p = ((findE es (dirE p)).map (·.dir)).getD false := by
  unfold dirE at *
  split at h
  · exact absurd rfl h
  · rename_i h1
    rw [if_neg h1]
    unfold standsE isDirE
    rw [decide_eq_false h1]
    rfl
set_option maxRecDepth 100000 in
set_option maxHeartbeats 1600000 in
/-- **stands.** -/
theorem rstands_any (rb : Nat) (a : Option Addr) (cap : Nat) (n : Int) (es : List Ent) (p : ByteArray) (w : World) (hV : VarAt w rb [.slice a es.length cap, .int .i64 n]) (hR : RowsAt entLay w a es) (hr : Rising es) (hl : es.length ≤ 1000) (hp : p.size ≤ 100000) (hpr : rightsL p.data.toList = true) :
    Calls Tryd.prog 42 #[.pointer (some ⟨rb, 0, none⟩), .string p] w fun e w' => e = .returned (.bool (standsE es p)) ∧ ∃ n, w' = w.drewN n := by
  have c0 := hV.2.2 0 _ rfl
  have HD := Lib.hid (rdir_any p w hp)
  have HA := Lib.hid (rat_any rb a cap n es (dirE p) w hV hR hr hl)
  by_cases hd : dirE p = ⟨#[]⟩
  · have Hs := Lib.hid (stands_empty (es := es) hpr hd)
    rw [hd] at HA HD
    clear hd hV hR hr hpr
    go_enter Tryd.func42, Tryd.ntmps42
    go_wp2_with fail
    refine HD.out.mono ?_
    rintro e w1 ⟨rfl, rfl⟩
    go_wp2_with fail
    refine HA.out.mono ?_
    rintro e w2 ⟨k, rfl, _, n2, rfl⟩
    go_wp2_with fail
    go_ret
    exact ⟨ret_bool Hs.out.symm, n2, rfl⟩
  · have qd := empty_ne hd
    have hs := stands_dir (es := es) hd
    generalize dirE p = d at *
    cases hf : findE es d with
    | none =>
      have Hs := Lib.hid (show standsE es p = false by rw [hs, hf]; rfl)
      rw [hf] at HA
      clear hd hV hR hr hpr hf hs
      go_enter Tryd.func42, Tryd.ntmps42
      go_wp2_with fail
      refine HD.out.mono ?_
      rintro e w1 ⟨rfl, rfl⟩
      go_wp2_with fail
      refine HA.out.mono ?_
      rintro e w2 ⟨k, rfl, _, n2, rfl⟩
      go_wp2_with fail
      go_ret
      exact ⟨ret_bool Hs.out.symm, n2, rfl⟩
    | some u =>
      have Hs := Lib.hid (show standsE es p = u.dir by rw [hs, hf]; rfl)
      rw [hf] at HA
      have HR := Lib.hid hR
      clear hd hV hR hr hpr hf hs
      go_enter Tryd.func42, Tryd.ntmps42
      go_wp2_with fail
      refine HD.out.mono ?_
      rintro e w1 ⟨rfl, rfl⟩
      go_wp2_with fail
      refine HA.out.mono ?_
      rintro e w2 ⟨k, rfl, hk, n2, rfl⟩
      have hku := hk u rfl
      have hlt := (List.getElem?_eq_some_iff.1 hku).1
      obtain ⟨b, off, rfl, hbl, d0, d1, d2, d3⟩ := ent_at HR.out hku
      clear hk hku
      go_wp2_with fail
      go_ret
      exact ⟨ret_bool Hs.out.symm, n2, rfl⟩
theorem ins_none {x : Ent} : ∀ {l : List Ent} (m : List Ent), (∀ y ∈ l, befE x y = false) → insE x (l ++ m) = l ++ insE x m
  | [], _, _ => rfl
  | y :: r, m, h => by
    have h1 := h y List.mem_cons_self
    show (if befE x y then x :: y :: (r ++ m) else y :: insE x (r ++ m)) = _
    rw [if_neg (by rw [h1]; exact Bool.noConfusion), ins_none m (fun z hz => h z (List.mem_cons_of_mem _ hz))]
    rfl
theorem ins_some {x : Ent} : ∀ {l : List Ent} (m : List Ent), (∃ y ∈ l, befE x y = true) → insE x (l ++ m) = insE x l ++ m
  | [], _, h => by obtain ⟨_, h, _⟩ := h; cases h
  | y :: r, m, h => by
    show (if befE x y then x :: y :: (r ++ m) else y :: insE x (r ++ m)) = (if befE x y then x :: y :: r else y :: insE x r) ++ m
    cases hb : befE x y with
    | true => rfl
    | false =>
      rw [if_neg Bool.false_ne_true, if_neg Bool.false_ne_true, ins_some m ?_]
      · rfl
      · obtain ⟨z, hz, hz2⟩ := h
        rcases List.mem_cons.1 hz with rfl | hz
        · rw [hb] at hz2
          cases hz2
        · exact ⟨z, hz, hz2⟩
end Go.Proofs.YtgjgeojhhglidaaDoor
