import Derived.Test.YtmbmaompoplbaaaLayW1
import Derived.Handy
namespace Go.Proofs.Ytmbmaompoplbaaa
open Go.RowKit Go.Lib

theorem findE_hit {l : List Ent} {p : ByteArray} {k : Nat} {x : Ent} (hx : l[k]? = some x) (hp : x.path = p) (h : ∀ j y, j < k → l[j]? = some y → y.path ≠ p) : findE l p = some x := by
  obtain ⟨hk, hx'⟩ := List.getElem?_eq_some_iff.1 hx
  unfold findE
  rw [List.find?_eq_some_iff_getElem]
  refine ⟨by simpa using hp, k, hk, hx', fun j hj => ?_⟩
  have := h j l[j] hj (List.getElem?_eq_getElem (by omega))
  simpa using this
theorem findE_miss {l : List Ent} {p : ByteArray} (h : ∀ j y, j < l.length → l[j]? = some y → y.path ≠ p) : findE l p = none := by
  unfold findE
  rw [List.find?_eq_none]
  intro x hx
  obtain ⟨j, hj, e⟩ := List.getElem_of_mem hx
  have := h j x hj (by rw [List.getElem?_eq_getElem hj, e])
  simpa using this

set_option maxRecDepth 100000 in
set_option maxHeartbeats 800000 in
theorem find_any (a : Option Addr) (cap : Nat) (l : List Ent) (p : ByteArray) (w : World) (hl : l.length ≤ 140737488351232) (ha : RowsAt entLay w a l) :
    Calls Try.prog 19 #[.slice a l.length cap, .string p] w fun e w' => e = .returned (.tuple #[((findE l p).getD noEnt).val, .bool (findE l p).isSome]) ∧ Below w.heap.size w w' := by
  have HA := Lib.hid ha
  clear ha
  go_enter Try.func19, Try.ntmps19
  go_wp2
  go_loop [6] (fun i => ∃ k : Nat, k ≤ l.length ∧ i = .int .i64 k ∧ Hid (∀ j y, j < k → l[j]? = some y → y.path ≠ p)) (fun i => l.length - (RowKit.intOf i).toNat)
  case atStart => exact ⟨0, Nat.zero_le _, rfl, fun j _ hj => absurd hj (Nat.not_lt_zero _)⟩
  case round =>
    obtain ⟨k, hk, rfl, Hk⟩ := hrel
    by_cases hlt : k < l.length
    · obtain ⟨x, hx⟩ := at_some hlt
      obtain ⟨b, off, rfl, hb, c0, c1, c2, c3⟩ := ent_at HA.out hx
      have Hx := Lib.hid hx
      clear hx
      by_cases he : x.path = p
      · have Hr := Lib.hid (findE_hit Hx.out he Hk.out)
        have hb' := str_eq he
        clear he
        go_wp2
        refine bodyPost_ret (v := .tuple #[.agg #[.string x.path, .int .i64 x.id, .bool x.dir, .string x.data], .bool true]) (by simp [results, Try.results19, go_sem]) rfl ⟨by rw [Hr.out]; rfl, ?_⟩
        go_grown
      · have Hn := Lib.hid he
        have hb' := str_ne he
        clear he
        go_wp2
        go_round
        case rel =>
          refine ⟨k + 1, by omega, by go_num, fun j y hj hy => ?_⟩
          by_cases e : j = k
          · subst e
            rw [Hx.out] at hy
            cases hy
            exact Hn.out
          · exact Hk.out j y (by omega) hy
        case measure => simp [RowKit.intOf]; omega
    · have Hr := Lib.hid (findE_miss (l := l) (p := p) (fun j y hj => Hk.out j y (by omega)))
      go_wp2
      refine bodyPost_ret (v := .tuple #[.agg #[.string ⟨#[]⟩, .int .i64 0, .bool false, .string ⟨#[]⟩], .bool false]) (by simp [results, Try.results19, go_sem]) rfl ⟨by rw [Hr.out]; rfl, ?_⟩
      go_grown

theorem ret_bool2 (b : Bool) : Ending.returned (.bool b) = .returned (.bool b) := rfl
theorem staysE_some {x y : Ent} {want : List Ent} (h : findE want x.path = some y) : staysE x want = (x.dir == y.dir) := by simp [staysE, h]
theorem staysE_none {x : Ent} {want : List Ent} (h : findE want x.path = none) : staysE x want = false := by simp [staysE, h]

set_option maxRecDepth 100000 in
set_option maxHeartbeats 800000 in
theorem stays_any (x : Ent) (a : Option Addr) (cap : Nat) (want : List Ent) (w : World) (hl : want.length ≤ 140737488351232) (ha : RowsAt entLay w a want) :
    Calls Try.prog 15 #[.agg #[.string x.path, .int .i64 x.id, .bool x.dir, .string x.data], .slice a want.length cap] w fun e w' => e = .returned (.bool (staysE x want)) ∧ Below w.heap.size w w' := by
  have HF := Lib.hid fun W (hb : Below w.heap.size w W) => find_any a cap want x.path W hl (ha.keeps hb)
  clear ha
  cases hf : findE want x.path with
  | none =>
    have Hs := Lib.hid (staysE_none hf)
    rw [hf] at HF
    clear hf
    go_enter Try.func15, Try.ntmps15
    go_wp2_with fail
    refine (HF.out _ ((Below.refl _ _).alloc (Nat.le_refl _) _)).mono ?_
    simp only [Option.getD_none, Option.isSome_none]
    rintro e w1 ⟨rfl, hb1⟩
    obtain ⟨hc1, _, hz1⟩ := after_box hb1
    have hbw := below_box hb1
    unfold noEnt Ent.val
    go_wp2_with fail
    go_ret
    exact ⟨ret_bool Hs.out.symm, hbw.alloc hbw.size _⟩
  | some y =>
    have Hs := Lib.hid (staysE_some hf)
    rw [hf] at HF
    clear hf
    go_enter Try.func15, Try.ntmps15
    go_wp2_with fail
    refine (HF.out _ ((Below.refl _ _).alloc (Nat.le_refl _) _)).mono ?_
    simp only [Option.getD_some, Option.isSome_some]
    rintro e w1 ⟨rfl, hb1⟩
    obtain ⟨hc1, _, hz1⟩ := after_box hb1
    have hbw := below_box hb1
    unfold Ent.val
    go_wp2_with fail
    go_ret
    exact ⟨ret_bool Hs.out.symm, hbw.alloc hbw.size _⟩
end Go.Proofs.Ytmbmaompoplbaaa
