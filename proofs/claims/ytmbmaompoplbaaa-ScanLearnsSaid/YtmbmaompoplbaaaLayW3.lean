import Derived.Test.YtmbmaompoplbaaaLayW2
namespace Go.Proofs.Ytmbmaompoplbaaa
open Go.RowKit Go.Lib

theorem thereE_hit {l want : List Ent} {p : ByteArray} {k : Nat} {x : Ent} (hx : l[k]? = some x) (hp : x.path = p) (hs : staysE x want = true) (h : ∀ j y, j < k → l[j]? = some y → ¬ (y.path = p ∧ staysE y want = true)) : thereE l want p = some x := by
  obtain ⟨hk, hx'⟩ := List.getElem?_eq_some_iff.1 hx
  unfold thereE
  rw [List.find?_eq_some_iff_getElem]
  refine ⟨by simp [hp, hs], k, hk, hx', fun j hj => ?_⟩
  have := h j l[j] hj (List.getElem?_eq_getElem (by omega))
  by_cases h1 : l[j].path = p <;> simp_all
theorem thereE_miss {l want : List Ent} {p : ByteArray} (h : ∀ j y, j < l.length → l[j]? = some y → ¬ (y.path = p ∧ staysE y want = true)) : thereE l want p = none := by
  unfold thereE
  rw [List.find?_eq_none]
  intro x hx
  obtain ⟨j, hj, e⟩ := List.getElem_of_mem hx
  have := h j x hj (by rw [List.getElem?_eq_getElem hj, e])
  simpa using this

set_option maxRecDepth 100000 in
set_option maxHeartbeats 800000 in
theorem there_any (a a' : Option Addr) (cap cap' : Nat) (l want : List Ent) (p : ByteArray) (w : World) (hl : l.length ≤ 140737488351232) (hl' : want.length ≤ 140737488351232) (ha : RowsAt entLay w a l) (ha' : RowsAt entLay w a' want) :
    Calls Try.prog 16 #[.slice a l.length cap, .slice a' want.length cap', .string p] w fun e w' => e = .returned (.tuple #[((thereE l want p).getD noEnt).val, .bool (thereE l want p).isSome]) ∧ Below w.heap.size w w' := by
  have HA := Lib.hid ha
  have HS := Lib.hid fun x W (hb : Below w.heap.size w W) => stays_any x a' cap' want W hl' (ha'.keeps hb)
  clear ha ha'
  go_enter Try.func16, Try.ntmps16
  go_wp2
  go_loopw [8] (fun i wr => ∃ k : Nat, k ≤ l.length ∧ i = .int .i64 k ∧ Hid (∀ j y, j < k → l[j]? = some y → ¬ (y.path = p ∧ staysE y want = true)) ∧ Below (w.alloc (.cells #[.string ⟨#[]⟩, .int .i64 0, .bool false, .string ⟨#[]⟩] 36)).heap.size (w.alloc (.cells #[.string ⟨#[]⟩, .int .i64 0, .bool false, .string ⟨#[]⟩] 36)) wr) (fun i _ => l.length - (RowKit.intOf i).toNat)
  case atStart => exact ⟨0, Nat.zero_le _, rfl, fun j _ hj => absurd hj (Nat.not_lt_zero _), Below.refl _ _⟩
  case round =>
    obtain ⟨k, hk, rfl, Hk, hb⟩ := hrel
    have hbw := below_box hb
    by_cases hlt : k < l.length
    · obtain ⟨x, hx⟩ := at_some hlt
      obtain ⟨b, off, rfl, hbl, c0, c1, c2, c3⟩ := ent_at (HA.out.keeps hbw) hx
      have Hx := Lib.hid hx
      clear hx
      by_cases he : x.path = p
      · have hb' := str_eq he
        by_cases hs : staysE x want = true
        · have Hr := Lib.hid (thereE_hit Hx.out he hs Hk.out)
          have HS' := HS.out x _ hbw
          rw [hs] at HS'
          have HS' := Lib.hid HS'
          clear he hs
          go_wp2_with fail
          refine HS'.out.mono ?_
          rintro e w1 ⟨rfl, hb1⟩
          have hb2 := hb.trans (hb1.mono hb.size)
          obtain ⟨f1, f2, f3⟩ := after_box hb2
          have hbw2 := below_box hb2
          obtain ⟨b', off', he', _, d0, d1, d2, d3⟩ := ent_at (HA.out.keeps hbw2) Hx.out
          cases he'
          clear hb hb1 c0 c1 c2 c3
          go_wp2_with fail
          refine bodyPost_ret (v := .tuple #[.agg #[.string x.path, .int .i64 x.id, .bool x.dir, .string x.data], .bool true]) (by simp [results, Try.results16, go_sem, f1]) rfl ⟨by rw [Hr.out]; rfl, ?_⟩
          go_grown
        · have hs : staysE x want = false := by simpa using hs
          have Hn := Lib.hid (show ¬ (x.path = p ∧ staysE x want = true) from fun h => by rw [hs] at h; simp at h)
          have HS' := HS.out x _ hbw
          rw [hs] at HS'
          have HS' := Lib.hid HS'
          clear he hs
          go_wp2_with fail
          refine HS'.out.mono ?_
          rintro e w1 ⟨rfl, hb1⟩
          go_wp2_with fail
          go_roundw
          case rel =>
            refine ⟨k + 1, by omega, by go_num, fun j y hj hy => ?_, hb.trans (hb1.mono hb.size)⟩
            by_cases e : j = k
            · subst e
              rw [Hx.out] at hy
              cases hy
              exact Hn.out
            · exact Hk.out j y (by omega) hy
          case measure => simp [RowKit.intOf]; omega
      · have Hn := Lib.hid (show ¬ (x.path = p ∧ staysE x want = true) from fun h => he h.1)
        have hb' := str_ne he
        clear he
        go_wp2_with fail
        go_roundw
        case rel =>
          refine ⟨k + 1, by omega, by go_num, fun j y hj hy => ?_, hb⟩
          by_cases e : j = k
          · subst e
            rw [Hx.out] at hy
            cases hy
            exact Hn.out
          · exact Hk.out j y (by omega) hy
        case measure => simp [RowKit.intOf]; omega
    · have Hr := Lib.hid (thereE_miss (l := l) (want := want) (p := p) (fun j y hj => Hk.out j y (by omega)))
      obtain ⟨f1, f2, f3⟩ := after_box hb
      go_wp2_with fail
      refine bodyPost_ret (v := .tuple #[.agg #[.string ⟨#[]⟩, .int .i64 0, .bool false, .string ⟨#[]⟩], .bool false]) (by simp [results, Try.results16, go_sem, f1]) rfl ⟨by rw [Hr.out]; rfl, ?_⟩
      go_grown
end Go.Proofs.Ytmbmaompoplbaaa
