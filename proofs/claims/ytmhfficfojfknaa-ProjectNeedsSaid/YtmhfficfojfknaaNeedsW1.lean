import Derived.Test.YtmhfficfojfknaaProjShows
import Derived.Test.YtmhfficfojfknaaNeedsPure
import Derived.Test.YtmhfficfojfknaaSliced
import Derived.Sort.OwnSorted
import Derived.Lib.OwnBridge
import Derived.Lib.AppendIntMem
namespace Go.Proofs.Ytmhfficfojfknaa
open Go Go.RowKit Go.Lib

theorem clone_any (s : ByteArray) (w : World) (hs : s.size ≤ 281474976710656) : Calls Try.prog 16 #[.string s] w fun e w' => e = .returned (.string s) ∧ Below w.heap.size w w' := by
  have H := Lib.hid (Try.stringslite_Clone s w hs)
  go_enter Try.func16, Try.ntmps16
  go_wp2_with fail
  refine H.out.mono ?_
  rintro e w1 ⟨rfl, hb⟩
  go_wp2_with fail
  go_ret
  exact ⟨rfl, hb⟩



set_option maxRecDepth 100000 in
set_option maxHeartbeats 1600000 in
theorem texts12_any (a b : Option Addr) (cap cap' : Nat) (xs ys : List ByteArray) (w : World) (hl : xs.length ≤ 140737488351232) (ha : RowsAt strLay w a xs) (hb : RowsAt strLay w b ys) :
    Calls Try.prog 10 #[.slice a xs.length cap, .slice b ys.length cap'] w fun e w' => e = .returned (.bool (decide (xs = ys))) ∧ ∃ n, w' = w.drewN n := by
  have HA := Lib.hid ha
  have HB := Lib.hid hb
  clear ha hb
  by_cases hlen : xs.length = ys.length
  · have hq : ((xs.length : Int) != (ys.length : Int)) = false := by rw [hlen]; simp
    have Hlen := Lib.hid hlen
    clear hlen
    go_enter Try.func10, Try.ntmps10
    go_wp2
    clear hq
    go_loopw [5] (fun i wr => ∃ k : Nat, k ≤ xs.length ∧ i = .int .i64 k ∧ Hid (∀ j, j < k → xs[j]? = ys[j]?) ∧ ∃ n, wr = w.drewN n) (fun i _ => xs.length - (RowKit.intOf i).toNat)
    case atStart => exact ⟨0, Nat.zero_le _, rfl, fun j hj => absurd hj (Nat.not_lt_zero _), Drawn.refl _⟩
    case round =>
      obtain ⟨k, hk, rfl, Hk, n, rfl⟩ := hrel
      by_cases hlt : k < xs.length
      · have hlt2 : k < ys.length := by have := Hlen.out; omega
        obtain ⟨x, hx⟩ := at_some hlt
        obtain ⟨y, hy⟩ := at_some hlt2
        obtain ⟨b1, o1, rfl, hb1, c0⟩ := str_at HA.out hx
        obtain ⟨b2, o2, rfl, hb2, d0⟩ := str_at HB.out hy
        have Hx := Lib.hid hx
        have Hy := Lib.hid hy
        clear hx hy
        by_cases h1 : x = y
        · have e2 := str_eq h1
          have Hn := Lib.hid h1
          clear h1
          go_wp2
          go_quiet (fail)
          go_wp2
          go_roundw
          case rel =>
            refine ⟨k + 1, by omega, by go_num, fun j hj => ?_, n + nq, by simp⟩
            by_cases e : j = k
            · subst e; rw [Hx.out, Hy.out, Hn.out]
            · exact Hk.out j (by omega)
          case measure => simp [RowKit.intOf]; omega
        · have e2 := str_ne h1
          have Hr := Lib.hid (same_at Hx.out Hy.out h1)
          clear h1
          go_wp2
          go_quiet (fail)
          go_wp2
          go_ret
          exact ⟨ret_bool Hr.out.symm, n + nq, by simp⟩
      · have Hr := Lib.hid (same_ok Hlen.out (fun j hj => Hk.out j (by omega)))
        go_wp2
        go_ret
        exact ⟨ret_bool Hr.out.symm, _, rfl⟩
  · have Hr := Lib.hid (same_len hlen)
    have hq : ((xs.length : Int) != (ys.length : Int)) = true := by rw [bne_iff_ne]; omega
    clear hlen
    go_enter Try.func10, Try.ntmps10
    go_wp2
    go_ret
    exact ⟨ret_bool Hr.out.symm, Drawn.refl _⟩


/-- slices.Sort and slices.Compact of texts of the call's own. -/
theorem own_keys {w : World} {base : Nat} {e : TypeId} {v : Value} {ms : List ByteArray} (h : OwnRows strLay w base e v ms) : w.ownsRow base e 1 v ms.length ((ms.map keyB).map Proofs.encStr) := by
  have e1 : (ms.map keyB).map Proofs.encStr = flat strLay ms := by
    unfold flat keyB
    rw [map_encStr]
    exact List.map_eq_flatMap ..
  rw [e1]; exact h
theorem keys_own {w : World} {base : Nat} {e : TypeId} {v : Value} {ms : List ByteArray} {ks : List (List UInt8)} {n : Nat} (hk : ms.map keyB = ks) (hn : n = ms.length) (h : w.ownsRow base e 1 v n (ks.map Proofs.encStr)) : OwnRows strLay w base e v ms := by
  subst hk; subst hn
  have e1 : (ms.map keyB).map Proofs.encStr = flat strLay ms := by
    unfold flat keyB
    rw [map_encStr]
    exact List.map_eq_flatMap ..
  rw [e1] at h; exact h

set_option maxRecDepth 100000 in
set_option maxHeartbeats 3200000 in
theorem needs_any (a a' : Option Addr) (cap cap' : Nat) (xs : List Itm) (l : List Rul) (w : World) (hxs : ∀ x ∈ xs, x.path.size ≤ 100000 ∧ x.man.size ≤ 100000) (hlx : xs.length ≤ 100000) (hsz : ∀ x ∈ l, x.text.size ≤ 100000) (hl : l.length ≤ 1000)
    (ha : RowsAt itmLay w a xs) (ha' : RowsAt rulLay w a' l) :
    Calls Try.prog 11 #[.slice a xs.length cap, .slice a' l.length cap'] w fun e w' => ∃ v out, e = .returned v ∧ OwnRows strLay w' w.heap.size 9 v out ∧ Rising out ∧ (∀ z, z ∈ out ↔ z ∈ needK l xs xs.length) ∧ Below w.heap.size w w' := by
  obtain ⟨i0, hi, hz0, hz1, hz2⟩ := info_parts strInfo
  have Hi := Lib.hid hi
  have Hz0 := Lib.hid hz0
  have Hz1 := Lib.hid hz1
  have Hz2 := Lib.hid hz2
  have HA := Lib.hid ha
  have HH := Lib.hid (held_any a a' cap cap' xs l w (fun x hx => (hxs x hx).1) hlx hsz hl ha ha')
  have Hxs := Lib.hid hxs
  clear hi hz0 hz1 hz2 ha ha' hsz hxs hl
  go_enter Try.func11, Try.ntmps11
  go_wp2_with fail
  refine HH.out.mono ?_
  rintro e w1 ⟨v1, rfl, hob1, hb1⟩
  obtain ⟨ba, bc, rfl, hrb, _⟩ := hob1.read
  rw [List.length_map]
  have HB := Lib.hid hrb
  clear hob1 HH hrb
  go_wp2_with fail
  go_loopw [6, 14] (fun va i wr => ∃ k : Nat, k ≤ xs.length ∧ i = .int .i64 k ∧ OwnRows strLay wr w1.heap.size 9 va (needK l xs k) ∧ Below w1.heap.size w1 wr) (fun _ i _ => xs.length - (RowKit.intOf i).toNat)
  case atStart => exact ⟨0, Nat.zero_le _, rfl, OwnRows.nil _ _ _ _, Below.refl _ _⟩
  case round =>
    obtain ⟨k, hk, rfl, hoa, hb⟩ := hrel
    have hb2 := hb1.trans (hb.mono hb1.size)
    have hbs := hb.size
    by_cases hlt : k < xs.length
    · obtain ⟨x, hx⟩ := at_some hlt
      obtain ⟨b, off, rfl, hbl, c0, c1, c2, c3, c4, c5⟩ := itm_at (HA.out.keeps hb2) hx
      obtain ⟨bb, bo, rfl, hbbl, d0⟩ := bool_at (HB.out.keeps hb) (show (xs.map (inG l))[k]? = some (inG l x) by rw [List.getElem?_map, hx]; rfl)
      have hpm := (Hxs.out x (List.mem_of_getElem? hx)).2
      have Hst := Lib.hid (needK_step (l := l) hx)
      have hnl := needK_len l xs k
      have hw : wantsG l x = (inG l x && !x.dir && decide (x.man ≠ ⟨#[]⟩)) := rfl
      have hbx := hb.alloc hbs (.cells #[.string x.path, .int .i64 x.cnt, .int .i64 x.who, .bool x.dir, .bool x.ghost, .string x.man] 36)
      have hox := hoa.alloc (.cells #[.string x.path, .int .i64 x.cnt, .int .i64 x.who, .bool x.dir, .bool x.ghost, .string x.man] 36)
      obtain ⟨xp, xc, xw, xd, xg, xm⟩ := x
      generalize hix : inG l ⟨xp, xc, xw, xd, xg, xm⟩ = ix at *
      dsimp only at c0 c1 c2 c3 c4 c5 hpm hw hbx hox Hst
      generalize needK l xs k = out at *
      clear hx hix
      cases ix with
      | false =>
        have Hw := Lib.hid (show wantsG l ⟨xp, xc, xw, xd, xg, xm⟩ = false by rw [hw]; simp)
        clear hw
        go_wp2_with fail
        go_roundw
        case rel => exact ⟨k + 1, by omega, by go_num, by rw [Hst.out, Hw.out]; simpa using hox, hbx⟩
        case measure => simp [RowKit.intOf]; omega
      | true =>
        cases xd with
        | true =>
          have Hw := Lib.hid (show wantsG l ⟨xp, xc, xw, true, xg, xm⟩ = false by rw [hw]; simp)
          clear hw
          go_wp2_with fail
          go_roundw
          case rel => exact ⟨k + 1, by omega, by go_num, by rw [Hst.out, Hw.out]; simpa using hox, hbx⟩
          case measure => simp [RowKit.intOf]; omega
        | false =>
          by_cases hm : xm = ⟨#[]⟩
          · have Hw := Lib.hid (show wantsG l ⟨xp, xc, xw, false, xg, xm⟩ = false by rw [hw]; simp [hm])
            subst hm
            clear hw
            go_wp2_with fail
            go_roundw
            case rel => exact ⟨k + 1, by omega, by go_num, by rw [Hst.out, Hw.out]; simpa using hox, hbx⟩
            case measure => simp [RowKit.intOf]; omega
          · have Hw := Lib.hid (show wantsG l ⟨xp, xc, xw, false, xg, xm⟩ = true by rw [hw]; simp [hm])
            have e1 := empty_ne hm
            have HC := Lib.hid fun W => clone_any xm W (by omega)
            clear hw hm
            go_wp2_with fail
            refine (HC.out _).mono ?_
            rintro e w2 ⟨rfl, hb3⟩
            have hb4 := hbx.trans (hb3.mono hbx.size)
            have hoa2 := hox.below hb3
            clear hoa hox hb3 hbx hb c0 c1 c2 c3 c4 c5 d0 HC
            go_wp2_with (at_builtin; refine wpList_append_rows _ rfl _ _ 30 rfl strLay w1.heap.size 9 i0 (.string ⟨#[]⟩) 16 Try.underlying30 Hi.out Hz0.out Hz1.out Hz2.out rfl (by decide) _ _ rfl (hoa2.alloc _) ⟨w2.heap.size, 0, none⟩ 1 xm rfl (cells_new_at w2 w2.heap.size #[.string xm] 9 rfl) (by unfold maxLen; omega) (by omega) (by have := hb4.size; simp; omega) ?_)
            intro va w4 hoa4 hg4 _
            have hb5 := (hb4.alloc hb4.size (.cells #[.string xm] 9)).grown hg4 (by have := hb4.size; simp; omega) (fun j ej => (hoa2.lt ej).1)
            clear hg4 hoa2
            go_wp2_with fail
            go_roundw
            case rel =>
              refine ⟨k + 1, by omega, by go_num, ?_, hb5⟩
              rw [Hst.out, Hw.out]
              exact hoa4
            case measure => simp [RowKit.intOf]; omega
    · obtain rfl : k = xs.length := by omega
      have hnl := needK_len l xs xs.length
      generalize hms0 : needK l xs xs.length = ms at *
      obtain ⟨out, hout, hri, hmem⟩ := sorted_rising ms
      have hown := own_keys hoa
      by_cases hnil : u6 = .slice none 0 0
      · have hms : ms = [] := by
          subst hnil
          rcases hoa.2 with ⟨_, h⟩ | ⟨g, cap, cur, h, _⟩
          · exact List.length_eq_zero_iff.1 (by simpa using h)
          · cases h
        have hout0 : out = [] := by
          apply List.eq_nil_iff_forall_not_mem.2
          intro z hz
          have := (hmem z).1 hz
          rw [hms] at this
          cases this
        subst hnil
        have HS := Lib.hid fun W => Try.slices_Sort_string_none none 0 W
        have HC := Lib.hid fun W => Try.slices_Compact_string_empty none 0 W
        clear hown hout hmem
        go_wp2_with fail
        refine (HS.out _).mono ?_
        rintro e w2 ⟨rfl, rfl⟩
        go_wp2_with fail
        refine (HC.out _).mono ?_
        rintro e w2 ⟨rfl, rfl⟩
        go_wp2_with fail
        go_ret
        exact ⟨_, [], rfl, OwnRows.nil _ _ _ _, List.Pairwise.nil, fun z => by rw [hms0, hms], hb2⟩
      · obtain ⟨g, cp, rfl, hbg, hgl, hnc, hcm, hkl, hH⟩ := holds_of_ownsRow hown hnil
        have HS := Lib.hid (Try.slices_Sort_string g 0 cp (ms.map keyB) wr hH hgl (by rw [hkl]; omega))
        rw [hkl] at HS
        have hlen2 : ((ms.map keyB).mergeSort fun x y => decide (x ≤ y)).length = ms.length := by rw [List.length_mergeSort]; exact hkl
        have hown2 := fun q => ownsRow_putRow (q := q) (k := ms.length) (ys := (ms.map keyB).mergeSort fun x y => decide (x ≤ y)) hown hlen2 (Nat.le_refl _)
        rw [List.take_of_length_le (by omega)] at hown2
        generalize hsrt : (ms.map keyB).mergeSort (fun x y => decide (x ≤ y)) = srt at *
        clear hnil hH hown hoa
        go_wp2_with fail
        refine HS.out.mono ?_
        rintro e w2 ⟨rfl, n, os, rfl⟩
        have hb3 := below_putRow (enc := Proofs.encStr) (q := n) (d := srt.toArray) hb hbg
        have hown3 := hown2 n
        generalize Sort.putRow Proofs.encStr (Sort.ahead wr n) g 0 srt.toArray = w3 at *
        have hb4 : Below w1.heap.size w1 (Sort.grow w3 os) := hb3.trans (by have h0 := below_grow w1.heap.size w3 hb3.size 0 os; rwa [World.drewN_zero] at h0)
        have hown4 : (Sort.grow w3 os).ownsRow w1.heap.size 9 1 (.slice (some ⟨g, 0, none⟩) ms.length cp) ms.length (srt.map Proofs.encStr) := by have h0 := ownsRow_grow hown3 0 os; rwa [World.drewN_zero] at h0
        generalize Sort.grow w3 os = w4 at *
        obtain ⟨g', cp', he, _, _, _, _, _, hH⟩ := holds_of_ownsRow hown4 (by simp)
        cases he
        have HC := Lib.hid (Try.slices_Compact_string g 0 cp srt w4 hH (by rw [hlen2]; omega) (by rw [hlen2]; omega))
        rw [hlen2, ← hout, List.length_map] at HC
        have hol : out.length ≤ ms.length := by
          rw [← List.length_map (f := keyB), hout]; unfold Lib.compact compactUpTo
          rw [List.length_map]
          exact Nat.le_trans (List.length_filter_le _ _) (by simp; omega)
        have hown5 := fun q => ownsRow_putRow (q := q) (k := out.length) (ys := out.map keyB ++ List.replicate (ms.length - out.length) []) hown4 (by rw [List.length_append, List.length_replicate, List.length_map]; omega) hol
        rw [List.take_left' (List.length_map ..)] at hown5
        clear hown2 hown3 hown4 HS
        go_wp2_with fail
        refine HC.out.mono ?_
        rintro e w5 ⟨rfl, q, rfl⟩
        have hb5 := below_putRow (enc := Proofs.encStr) (q := q) (d := (out.map keyB ++ List.replicate (ms.length - out.length) []).toArray) hb4 hbg
        have hown6 := keys_own rfl rfl (hown5 q)
        generalize Sort.putRow Proofs.encStr (Sort.ahead w4 q) g 0 (out.map keyB ++ List.replicate (ms.length - out.length) []).toArray = w6 at *
        go_wp2_with fail
        go_ret
        exact ⟨_, out, rfl, hown6.lower hb1.size, hri, fun z => by rw [hms0]; exact hmem z, hb1.trans (hb5.mono hb1.size)⟩

set_option maxRecDepth 100000 in
set_option maxHeartbeats 3200000 in
theorem rneeds_any (a a' : Option Addr) (cap cap' : Nat) (xs : List Itm) (l : List Rul) (w : World) (hxs : ∀ x ∈ xs, x.path.size ≤ 100000 ∧ x.man.size ≤ 100000) (hlx : xs.length ≤ 100000) (hsz : ∀ x ∈ l, x.text.size ≤ 100000) (hl : l.length ≤ 1000)
    (ha : RowsAt itmLay w a xs) (ha' : RowsAt rulLay w a' l) :
    Calls Try.prog 12 #[.slice a xs.length cap, .slice a' l.length cap'] w fun e w' => ∃ v out, e = .returned v ∧ OwnRows strLay w' w.heap.size 9 v out ∧ Rising out ∧ (∀ z, z ∈ out ↔ z ∈ needK l xs xs.length) ∧ Below w.heap.size w w' := by
  obtain ⟨i0, hi, hz0, hz1, hz2⟩ := info_parts strInfo
  have Hi := Lib.hid hi
  have Hz0 := Lib.hid hz0
  have Hz1 := Lib.hid hz1
  have Hz2 := Lib.hid hz2
  have HA := Lib.hid ha
  have HIN := Lib.hid fun (x : Itm) W (hx : x.path.size ≤ 100000) (hb : Below w.heap.size w W) => in12_any a' cap' x l W hx hsz hl (ha'.keeps hb)
  have Hxs := Lib.hid hxs
  clear hi hz0 hz1 hz2 ha ha' hsz hxs hl
  go_enter Try.func12, Try.ntmps12
  go_wp2_with fail
  go_loopw [5, 6] (fun va i wr => ∃ (k : Nat) (out : List ByteArray), k ≤ xs.length ∧ out.length ≤ k ∧ i = .int .i64 k ∧ OwnRows strLay wr w.heap.size 9 va out ∧ Hid (Rising out) ∧ Hid (∀ z, z ∈ out ↔ z ∈ needK l xs k) ∧ Below w.heap.size w wr) (fun _ i _ => xs.length - (RowKit.intOf i).toNat)
  case atStart => exact ⟨0, [], Nat.zero_le _, Nat.le_refl _, rfl, OwnRows.nil _ _ _ _, Lib.hid List.Pairwise.nil, Lib.hid fun z => by simp [needK], Below.refl _ _⟩
  case round =>
    obtain ⟨k, out, hk, hlo, rfl, hoa, Hri, Hme, hb⟩ := hrel
    have hbs := hb.size
    obtain ⟨oa, oc, rfl, hro, hol, hon, hocm⟩ := hoa.read_nil
    by_cases hlt : k < xs.length
    · obtain ⟨x, hx⟩ := at_some hlt
      obtain ⟨b, off, rfl, hbl, c0, c1, c2, c3, c4, c5⟩ := itm_at (HA.out.keeps hb) hx
      have hpm := Hxs.out x (List.mem_of_getElem? hx)
      have Hst := Lib.hid (needK_step (l := l) hx)
      have hw : wantsG l x = (inG l x && !x.dir && decide (x.man ≠ ⟨#[]⟩)) := rfl
      have HC := Lib.hid (HIN.out x wr hpm.1 hb)
      generalize hix : inG l x = ix at *
      obtain ⟨xp, xc, xw, xd, xg, xm⟩ := x
      dsimp only at c0 c1 c2 c3 c4 c5 hpm hw HC Hst
      clear hx hix
      cases xd with
      | true =>
        have Hw := Lib.hid (show wantsG l ⟨xp, xc, xw, true, xg, xm⟩ = false by rw [hw]; simp)
        clear hw HC hro
        go_wp2_with fail
        go_roundw
        case rel => exact ⟨k + 1, out, by omega, by omega, by go_num, hoa, Hri, Lib.hid fun z => by rw [Hst.out, Hw.out]; simpa using Hme.out z, hb⟩
        case measure => simp [RowKit.intOf]; omega
      | false =>
        by_cases hm : xm = ⟨#[]⟩
        · have Hw := Lib.hid (show wantsG l ⟨xp, xc, xw, false, xg, xm⟩ = false by rw [hw]; simp [hm])
          subst hm
          clear hw HC hro
          go_wp2_with fail
          go_roundw
          case rel => exact ⟨k + 1, out, by omega, by omega, by go_num, hoa, Hri, Lib.hid fun z => by rw [Hst.out, Hw.out]; simpa using Hme.out z, hb⟩
          case measure => simp [RowKit.intOf]; omega
        · have e1 := empty_ne hm
          cases ix with
          | false =>
            have Hw := Lib.hid (show wantsG l ⟨xp, xc, xw, false, xg, xm⟩ = false by rw [hw]; simp)
            clear hw hm hro
            go_wp2_with fail
            refine HC.out.mono ?_
            rintro e w2 ⟨rfl, hb2⟩
            have hb3 := hb.trans (hb2.mono hbs)
            have hoa2 := hoa.below hb2
            clear HC hoa c0 c1 c2 c3 c4 c5
            go_wp2_with fail
            go_roundw
            case rel => exact ⟨k + 1, out, by omega, by omega, by go_num, hoa2, Hri, Lib.hid fun z => by rw [Hst.out, Hw.out]; simpa using Hme.out z, hb3⟩
            case measure => simp [RowKit.intOf]; omega
          | true =>
            have Hw := Lib.hid (show wantsG l ⟨xp, xc, xw, false, xg, xm⟩ = true by rw [hw]; simp [hm])
            clear hw hm
            go_wp2_with fail
            refine HC.out.mono ?_
            rintro e wq ⟨rfl, hb2⟩
            have hbq := hb.trans (hb2.mono hbs)
            have hwq := hbq.size
            have hoq := hoa.below hb2
            have hroq := hro.keeps hb2
            clear HC hoa hro c0 c1 c2 c3 c4 c5 hb hbs hb2
            generalize hwo : wr = wo at *
            clear hwo
            go_wp2_with fail
            go_loop [8] (fun i => ∃ m : Nat, m ≤ out.length ∧ i = .int .i64 m ∧ Hid (∀ y ∈ out.take m, keyB y < keyB xm)) (fun i => out.length - (RowKit.intOf i).toNat)
            case atStart => exact ⟨0, Nat.zero_le _, rfl, Lib.hid fun y hy => by simp at hy⟩
            case round =>
              obtain ⟨at', hat, rfl, Hlo⟩ := hrel
              have hsh := fun W => slice_high Try.underlying30 Try.sizeOf9 oa out.length oc at' (by omega) W
              have hsl := fun W => slice_low Try.underlying30 Try.sizeOf9 oa out.length oc at' hat W
              by_cases hlt2 : at' < out.length
              · obtain ⟨y, hy⟩ := at_some hlt2
                obtain ⟨yb, yo, rfl, hybl, d0⟩ := str_at hroq hy
                by_cases hys : keyB y < keyB xm
                · have e2 : Op.bytesLess y.toList xm.toList = true := by rw [Proofs.bytesLess_eq, toList_data, toList_data]; simpa [keyB] using hys
                  have Hs := Lib.hid (show ∀ z ∈ out.take (at' + 1), keyB z < keyB xm by
                    intro z hz
                    rw [List.take_add_one, hy, Option.toList_some, List.mem_append, List.mem_singleton] at hz
                    rcases hz with hz | rfl
                    · exact Hlo.out z hz
                    · exact hys)
                  clear hys hy hsh hsl
                  go_wp2_with fail
                  go_round
                  case rel => exact ⟨at' + 1, by omega, by go_num, Hs⟩
                  case measure => simp [RowKit.intOf]; omega
                · have e2 : Op.bytesLess y.toList xm.toList = false := by rw [Proofs.bytesLess_eq, toList_data, toList_data]; simpa [keyB] using hys
                  by_cases hym : y = xm
                  · have e3 := str_eq hym
                    have Hin := Lib.hid (show xm ∈ out from hym ▸ List.mem_of_getElem? hy)
                    clear hys hym hy hsh hsl
                    go_wp2_with fail
                    go_roundw
                    case rel => exact ⟨k + 1, out, by omega, by omega, by go_num, hoq, Hri, Lib.hid fun z => by
                                  rw [Hst.out, Hw.out, Hme.out z]
                                  have := (Hme.out xm).1 Hin.out
                                  simp only [if_true, List.mem_append, List.mem_singleton]
                                  exact ⟨.inl, fun h => h.elim id (fun e => e ▸ this)⟩, hbq⟩
                    case measure => simp [RowKit.intOf]; omega
                  · have e3 := str_ne hym
                    have Hge := Lib.hid (show ∀ z, out[at']? = some z → ¬ keyB z < keyB xm ∧ z ≠ xm from fun z hz => by rw [hy] at hz; cases hz; exact ⟨hys, hym⟩)
                    clear hys hym hy hoq
                    go_wp2_with (first | (at_builtin; refine wpList_append_from _ rfl _ _ 30 rfl strLay wq.heap.size 9 i0 (.string ⟨#[]⟩) 16 Try.underlying30 Hi.out Hz0.out Hz1.out Hz2.out rfl (by decide) _ [] rfl (OwnRows.nil _ _ _ _) (some ⟨yb, yo, none⟩) oc at' (out.take at') rfl (by simp; omega) (hroq.take at') hon (by unfold maxLen; first | omega | (simp; omega)) (by first | omega | (simp; omega)) (Nat.le_refl _) ?_))
                    intro v1 w2 ho1 hg1 _
                    have hb1 : Below wq.heap.size wq w2 := (Below.refl _ _).grown hg1 (Nat.le_refl _) (fun j ej => by cases ej)
                    have hro2 := hroq.keeps hb1
                    have hbs1 := hb1.size
                    clear hg1
                    go_wp2_with (first | (at_builtin; refine wpList_append_rows _ rfl _ _ 30 rfl strLay wq.heap.size 9 i0 (.string ⟨#[]⟩) 16 Try.underlying30 Hi.out Hz0.out Hz1.out Hz2.out rfl (by decide) _ _ rfl (ho1.alloc _) ⟨w2.heap.size, 0, none⟩ 1 xm rfl (cells_new_at w2 w2.heap.size #[.string xm] 9 rfl) (by unfold maxLen; first | omega | (simp; omega)) (by first | omega | (simp; omega)) (by simp; omega) ?_))
                    intro v2 w3 ho2 hg2 _
                    have hb2' := (hb1.alloc hbs1 (.cells #[.string xm] 9)).grown hg2 (by simp; omega) (fun j ej => (ho1.lt ej).1)
                    have hro3 := hroq.keeps hb2'
                    have hbs2 := hb2'.size
                    clear hg2 ho1 hro2
                    go_wp2_with (first | (at_builtin; refine wpList_append_from _ rfl _ _ 30 rfl strLay wq.heap.size 9 i0 (.string ⟨#[]⟩) 16 Try.underlying30 Hi.out Hz0.out Hz1.out Hz2.out rfl (by decide) _ _ rfl ho2 (lowA (some ⟨yb, yo, none⟩) at' oc 1) (oc - at') (out.length - at') (out.drop at') rfl (by simp) (rows_low hro3 hol at') (lowA_nil hon) (by unfold maxLen; first | omega | (simp; omega)) (by first | omega | (simp; omega)) hbs2 ?_))
                    intro v3 w4 ho3 hg3 _
                    have hb3' := hb2'.grown hg3 hbs2 (fun j ej => (ho2.lt ej).1)
                    have hob := ho3.lower hwq
                    have hbq' := hbq.trans (hb3'.mono hwq)
                    obtain ⟨hri2, hme2⟩ := rising_put Hri.out Hlo.out Hge.out
                    clear hg3 ho2 ho3
                    go_wp2_with fail
                    go_roundw
                    case rel =>
                      refine ⟨k + 1, out.take at' ++ [xm] ++ out.drop at', by omega, by simp; omega, by go_num, by simpa using hob, Lib.hid hri2, Lib.hid fun z => ?_, hbq'⟩
                      rw [hme2 z, Hme.out z, Hst.out, Hw.out]
                      simp
                    case measure => simp [RowKit.intOf]; omega
              · obtain rfl : at' = out.length := by omega
                have Hge := Lib.hid (show ∀ z, out[out.length]? = some z → ¬ keyB z < keyB xm ∧ z ≠ xm from fun z hz => by simp at hz)
                clear hoq
                go_wp2_with (first | (at_builtin; refine wpList_append_from _ rfl _ _ 30 rfl strLay wq.heap.size 9 i0 (.string ⟨#[]⟩) 16 Try.underlying30 Hi.out Hz0.out Hz1.out Hz2.out rfl (by decide) _ [] rfl (OwnRows.nil _ _ _ _) oa oc out.length out rfl rfl hroq hon (by unfold maxLen; first | omega | (simp; omega)) (by first | omega | (simp; omega)) (Nat.le_refl _) ?_))
                intro v1 w2 ho1 hg1 _
                have hb1 : Below wq.heap.size wq w2 := (Below.refl _ _).grown hg1 (Nat.le_refl _) (fun j ej => by cases ej)
                have hro2 := hroq.keeps hb1
                have hbs1 := hb1.size
                clear hg1
                go_wp2_with (first | (at_builtin; refine wpList_append_rows _ rfl _ _ 30 rfl strLay wq.heap.size 9 i0 (.string ⟨#[]⟩) 16 Try.underlying30 Hi.out Hz0.out Hz1.out Hz2.out rfl (by decide) _ _ rfl (ho1.alloc _) ⟨w2.heap.size, 0, none⟩ 1 xm rfl (cells_new_at w2 w2.heap.size #[.string xm] 9 rfl) (by unfold maxLen; first | omega | (simp; omega)) (by first | omega | (simp; omega)) (by simp; omega) ?_))
                intro v2 w3 ho2 hg2 _
                have hb2' := (hb1.alloc hbs1 (.cells #[.string xm] 9)).grown hg2 (by simp; omega) (fun j ej => (ho1.lt ej).1)
                have hro3 := hroq.keeps hb2'
                have hbs2 := hb2'.size
                clear hg2 ho1 hro2
                go_wp2_with (first | (at_builtin; refine wpList_append_from _ rfl _ _ 30 rfl strLay wq.heap.size 9 i0 (.string ⟨#[]⟩) 16 Try.underlying30 Hi.out Hz0.out Hz1.out Hz2.out rfl (by decide) _ _ rfl ho2 (lowA oa out.length oc 1) (oc - out.length) _ [] rfl (by simp) (RowsAt.nil _ _ _) (lowA_nil hon) (by unfold maxLen; first | omega | (simp; omega)) (by first | omega | (simp; omega)) hbs2 ?_))
                intro v3 w4 ho3 hg3 _
                have hb3' := hb2'.grown hg3 hbs2 (fun j ej => (ho2.lt ej).1)
                have hob := ho3.lower hwq
                have hbq' := hbq.trans (hb3'.mono hwq)
                obtain ⟨hri2, hme2⟩ := rising_put Hri.out Hlo.out Hge.out
                clear hg3 ho2 ho3
                go_wp2_with fail
                go_roundw
                case rel =>
                  refine ⟨k + 1, out.take out.length ++ [xm] ++ out.drop out.length, by omega, by simp; omega, by go_num, by simpa using hob, Lib.hid hri2, Lib.hid fun z => ?_, hbq'⟩
                  rw [hme2 z, Hme.out z, Hst.out, Hw.out]
                  simp
                case measure => simp [RowKit.intOf]; omega
    · obtain rfl : k = xs.length := by omega
      go_wp2_with fail
      go_ret
      exact ⟨_, out, rfl, hoa, Hri.out, Hme.out, hb⟩
end Go.Proofs.Ytmhfficfojfknaa

