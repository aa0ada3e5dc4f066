/-
  
-/
import Derived.Test.YtgjgeojhhglidaaDoorLayW6
import Derived.Test.YtgjgeojhhglidaaDoorScanPure
import Derived.Deep.AppendLies
import Derived.IntWalk
import Derived.Test.YtgjgeojhhglidaaDoorAppends
namespace Go.Proofs.YtgjgeojhhglidaaDoor
open Go.RowKit Go.Lib

theorem kInfo : (Tryd.prog.info? 90).map (fun i => (i.zero, i.size, i.bytes)) = some (some (.agg #[.int .i64 0, .string ⟨#[]⟩, .bool false, .string ⟨#[]⟩]), 4, 48) := by kernel_rfl

set_option maxRecDepth 100000 in
set_option maxHeartbeats 1600000 in
theorem learn_any (a : Option Addr) (cap : Nat) (l : List Ent) (w : World) (hl : l.length ≤ 1000) (ha : RowsAt entLay w a l) :
    Calls Tryd.prog 36 #[.slice a l.length cap] w fun e w' => ∃ v, e = .returned v ∧ OwnRows kLay w' w.heap.size 90 v (l.map toK) ∧ Below w.heap.size w w' := by
  have HA := Lib.hid ha
  obtain ⟨i0, hi, hz0, hz1, hz2⟩ := info_parts kInfo
  have Hi := Lib.hid hi
  have Hz0 := Lib.hid hz0
  have Hz1 := Lib.hid hz1
  have Hz2 := Lib.hid hz2
  clear hi hz0 hz1 hz2 ha
  go_enter Tryd.func36, Tryd.ntmps36
  go_wp2_with fail
  go_loopw [3, 8] (fun va i wr => ∃ k : Nat, k ≤ l.length ∧ i = .int .i64 k ∧ OwnRows kLay wr w.heap.size 90 va ((l.take k).map toK) ∧ Below w.heap.size w wr) (fun _ i _ => l.length - (RowKit.intOf i).toNat)
  case atStart => exact ⟨0, Nat.zero_le _, rfl, OwnRows.nil _ _ _ _, Below.refl _ _⟩
  case round =>
    obtain ⟨k, hk, rfl, hoa, hb⟩ := hrel
    by_cases hlt : k < l.length
    · obtain ⟨x, hx⟩ := at_some hlt
      obtain ⟨b, off, rfl, hbl, c0, c1, c2, c3⟩ := ent_at (HA.out.keeps hb) hx
      have hst : (l.take (k + 1)).map toK = (l.take k).map toK ++ [toK x] := by rw [List.take_add_one, hx]; simp
      obtain ⟨xp, xi, xd, xt⟩ := x
      dsimp only [toK] at c0 c1 c2 c3 hst
      have Hst := Lib.hid hst
      have hsl : ((l.take k).map toK).length ≤ 1000 := by simp; omega
      clear hx hst
      generalize (l.take k).map toK = acts at *
      have hoa2 := hoa.alloc (.cells #[.string xp, .int .i64 xi, .bool xd, .string xt] 38)
      have hb2 := hb.alloc hb.size (.cells #[.string xp, .int .i64 xi, .bool xd, .string xt] 38)
      clear hoa
      go_wp2_with (at_builtin; refine wpList_append_rows _ rfl _ _ 58 rfl kLay w.heap.size 90 i0 (.agg #[.int .i64 0, .string ⟨#[]⟩, .bool false, .string ⟨#[]⟩]) 48 Tryd.underlying58 Hi.out Hz0.out Hz1.out Hz2.out rfl (by decide) _ _ rfl (hoa2.alloc _) ⟨wr.heap.size + 1, 0, none⟩ 1 ⟨xi, xp, xd, xt⟩ rfl (cells_new_at (wr.alloc (.cells #[.string xp, .int .i64 xi, .bool xd, .string xt] 38)) (wr.heap.size + 1) #[.int .i64 xi, .string xp, .bool xd, .string xt] 90 (by simp)) (by unfold maxLen; omega) (by omega) (by have := hb.size; simp; omega) ?_)
      intro va w4 hoa4 hg4 _
      have hb4 := (hb2.alloc hb2.size (.cells #[.int .i64 xi, .string xp, .bool xd, .string xt] 90)).grown hg4 (by have := hb.size; simp; omega) (fun j ej => (hoa2.lt ej).1)
      clear hg4 hoa2 hb2
      go_wp2_with fail
      go_roundw
      case rel =>
        refine ⟨k + 1, by omega, by go_num, ?_, hb4⟩
        rw [Hst.out]
        exact hoa4
      case measure => simp [RowKit.intOf]; omega
    · obtain rfl : k = l.length := by omega
      rw [List.take_length] at hoa
      go_wp2_with fail
      go_ret
      exact ⟨_, rfl, hoa, hb⟩
end Go.Proofs.YtgjgeojhhglidaaDoor

namespace Go.Proofs.YtgjgeojhhglidaaDoor
open Go.RowKit Go.Lib

/-- A sheet of a list: where it lies, and what its maps hold. -/
def SheetAt (w : World) (g : Nat) (l : List KEnt) : Prop := g < w.heap.size ∧ ∃ (a : Option Addr) (cap b1 n1 b2 n2 : Nat), w.cell? ⟨g, 0, none⟩ = some (.slice a l.length cap) ∧ w.cell? ⟨g, 1, none⟩ = some (.map (some b1)) ∧ w.cell? ⟨g, 2, none⟩ = some (.map (some b2)) ∧
  RowsAt kLay w a l ∧ MapOf (Value.int .i64) w b1 n1 (firstF l 0) ∧ MapOf Value.string w b2 n2 (idF l)
theorem SheetAt.keeps {w w' : World} {g : Nat} {l : List KEnt} (h : SheetAt w g l) (hb : Below w.heap.size w w') : SheetAt w' g l := by
  obtain ⟨hg, a, cap, b1, n1, b2, n2, h0, h1, h2, hr, m1, m2⟩ := h
  exact ⟨Nat.lt_of_lt_of_le hg hb.size, a, cap, b1, n1, b2, n2, (hb.cell (p := ⟨g, 0, none⟩) hg).trans h0, (hb.cell (p := ⟨g, 1, none⟩) hg).trans h1, (hb.cell (p := ⟨g, 2, none⟩) hg).trans h2, hr.keeps hb, m1.below hb m1.lt, m2.below hb m2.lt⟩

set_option maxRecDepth 100000 in
set_option maxHeartbeats 1600000 in
theorem sheet_any (a : Option Addr) (cap : Nat) (l : List KEnt) (w : World) (hl : l.length ≤ 1000) (ha : RowsAt kLay w a l) :
    Calls Tryd.prog 56 #[.slice a l.length cap] w fun e w' => ∃ g, e = .returned (.pointer (some ⟨g, 0, none⟩)) ∧ SheetAt w' g l ∧ Below w.heap.size w w' := by
  have HA := Lib.hid ha
  have hmm := @run_makeMap Tryd.prog
  clear ha
  go_enter Tryd.func56, Tryd.ntmps56
  go_wp2_with fail
  go_loopw [4] (fun i wr => ∃ k : Nat, k ≤ l.length ∧ i = .int .i64 ((k : Int) - 1) ∧ MapOf (Value.int .i64) wr w.heap.size (l.length - k) (firstF (l.drop k) k) ∧ MapOf Value.string wr (w.heap.size + 1) (l.length - k) (idF (l.drop k)) ∧
    wr.cell? ⟨w.heap.size + 2, 0, none⟩ = some (.slice a l.length cap) ∧ wr.cell? ⟨w.heap.size + 2, 1, none⟩ = some (.map (some w.heap.size)) ∧ wr.cell? ⟨w.heap.size + 2, 2, none⟩ = some (.map (some (w.heap.size + 1))) ∧ w.heap.size + 2 < wr.heap.size ∧ Below w.heap.size w wr) (fun i _ => ((RowKit.intOf i) + 1).toNat)
  case atStart =>
    have hc := cells_new_at ((w.alloc (.map #[] 0)).alloc (.map #[] 0)) (w.heap.size + 2) #[.slice a l.length cap, .map (some w.heap.size), .map (some (w.heap.size + 1))] 95 (by simp)
    refine ⟨l.length, Nat.le_refl _, rfl, ?_, ?_, by simpa [Addr.add] using hc 0 _ rfl, by simpa [Addr.add] using hc 1 _ rfl, by simpa [Addr.add] using hc 2 _ rfl, by simp, ?_⟩
    · rw [List.drop_length, Nat.sub_self]
      exact ((MapOf.made w).alloc _).alloc _
    · rw [List.drop_length, Nat.sub_self]
      have := MapOf.made (inj := Value.string) (w.alloc (.map #[] 0))
      rw [show (w.alloc (.map #[] 0)).heap.size = w.heap.size + 1 by simp] at this
      exact this.alloc _
    · exact (((Below.refl _ _).alloc (Nat.le_refl _) _).alloc (by simp) _).alloc (by simp; omega) _
  case round =>
    obtain ⟨k, hk, rfl, hm1, hm2, g0, g1, g2, hgl, hb⟩ := hrel
    by_cases h0 : 0 < k
    · obtain ⟨n, rfl⟩ : ∃ n, k = n + 1 := ⟨k - 1, by omega⟩
      have e1 : ((n + 1 : Nat) : Int) - 1 = (n : Int) := by omega
      rw [e1]
      obtain ⟨x, hx⟩ := at_some (show n < l.length by omega)
      obtain ⟨b, off, rfl, hbl, c0, c1, c2, c3⟩ := k_at (HA.out.keeps hb) hx
      have hst1 : firstF (l.drop n) n = putAt (firstF (l.drop (n + 1)) (n + 1)) x.id (.int .i64 n) := by rw [drop_at hx, firstF_cons]
      have hst2 : idF (l.drop n) = putAt (idF (l.drop (n + 1))) x.path (.int .i64 x.id) := by rw [drop_at hx, idF_cons]
      obtain ⟨_, _, he, hbw, _⟩ := k_at HA.out hx
      cases he
      have Hst1 := Lib.hid hst1
      have Hst2 := Lib.hid hst2
      have HX := Lib.hid hx
      clear hst1 hst2 hx e1
      go_wp2_with fail
      have hi1 : (n : Int) < (l.length : Int) := by omega
      have hraw : ∀ p, World.cell? { heap := wr.heap, tape := wr.tape, drawn := wr.drawn + 1, os := wr.os, output := wr.output } p = wr.cell? p := fun _ => rfl
      go_still_tail 10, (by kernel_rfl)
      change wpList _ _ _ _ _ wr.drew
      clear hraw
      go_wp2_with (at_mapUpdate; refine wpList_mapUpdate_of rfl _ _ _ 93 rfl 3 3 intK Tryd.underlying93 rfl (hm1.of_block rfl) x.id rfl _ rfl ?_)
      intro wz hmz1 hgz
      have hmz2 := (hm2.drewN 1).grown hgz (by simp)
      have hbz := hb.drew.grown hgz (by simpa using hb.size) (fun j ej => by cases ej; exact Nat.le_refl _)
      have d0 := (hgz.cell_far ⟨w.heap.size + 2, 0, none⟩ (by simpa using hgl) (by simp)).trans g0
      have d1 := (hgz.cell_far ⟨w.heap.size + 2, 1, none⟩ (by simpa using hgl) (by simp)).trans g1
      have d2 := (hgz.cell_far ⟨w.heap.size + 2, 2, none⟩ (by simpa using hgl) (by simp)).trans g2
      have hgl2 : w.heap.size + 2 < wz.heap.size := Nat.lt_of_lt_of_le hgl hgz.size
      obtain ⟨_, _, he, _, f0, f1, f2, f3⟩ := k_at (HA.out.keeps hbz) HX.out
      cases he
      clear hgz hm1 hm2 g0 g1 g2 hgl c0 c1 c2 c3 hb
      go_wp2_with fail
      have hraw : ∀ p, World.cell? { heap := wz.heap, tape := wz.tape, drawn := wz.drawn + 1, os := wz.os, output := wz.output } p = wz.cell? p := fun _ => rfl
      go_still_tail 14, (by kernel_rfl)
      change wpList _ _ _ _ _ wz.drew
      clear hraw
      go_wp2_with (at_mapUpdate; refine wpList_mapUpdate_of rfl _ _ _ 50 rfl 9 3 mapK Tryd.underlying50 rfl (hmz2.of_block rfl) x.path rfl _ rfl ?_)
      intro wy hmy2 hgy
      have hmy1 := (hmz1.drewN 1).grown hgy (by simp)
      have hby := hbz.drew.grown hgy (by simpa using hbz.size) (fun j ej => by cases ej; omega)
      have g0 := (hgy.cell_far ⟨w.heap.size + 2, 0, none⟩ (by simpa using hgl2) (by simp)).trans d0
      have g1 := (hgy.cell_far ⟨w.heap.size + 2, 1, none⟩ (by simpa using hgl2) (by simp)).trans d1
      have g2 := (hgy.cell_far ⟨w.heap.size + 2, 2, none⟩ (by simpa using hgl2) (by simp)).trans d2
      have hgl : w.heap.size + 2 < wy.heap.size := Nat.lt_of_lt_of_le hgl2 hgy.size
      clear hgy hmz1 hmz2 d0 d1 d2 hgl2 f0 f1 f2 f3 hbz
      go_wp2_with fail
      go_roundw
      case rel =>
        refine ⟨n, by omega, rfl, ?_, ?_, g0, g1, g2, hgl, hby⟩
        · rw [Hst1.out]; exact hmy1.mono (by omega)
        · rw [Hst2.out]; exact hmy2.mono (by omega)
      case measure => simp [RowKit.intOf]
    · obtain rfl : k = 0 := by omega
      go_wp2_with fail
      go_ret
      exact ⟨_, rfl, ⟨hgl, a, cap, _, _, _, _, g0, g1, g2, HA.out.keeps hb, by simpa using hm1, by simpa using hm2⟩, hb⟩
end Go.Proofs.YtgjgeojhhglidaaDoor

namespace Go.Proofs.YtgjgeojhhglidaaDoor
open Go.RowKit Go.Lib


set_option maxRecDepth 100000 in
set_option maxHeartbeats 1600000 in
theorem get_any (g : Nat) (l : List KEnt) (id : Int) (w : World) (hs : SheetAt w g l) :
    Calls Tryd.prog 74 #[.pointer (some ⟨g, 0, none⟩), .int .i64 id] w fun e w' => e = .returned (.tuple #[((getK l id).getD noK).val, .bool (getK l id).isSome]) ∧ Below w.heap.size w w' := by
  have hb1 := (Below.refl w.heap.size w).alloc (Nat.le_refl _) (.cells #[.int .i64 0, .string ⟨#[]⟩, .bool false, .string ⟨#[]⟩] 90)
  obtain ⟨hg, a, cap, b1, n1, b2, n2, h0, h1, h2, hr, m1, m2⟩ := hs.keeps hb1
  obtain ⟨hgw, _⟩ := hs
  clear m2 h2
  have hl1 := m1.lookup_ok intK Tryd.underlying93 id (zeroInt _)
  clear m1
  unfold firstF at hl1
  have hne : g ≠ w.heap.size := by omega
  cases hf : l.findIdx? (fun x => decide (x.id = id)) with
  | none =>
    rw [hf] at hl1
    have Hr := Lib.hid (getK_none hf)
    have HR := Lib.hid hr
    clear hf hr
    simp only [Option.map_none, Option.getD_none, Option.isSome_none] at hl1
    go_enter Tryd.func74, Tryd.ntmps74
    go_wp2_with fail
    refine bodyPost_ret (v := .tuple #[.agg #[.int .i64 0, .string ⟨#[]⟩, .bool false, .string ⟨#[]⟩], .bool false]) (by simp [results, Tryd.results74, go_sem]) rfl ⟨by rw [Hr.out]; rfl, hb1⟩
  | some j =>
    rw [hf] at hl1
    obtain ⟨x, hx, hgx⟩ := getK_idx hf
    have Hr := Lib.hid hgx
    have hjl := (List.getElem?_eq_some_iff.1 hx).1
    obtain ⟨b, off, rfl, hbl, c0, c1, c2, c3⟩ := k_at hr hx
    obtain ⟨xi, xp, xd, xt⟩ := x
    dsimp only at c0 c1 c2 c3
    have HR := Lib.hid hr
    clear hf hr hx hgx
    simp only [Option.map_some, Option.getD_some, Option.isSome_some, Nat.zero_add] at hl1
    go_enter Tryd.func74, Tryd.ntmps74
    go_wp2_with fail
    refine bodyPost_ret (v := .tuple #[.agg #[.int .i64 xi, .string xp, .bool xd, .string xt], .bool true]) (by simp [results, Tryd.results74, go_sem]) rfl ⟨by rw [Hr.out]; rfl, ?_⟩
    go_grown

theorem keptK_def (a b : List KEnt) (id : Int) : keptK a b id = ((getK a id).isSome && (getK b id).isSome && (((getK a id).getD noK).dir == ((getK b id).getD noK).dir)) := by
  unfold keptK
  cases getK a id <;> cases getK b id <;> simp

set_option maxRecDepth 100000 in
set_option maxHeartbeats 1600000 in
theorem kept_any (g h : Nat) (l m : List KEnt) (id : Int) (w : World) (hs : SheetAt w g l) (ht : SheetAt w h m) :
    Calls Tryd.prog 58 #[.pointer (some ⟨g, 0, none⟩), .pointer (some ⟨h, 0, none⟩), .int .i64 id] w fun e w' => e = .returned (.bool (keptK l m id)) ∧ Below w.heap.size w w' := by
  have H1 := Lib.hid (get_any g l id w hs)
  have H2 := Lib.hid fun W (hb : Below w.heap.size w W) => get_any h m id W (ht.keeps hb)
  clear hs ht
  rw [keptK_def]
  generalize (getK l id).getD noK = x at *
  generalize (getK m id).getD noK = y at *
  generalize (getK l id).isSome = p at *
  generalize (getK m id).isSome = q at *
  obtain ⟨xi, xp, xd, xt⟩ := x
  obtain ⟨yi, yp, yd, yt⟩ := y
  unfold KEnt.val at H1 H2
  dsimp only at H1 H2 ⊢
  go_enter Tryd.func58, Tryd.ntmps58
  go_wp2_with fail
  refine H1.out.mono ?_
  rintro e w1 ⟨rfl, hb1⟩
  have hb1' := hb1.alloc hb1.size (.cells #[.int .i64 xi, .string xp, .bool xd, .string xt] 90)
  go_wp2_with fail
  refine (H2.out _ hb1').mono ?_
  rintro e w2 ⟨rfl, hb2⟩
  obtain ⟨f1, f2, f3⟩ := after_box hb2
  have hb3 := hb1'.trans (hb2.mono (by have := hb1.size; simp; omega))
  have hb4 := hb3.alloc hb3.size (.cells #[.int .i64 yi, .string yp, .bool yd, .string yt] 90)
  clear hb1 hb1' hb2 hb3
  cases p with
  | false =>
    go_wp2_with fail
    go_ret
    exact ⟨ret_bool (by simp), hb4⟩
  | true =>
    cases q with
    | false =>
      go_wp2_with fail
      go_ret
      exact ⟨ret_bool (by simp), hb4⟩
    | true =>
      go_wp2_with fail
      go_ret
      exact ⟨ret_bool (by simp), hb4⟩

theorem last_bounds (s : ByteArray) : -1 ≤ Lib.lastIndexByte s 47 ∧ Lib.lastIndexByte s 47 < s.size := by
  rcases Lib.lastIndexByte_spec s 47 with ⟨e, _⟩ | ⟨i, hi, e, _⟩
  · rw [e]; omega
  · rw [e]; omega
theorem split_none (p : ByteArray) : splitAtI p (-1) = (p.extract 0 (max (-1 : Int) 0).toNat, p) := by
  unfold splitAtI
  have : p.extract ((-1 : Int) + 1).toNat p.size = p := by
    refine ba_ext ?_
    rw [ByteArray.data_extract]
    simp
    exact List.take_of_length_le (by rw [size_eq]; exact Nat.le_refl _)
  rw [this]
theorem split_some (p : ByteArray) (n : Nat) : splitAtI p n = (p.extract 0 n, p.extract (n + 1) p.size) := by
  unfold splitAtI
  rw [show (max (n : Int) 0).toNat = n by omega, show ((n : Int) + 1).toNat = n + 1 by omega]
set_option maxRecDepth 100000 in
set_option maxHeartbeats 1600000 in
theorem split_any (p : ByteArray) (w : World) (hp : p.size ≤ 100000) :
    Calls Tryd.prog 59 #[.string p] w fun e w' => e = .returned (.tuple #[.string (splitK p).1, .string (splitK p).2]) ∧ Below w.heap.size w w' := by
  have HC := Lib.hid (Tryd.strings_LastIndexByte p 47 (by omega) w)
  unfold splitK
  have hr := last_bounds p
  generalize Lib.lastIndexByte p 47 = r at *
  obtain ⟨r1, r2⟩ := hr
  by_cases h : r = -1
  · subst h
    go_enter Tryd.func59, Tryd.ntmps59
    go_wp2_with fail
    refine HC.out.mono ?_
    rintro e w1 ⟨rfl, rfl⟩
    go_wp2_with fail
    go_quiet (fail)
    go_wp2_with fail
    refine bodyPost_ret (v := .tuple #[.string (p.extract 0 (max (-1 : Int) 0).toNat), .string p]) (by simp [results, Tryd.results59, go_sem]) rfl ⟨by rw [split_none], below_drewN (Below.refl _ _) _⟩
  · obtain ⟨n, rfl⟩ : ∃ n : Nat, r = n := ⟨r.toNat, by omega⟩
    have hm : max (n : Int) 0 = n := by omega
    have hn : n + 1 ≤ p.size := by omega
    have hn2 : (n : Int) + 1 ≤ p.size := by omega
    have hn3 : (n : Int) ≤ p.size := by omega
    clear r1 h
    go_enter Tryd.func59, Tryd.ntmps59
    go_wp2_with fail
    refine HC.out.mono ?_
    rintro e w1 ⟨rfl, rfl⟩
    go_wp2_with fail
    go_quiet (fail)
    go_wp2_with fail
    refine bodyPost_ret (v := .tuple #[.string (p.extract 0 n), .string (p.extract (n + 1) p.size)]) (by simp [results, Tryd.results59, go_sem]) rfl ⟨by rw [split_some], below_drewN (Below.refl _ _) _⟩

set_option maxRecDepth 100000 in
set_option maxHeartbeats 1600000 in
theorem seat_any (g : Nat) (l : List KEnt) (x : KEnt) (w : World) (hp : x.path.size ≤ 100000) (hs : SheetAt w g l) :
    Calls Tryd.prog 75 #[.pointer (some ⟨g, 0, none⟩), .agg #[.int .i64 x.id, .string x.path, .bool x.dir, .string x.data]] w fun e w' => e = .returned (.tuple #[.int .i64 (seatK l x).1, .string (seatK l x).2]) ∧ Below w.heap.size w w' := by
  have hb1 := (Below.refl w.heap.size w).alloc (Nat.le_refl _) (.cells #[.int .i64 x.id, .string x.path, .bool x.dir, .string x.data] 90)
  obtain ⟨xi, xp, xd, xt⟩ := x
  dsimp only at hp hb1 ⊢
  have HC := Lib.hid fun W => split_any xp W hp
  have hsk : seatK l ⟨xi, xp, xd, xt⟩ = if (splitK xp).1 = ⟨#[]⟩ then (0, (splitK xp).2) else (((idF l (splitK xp).1).getD (.int .i64 0) |> RowKit.intOf), (splitK xp).2) := by
    unfold seatK idF
    dsimp only
    split
    · rfl
    · cases l.find? fun y => decide (y.path = (splitK xp).1) <;> rfl
  have hid2 : ∃ n, (idF l (splitK xp).1).getD (.int .i64 0) = .int .i64 n := by
    unfold idF
    cases l.find? fun y => decide (y.path = (splitK xp).1) <;> exact ⟨_, rfl⟩
  generalize (splitK xp).1 = dir at *
  generalize (splitK xp).2 = nm at *
  obtain ⟨n, hn⟩ := hid2
  rw [hn] at hsk
  by_cases he : dir = ⟨#[]⟩
  · rw [if_pos he] at hsk
    have Hsk := Lib.hid hsk
    have e1 := str_eq he
    subst he
    clear hs hn hsk
    go_enter Tryd.func75, Tryd.ntmps75
    go_wp2_with fail
    refine (HC.out _).mono ?_
    rintro e w1 ⟨rfl, hb2⟩
    have hb3 := hb1.trans (hb2.mono (by simp))
    go_wp2_with fail
    refine bodyPost_ret (v := .tuple #[.int .i64 0, .string nm]) (by simp [results, Tryd.results75, go_sem]) rfl ⟨ret_pair (a := (0, nm)) Hsk.out.symm, hb3⟩
  · rw [if_neg he] at hsk
    have Hsk := Lib.hid hsk
    have e1 : dir.toList.isEmpty = false := empty_ne he
    have Hn := Lib.hid hn
    have HS := Lib.hid hs
    clear hs hn hsk he
    go_enter Tryd.func75, Tryd.ntmps75
    go_wp2_with fail
    refine (HC.out _).mono ?_
    rintro e w1 ⟨rfl, hb2⟩
    have hb3 := hb1.trans (hb2.mono (by simp))
    obtain ⟨hg, a, cap, b1, n1, b2, n2, h0, h1, h2, hr, m1, m2⟩ := HS.out.keeps hb3
    have hl1 := m2.lookup mapK Tryd.underlying50 dir (zeroInt _)
    rw [Hn.out] at hl1
    clear m1 m2 hr
    go_wp2_with fail
    refine bodyPost_ret (v := .tuple #[.int .i64 n, .string nm]) (by simp [results, Tryd.results75, go_sem]) rfl ⟨ret_pair (a := (n, nm)) Hsk.out.symm, hb3⟩
end Go.Proofs.YtgjgeojhhglidaaDoor

namespace Go.Proofs.YtgjgeojhhglidaaDoor
open Go.RowKit Go.Lib

theorem chInfo : (Tryd.prog.info? 65).map (fun i => (i.zero, i.size, i.bytes)) = some (some (.agg #[.int .i64 0, .int .i64 0, .string ⟨#[]⟩, .bool false, .string ⟨#[]⟩]), 5, 56) := by kernel_rfl
theorem chgs_def (old now : List KEnt) (x y : KEnt) (so sn : Int × ByteArray) (hk : keptK old now x.id = true) (hy : (getK old x.id).getD noK = y) (ho : seatK old y = so) (hn : seatK now x = sn) :
    chgsK old now x = (if so.1 ≠ sn.1 ∨ so.2 ≠ sn.2 then [⟨2, x.id, x.path, x.dir, ⟨#[]⟩⟩] else []) ++ (if !x.dir && decide (x.data ≠ y.data) then [⟨3, x.id, x.path, false, x.data⟩] else []) := by
  unfold chgsK
  rw [hk]
  subst hy ho hn
  simp

set_option maxRecDepth 100000 in
set_option maxHeartbeats 3200000 in
theorem changes_any (g h : Nat) (old now : List KEnt) (x : KEnt) (w : World) (hpx : x.path.size ≤ 100000) (hpo : ∀ y ∈ old, y.path.size ≤ 100000) (hs : SheetAt w g old) (ht : SheetAt w h now) :
    Calls Tryd.prog 57 #[.pointer (some ⟨g, 0, none⟩), .pointer (some ⟨h, 0, none⟩), .agg #[.int .i64 x.id, .string x.path, .bool x.dir, .string x.data]] w fun e w' => ∃ v, e = .returned v ∧ OwnRows chLay w' w.heap.size 65 v (chgsK old now x) ∧ Below w.heap.size w w' := by
  have HK := Lib.hid fun W (hb : Below w.heap.size w W) => kept_any g h old now x.id W (hs.keeps hb) (ht.keeps hb)
  have HG := Lib.hid fun W (hb : Below w.heap.size w W) => get_any g old x.id W (hs.keeps hb)
  have HX := Lib.hid fun W (hb : Below w.heap.size w W) => seat_any h now x W hpx (ht.keeps hb)
  have HY := Lib.hid fun y W (hy : y.path.size ≤ 100000) (hb : Below w.heap.size w W) => seat_any g old y W hy (hs.keeps hb)
  have hb1 := (Below.refl w.heap.size w).alloc (Nat.le_refl _) (.cells #[.int .i64 x.id, .string x.path, .bool x.dir, .string x.data] 90)
  have hpy : ((getK old x.id).getD noK).path.size ≤ 100000 := by
    cases hg : getK old x.id with
    | none => decide
    | some y => exact hpo y (List.mem_of_find?_eq_some hg)
  obtain ⟨i0, hi, hz0, hz1, hz2⟩ := info_parts chInfo
  have Hi := Lib.hid hi
  have Hz0 := Lib.hid hz0
  have Hz1 := Lib.hid hz1
  have Hz2 := Lib.hid hz2
  clear hi hz0 hz1 hz2 hs ht hpo
  cases hk : keptK old now x.id with
  | false =>
    have hst : chgsK old now x = [⟨1, x.id, x.path, x.dir, x.data⟩] := by unfold chgsK; rw [hk]; rfl
    have Hst := Lib.hid hst
    rw [hk] at HK
    obtain ⟨xi, xp, xd, xt⟩ := x
    dsimp only at HK hb1 Hst ⊢
    clear hk hst HG HX HY hpy
    go_enter Tryd.func57, Tryd.ntmps57
    go_wp2_with fail
    refine (HK.out _ hb1).mono ?_
    rintro e w1 ⟨rfl, hb2⟩
    obtain ⟨f1, f2, f3⟩ := after_box hb2
    have hb3 := hb1.trans (hb2.mono (by simp))
    have hl := OwnRows.lit w1 chLay w1.heap.size w.heap.size 65 #[.int .i64 1, .int .i64 xi, .string xp, .bool xd, .string xt] 1 [⟨1, xi, xp, xd, xt⟩] rfl hb3.size (by decide) rfl rfl
    have hb4 := hb3.alloc hb3.size (.cells #[.int .i64 1, .int .i64 xi, .string xp, .bool xd, .string xt] 65)
    go_wp2_with fail
    go_ret
    rw [Hst.out]
    exact ⟨_, rfl, hl, hb4⟩
  | true =>
    obtain ⟨y, hy⟩ : ∃ y, (getK old x.id).getD noK = y := ⟨_, rfl⟩
    rw [hy] at hpy
    have HY' := HY.out y
    obtain ⟨so, hso⟩ : ∃ so, seatK old y = so := ⟨_, rfl⟩
    obtain ⟨sn, hsn⟩ : ∃ sn, seatK now x = sn := ⟨_, rfl⟩
    have hst := chgs_def old now x y so sn hk hy hso hsn
    rw [hso] at HY'
    rw [hk] at HK
    rw [hy] at HG
    rw [hsn] at HX
    have HY := Lib.hid fun W hb => HY' W hpy hb
    have Hst := Lib.hid hst
    clear hk hst HY' hso hsn hy hpy
    generalize chgsK old now x = res at *
    generalize (getK old x.id).isSome = got at *
    obtain ⟨o1, o2⟩ := so
    obtain ⟨n1, n2⟩ := sn
    obtain ⟨xi, xp, xd, xt⟩ := x
    obtain ⟨yi, yp, yd, yt⟩ := y
    unfold KEnt.val at HG
    dsimp only at HK HG HX HY hb1 Hst ⊢
    go_enter Tryd.func57, Tryd.ntmps57
    go_wp2_with fail
    refine (HK.out _ hb1).mono ?_
    rintro e w1 ⟨rfl, hx1⟩
    obtain ⟨f1, f2, f3⟩ := after_box hx1
    have hb2 := hb1.trans (hx1.mono (by simp))
    go_wp2_with fail
    refine (HG.out _ hb2).mono ?_
    rintro e w2 ⟨rfl, hx2⟩
    have hb3 := hb2.trans (hx2.mono hb2.size)
    have hx3 := hx1.trans (hx2.mono hx1.size)
    clear f1 f2 f3 hx1 hx2 hb2
    obtain ⟨f1, f2, f3⟩ := after_box hx3
    have hb4 := hb3.alloc hb3.size (.cells #[.int .i64 yi, .string yp, .bool yd, .string yt] 90)
    go_wp2_with fail
    refine (HX.out _ hb4).mono ?_
    rintro e w3 ⟨rfl, hy1⟩
    obtain ⟨g1, g2, g3⟩ := after_box hy1
    have hb5 := hb4.trans (hy1.mono hb4.size)
    have hx4 := (hx3.alloc hx3.size (.cells #[.int .i64 yi, .string yp, .bool yd, .string yt] 90)).trans (hy1.mono (by have := hx3.size; simp at this ⊢; omega))
    clear f1 f2 f3
    obtain ⟨f1, f2, f3⟩ := after_box hx4
    go_wp2_with fail
    refine (HY.out _ hb5).mono ?_
    rintro e w4 ⟨rfl, hy2⟩
    have hy3 := hy1.trans (hy2.mono hy1.size)
    have hx5 := hx4.trans (hy2.mono hx4.size)
    have hb6 := hb5.trans (hy2.mono hb5.size)
    clear f1 f2 f3 g1 g2 g3 hy1 hy2 hx4 hb5 hb4 hx3 hb3
    obtain ⟨f1, f2, f3⟩ := after_box hx5
    obtain ⟨g1, g2, g3⟩ := after_box hy3
    have hn0 := OwnRows.nil chLay w4 w.heap.size 65
    by_cases h1 : o1 = n1
    · have e1 : (o1 != n1) = false := by rw [h1]; simp
      by_cases h2 : o2 = n2
      · have e3 := str_eq h2
        have Ht := Lib.hid (show ¬ (o1 ≠ n1 ∨ o2 ≠ n2) by rw [h1, h2]; simp)
        clear h1 h2
        cases xd with
        | true =>
          go_wp2_with fail
          go_ret
          rw [Hst.out]
          exact ⟨_, rfl, by simpa [Ht.out] using hn0, hb6⟩
        | false =>
          by_cases hd : xt = yt
          · have e2 := str_eq hd
            have Hd := Lib.hid hd
            clear hd
            go_wp2_with fail
            go_ret
            rw [Hst.out]
            exact ⟨_, rfl, by simpa [Ht.out, Hd.out] using hn0, hb6⟩
          · have e2 := str_ne hd
            have Hd := Lib.hid hd
            clear hd
            go_wp2_with (at_builtin; refine wpList_append_rows _ rfl _ _ 60 rfl chLay w.heap.size 65 i0 (.agg #[.int .i64 0, .int .i64 0, .string ⟨#[]⟩, .bool false, .string ⟨#[]⟩]) 56 Tryd.underlying60 Hi.out Hz0.out Hz1.out Hz2.out rfl (by decide) _ _ rfl (hn0.alloc _) ⟨w4.heap.size, 0, none⟩ 1 ⟨3, xi, xp, false, xt⟩ rfl (cells_new_at w4 w4.heap.size #[.int .i64 3, .int .i64 xi, .string xp, .bool false, .string xt] 65 rfl) (by simp [maxLen]) (by simp) (by have := hb6.size; simp; omega) ?_)
            intro vb w9 hob hg9 _
            have hb9 := (hb6.alloc hb6.size (.cells #[.int .i64 3, .int .i64 xi, .string xp, .bool false, .string xt] 65)).grown hg9 (by have := hb6.size; simp; omega) (fun j ej => (hn0.lt ej).1)
            clear hg9
            go_wp2_with fail
            go_ret
            rw [Hst.out]
            exact ⟨_, rfl, by simpa [Ht.out, Hd.out] using hob, hb9⟩
      · have e3 := str_ne h2
        have Ht := Lib.hid (show (o1 ≠ n1 ∨ o2 ≠ n2) from .inr h2)
        clear h1 h2
        go_wp2_with (at_builtin; refine wpList_append_rows _ rfl _ _ 60 rfl chLay w.heap.size 65 i0 (.agg #[.int .i64 0, .int .i64 0, .string ⟨#[]⟩, .bool false, .string ⟨#[]⟩]) 56 Tryd.underlying60 Hi.out Hz0.out Hz1.out Hz2.out rfl (by decide) _ _ rfl (hn0.alloc _) ⟨w4.heap.size, 0, none⟩ 1 ⟨2, xi, xp, xd, ⟨#[]⟩⟩ rfl (cells_new_at w4 w4.heap.size #[.int .i64 2, .int .i64 xi, .string xp, .bool xd, .string ⟨#[]⟩] 65 rfl) (by simp [maxLen]) (by simp) (by have := hb6.size; simp; omega) ?_)
        intro va w6 hoa hg6 _
        have hb7 := (hb6.alloc hb6.size (.cells #[.int .i64 2, .int .i64 xi, .string xp, .bool xd, .string ⟨#[]⟩] 65)).grown hg6 (by have := hb6.size; simp; omega) (fun j ej => (hn0.lt ej).1)
        have hx6 : Below (w.heap.size + 1) (w.alloc (.cells #[.int .i64 xi, .string xp, .bool xd, .string xt] 90)) w6 := ((hx5.alloc hx5.size (.cells #[.int .i64 2, .int .i64 xi, .string xp, .bool xd, .string ⟨#[]⟩] 65)).grown hg6 (by have := hx5.size; simp at this ⊢; omega) (fun j ej => by cases ej)).mono (by simp)
        have hy6 := ((hy3.alloc hy3.size (.cells #[.int .i64 2, .int .i64 xi, .string xp, .bool xd, .string ⟨#[]⟩] 65)).grown hg6 (by have := hy3.size; simp at this ⊢; omega) (fun j ej => by cases ej))
        clear f1 f2 f3 g1 g2 g3 hg6
        obtain ⟨f1, f2, f3⟩ := after_box (hx6.mono (by simp))
        obtain ⟨g1, g2, g3⟩ := after_box hy6
        cases xd with
        | true =>
          go_wp2_with fail
          go_ret
          rw [Hst.out]
          exact ⟨_, rfl, by simpa [Ht.out] using hoa, hb7⟩
        | false =>
          by_cases hd : xt = yt
          · have e2 := str_eq hd
            have Hd := Lib.hid hd
            clear hd
            go_wp2_with fail
            go_ret
            rw [Hst.out]
            exact ⟨_, rfl, by simpa [Ht.out, Hd.out] using hoa, hb7⟩
          · have e2 := str_ne hd
            have Hd := Lib.hid hd
            clear hd
            go_wp2_with (at_builtin; refine wpList_append_rows _ rfl _ _ 60 rfl chLay w.heap.size 65 i0 (.agg #[.int .i64 0, .int .i64 0, .string ⟨#[]⟩, .bool false, .string ⟨#[]⟩]) 56 Tryd.underlying60 Hi.out Hz0.out Hz1.out Hz2.out rfl (by decide) _ _ rfl (hoa.alloc _) ⟨w6.heap.size, 0, none⟩ 1 ⟨3, xi, xp, false, xt⟩ rfl (cells_new_at w6 w6.heap.size #[.int .i64 3, .int .i64 xi, .string xp, .bool false, .string xt] 65 rfl) (by simp [maxLen]) (by simp) (by have := hb7.size; simp; omega) ?_)
            intro vb w9 hob hg9 _
            have hb9 := (hb7.alloc hb7.size (.cells #[.int .i64 3, .int .i64 xi, .string xp, .bool false, .string xt] 65)).grown hg9 (by have := hb7.size; simp; omega) (fun j ej => (hoa.lt ej).1)
            clear hg9
            go_wp2_with fail
            go_ret
            rw [Hst.out]
            exact ⟨_, rfl, by simpa [Ht.out, Hd.out] using hob, hb9⟩
    · have e1 : (o1 != n1) = true := by rw [bne_iff_ne]; exact h1
      have Ht := Lib.hid (show (o1 ≠ n1 ∨ o2 ≠ n2) from .inl h1)
      clear h1
      go_wp2_with (at_builtin; refine wpList_append_rows _ rfl _ _ 60 rfl chLay w.heap.size 65 i0 (.agg #[.int .i64 0, .int .i64 0, .string ⟨#[]⟩, .bool false, .string ⟨#[]⟩]) 56 Tryd.underlying60 Hi.out Hz0.out Hz1.out Hz2.out rfl (by decide) _ _ rfl (hn0.alloc _) ⟨w4.heap.size, 0, none⟩ 1 ⟨2, xi, xp, xd, ⟨#[]⟩⟩ rfl (cells_new_at w4 w4.heap.size #[.int .i64 2, .int .i64 xi, .string xp, .bool xd, .string ⟨#[]⟩] 65 rfl) (by simp [maxLen]) (by simp) (by have := hb6.size; simp; omega) ?_)
      intro va w6 hoa hg6 _
      have hb7 := (hb6.alloc hb6.size (.cells #[.int .i64 2, .int .i64 xi, .string xp, .bool xd, .string ⟨#[]⟩] 65)).grown hg6 (by have := hb6.size; simp; omega) (fun j ej => (hn0.lt ej).1)
      have hx6 : Below (w.heap.size + 1) (w.alloc (.cells #[.int .i64 xi, .string xp, .bool xd, .string xt] 90)) w6 := ((hx5.alloc hx5.size (.cells #[.int .i64 2, .int .i64 xi, .string xp, .bool xd, .string ⟨#[]⟩] 65)).grown hg6 (by have := hx5.size; simp at this ⊢; omega) (fun j ej => by cases ej)).mono (by simp)
      have hy6 := ((hy3.alloc hy3.size (.cells #[.int .i64 2, .int .i64 xi, .string xp, .bool xd, .string ⟨#[]⟩] 65)).grown hg6 (by have := hy3.size; simp at this ⊢; omega) (fun j ej => by cases ej))
      clear f1 f2 f3 g1 g2 g3 hg6
      obtain ⟨f1, f2, f3⟩ := after_box (hx6.mono (by simp))
      obtain ⟨g1, g2, g3⟩ := after_box hy6
      cases xd with
      | true =>
        go_wp2_with fail
        go_ret
        rw [Hst.out]
        exact ⟨_, rfl, by simpa [Ht.out] using hoa, hb7⟩
      | false =>
        by_cases hd : xt = yt
        · have e2 := str_eq hd
          have Hd := Lib.hid hd
          clear hd
          go_wp2_with fail
          go_ret
          rw [Hst.out]
          exact ⟨_, rfl, by simpa [Ht.out, Hd.out] using hoa, hb7⟩
        · have e2 := str_ne hd
          have Hd := Lib.hid hd
          clear hd
          go_wp2_with (at_builtin; refine wpList_append_rows _ rfl _ _ 60 rfl chLay w.heap.size 65 i0 (.agg #[.int .i64 0, .int .i64 0, .string ⟨#[]⟩, .bool false, .string ⟨#[]⟩]) 56 Tryd.underlying60 Hi.out Hz0.out Hz1.out Hz2.out rfl (by decide) _ _ rfl (hoa.alloc _) ⟨w6.heap.size, 0, none⟩ 1 ⟨3, xi, xp, false, xt⟩ rfl (cells_new_at w6 w6.heap.size #[.int .i64 3, .int .i64 xi, .string xp, .bool false, .string xt] 65 rfl) (by simp [maxLen]) (by simp) (by have := hb7.size; simp; omega) ?_)
          intro vb w9 hob hg9 _
          have hb9 := (hb7.alloc hb7.size (.cells #[.int .i64 3, .int .i64 xi, .string xp, .bool false, .string xt] 65)).grown hg9 (by have := hb7.size; simp; omega) (fun j ej => (hoa.lt ej).1)
          clear hg9
          go_wp2_with fail
          go_ret
          rw [Hst.out]
          exact ⟨_, rfl, by simpa [Ht.out, Hd.out] using hob, hb9⟩
end Go.Proofs.YtgjgeojhhglidaaDoor

namespace Go.Proofs.YtgjgeojhhglidaaDoor
open Go.RowKit Go.Lib

theorem madeK_step {old now : List KEnt} {k : Nat} {x : KEnt} (h : now[k]? = some x) : madeK old now (k + 1) = if (now.findIdx? fun y => decide (y.id = x.id)) = some k then madeK old now k ++ chgsK old now x else madeK old now k := by simp only [madeK, h]
theorem diffK_step {old now : List KEnt} {k : Nat} {y : KEnt} (h : old[k]? = some y) : diffK old now (k + 1) = if dropB old now k y then diffK old now k ++ [⟨4, y.id, y.path, y.dir, ⟨#[]⟩⟩] else diffK old now k := by simp only [diffK, h]
theorem chgsK_length (old now : List KEnt) (x : KEnt) : (chgsK old now x).length ≤ 2 := by
  unfold chgsK
  split
  · simp
  · simp only [List.length_append]
    split <;> split <;> simp
theorem madeK_length (old now : List KEnt) : ∀ k, (madeK old now k).length ≤ 2 * k
  | 0 => Nat.le_refl _
  | k + 1 => by
    have := madeK_length old now k
    unfold madeK
    split
    · split
      · rename_i x _ _
        have := chgsK_length old now x
        simp only [List.length_append]; omega
      · omega
    · omega
theorem diffK_length (old now : List KEnt) : ∀ k, (diffK old now k).length ≤ 2 * now.length + k
  | 0 => madeK_length _ _ _
  | k + 1 => by
    have := diffK_length old now k
    unfold diffK
    split
    · split
      · simp only [List.length_append, List.length_cons, List.length_nil]; omega
      · omega
    · omega
theorem idx_some {l : List KEnt} {k : Nat} {x : KEnt} (h : l[k]? = some x) : ∃ j, (l.findIdx? fun y => decide (y.id = x.id)) = some j := by
  cases hf : l.findIdx? fun y => decide (y.id = x.id) with
  | some j => exact ⟨j, rfl⟩
  | none =>
    rw [List.findIdx?_eq_none_iff] at hf
    have := hf x (List.mem_of_getElem? h)
    simp at this
theorem firstF_at {l : List KEnt} {id : Int} {j : Nat} (h : (l.findIdx? fun y => decide (y.id = id)) = some j) : (firstF l 0 id).getD (.int .i64 0) = .int .i64 j := by
  unfold firstF; rw [h]; simp

set_option maxRecDepth 100000 in
set_option maxHeartbeats 3200000 in
theorem diff_any (a a' : Option Addr) (cap cap' : Nat) (old : List KEnt) (nowE : List Ent) (w : World) (hl : old.length ≤ 1000) (hl' : nowE.length ≤ 1000) (hpo : ∀ y ∈ old, y.path.size ≤ 100000) (hpn : ∀ y ∈ nowE, y.path.size ≤ 100000) (ha : RowsAt kLay w a old) (ha' : RowsAt entLay w a' nowE) :
    Calls Tryd.prog 37 #[.slice a old.length cap, .slice a' nowE.length cap'] w fun e w' => ∃ v, e = .returned v ∧ OwnRows chLay w' w.heap.size 65 v (scanK old nowE) ∧ Below w.heap.size w w' := by
  have HA := Lib.hid ha
  have HS := Lib.hid (sheet_any a cap old w hl ha)
  have HL := Lib.hid fun W (hb : Below w.heap.size w W) => learn_any a' cap' nowE W hl' (ha'.keeps hb)
  unfold scanK
  have hln : (nowE.map toK).length ≤ 1000 := by simpa using hl'
  have hpn' : ∀ y ∈ nowE.map toK, y.path.size ≤ 100000 := by
    intro y hy
    obtain ⟨z, hz, rfl⟩ := List.mem_map.1 hy
    exact hpn z hz
  generalize nowE.map toK = now at *
  have Hpn := Lib.hid hpn'
  have Hpo := Lib.hid hpo
  obtain ⟨i0, hi, hz0, hz1, hz2⟩ := info_parts chInfo
  have Hi := Lib.hid hi
  have Hz0 := Lib.hid hz0
  have Hz1 := Lib.hid hz1
  have Hz2 := Lib.hid hz2
  clear hi hz0 hz1 hz2 ha ha' hpn hpn' hpo hl'
  go_enter Tryd.func37, Tryd.ntmps37
  go_wp2_with fail
  refine HS.out.mono ?_
  rintro e w1 ⟨g, rfl, hsg, hb1⟩
  go_wp2_with fail
  refine (HL.out _ hb1).mono ?_
  rintro e w2 ⟨v0, rfl, hov, hb2⟩
  have hsg := hsg.keeps hb2
  have hb2 := hb1.trans (hb2.mono hb1.size)
  obtain ⟨a2, cap2, rfl, hr2, _⟩ := hov.read
  clear hov hb1
  go_wp2_with fail
  refine (sheet_any a2 cap2 now w2 hln hr2).mono ?_
  rintro e w3 ⟨h, rfl, hsh, hb3⟩
  have hsg := hsg.keeps hb3
  have hb3 := hb2.trans (hb3.mono hb2.size)
  clear hb2 hr2
  have HSG := Lib.hid hsg
  have HSH := Lib.hid hsh
  obtain ⟨hhl, ax, capx, b1, n1, b2, n2, h0, h1, h2, hrx, m1, m2⟩ := hsh
  have HRX := Lib.hid hrx
  clear hsg m1 m2 hrx h1 h2
  go_wp2_with fail
  clear h0
  go_loopw [7, 26] (fun va i wr => ∃ k : Nat, k ≤ now.length ∧ i = .int .i64 k ∧ OwnRows chLay wr w3.heap.size 65 va (madeK old now k) ∧ Below w3.heap.size w3 wr) (fun _ i _ => now.length - (RowKit.intOf i).toNat)
  case atStart => exact ⟨0, Nat.zero_le _, rfl, OwnRows.nil _ _ _ _, Below.refl _ _⟩
  case round =>
    obtain ⟨k, hk, rfl, hoa, hb⟩ := hrel
    by_cases hlt : k < now.length
    · obtain ⟨x, hx⟩ := at_some hlt
      obtain ⟨b, off, rfl, hbl, c0, c1, c2, c3⟩ := k_at (HRX.out.keeps hb) hx
      have hpx := Hpn.out x (List.mem_of_getElem? hx)
      have hst := madeK_step (old := old) hx
      obtain ⟨j, hj⟩ := idx_some hx
      rw [hj] at hst
      have hsl := madeK_length old now k
      have hcl := chgsK_length old now x
      have HC := Lib.hid fun W (hbw : Below w3.heap.size w3 W) => changes_any g h old now x W hpx Hpo.out (HSG.out.keeps hbw) (HSH.out.keeps hbw)
      have hfj := firstF_at hj
      obtain ⟨xi, xp, xd, xt⟩ := x
      dsimp only at c0 c1 c2 c3 hst HC hfj
      have hoa1 := hoa.alloc (.cells #[.int .i64 xi, .string xp, .bool xd, .string xt] 90)
      have hb1 := hb.alloc hb.size (.cells #[.int .i64 xi, .string xp, .bool xd, .string xt] 90)
      obtain ⟨hhl, ay, capy, b1, n1, b2, n2, h0, h1, h2, hry, m1, m2⟩ := HSH.out.keeps hb1
      have hl1 := fun n => (m1.drewN n).lookup intK Tryd.underlying93 xi (zeroInt _)
      simp only [hfj] at hl1
      clear hry m1 m2 h0 h2 hfj
      generalize madeK old now k = acts at *
      generalize chgsK old now ⟨xi, xp, xd, xt⟩ = more at *
      have Hst := Lib.hid hst
      clear hst hx hj
      have hb1s := hb1.size
      by_cases hjk : j = k
      · have e1 : ((j : Int) == (k : Int)) = true := by rw [hjk]; simp
        have Hjk := Lib.hid hjk
        clear hjk
        go_wp2_with fail
        go_quiet (fail)
        have hb2 := below_drewN hb1 nq
        have hoa2 := hoa1.drewN nq
        go_wp2_with fail
        refine (HC.out _ hb2).mono ?_
        rintro e w5 ⟨vm, rfl, hom, hbm⟩
        have hoa3 := hoa2.below hbm
        have hb3' := hb2.trans (hbm.mono hb2.size)
        have hs3 := hb3'.size
        clear hoa hoa1 hoa2 hbm hb2 hb1 hl1 h1 c0 c1 c2 c3
        go_wp2_with (at_builtin; refine wpList_append_all _ rfl _ _ 60 rfl chLay w3.heap.size 65 i0 (.agg #[.int .i64 0, .int .i64 0, .string ⟨#[]⟩, .bool false, .string ⟨#[]⟩]) 56 Tryd.underlying60 Hi.out Hz0.out Hz1.out Hz2.out rfl (by decide) _ _ rfl hoa3 _ _ _ rfl hom (by unfold maxLen; omega) (by omega) hs3 ?_)
        intro va w6 hoa4 hg4 _
        have hb4 := hb3'.grown hg4 hs3 (fun j ej => (hoa3.lt ej).1)
        clear hg4 hoa3 hb3'
        go_wp2_with fail
        go_roundw
        case rel =>
          refine ⟨k + 1, by omega, by go_num, ?_, hb4⟩
          rw [Hst.out]
          simpa [Hjk.out] using hoa4
        case measure => simp [RowKit.intOf]; omega
      · have e1 : ((j : Int) == (k : Int)) = false := by rw [beq_eq_false_iff_ne]; omega
        have Hjk := Lib.hid hjk
        clear hjk
        go_wp2_with fail
        go_quiet (fail)
        have hb2 := below_drewN hb1 nq
        have hoa2 := hoa1.drewN nq
        go_wp2_with fail
        go_roundw
        case rel =>
          refine ⟨k + 1, by omega, by go_num, ?_, hb2⟩
          rw [Hst.out]
          simpa [Hjk.out] using hoa2
        case measure => simp [RowKit.intOf]; omega
    · obtain rfl : k = now.length := by omega
      obtain ⟨wo, hwo⟩ : ∃ wo : World, wo = wr := ⟨_, rfl⟩
      subst hwo
      clear HRX HS HL
      go_wp2_with fail
      go_loopw [7, 49] (fun va i wr => ∃ k : Nat, k ≤ old.length ∧ i = .int .i64 k ∧ OwnRows chLay wr w3.heap.size 65 va (diffK old now k) ∧ Below w3.heap.size w3 wr) (fun _ i _ => old.length - (RowKit.intOf i).toNat)
      case atStart => exact ⟨0, Nat.zero_le _, rfl, hoa, hb⟩
      case round =>
        clear hoa hb
        obtain ⟨k, hk, rfl, hoa, hb⟩ := hrel
        by_cases hlt : k < old.length
        · obtain ⟨y, hy⟩ := at_some hlt
          obtain ⟨b, off, rfl, hbl, c0, c1, c2, c3⟩ := k_at (HA.out.keeps (hb3.trans (hb.mono hb3.size))) hy
          have hpy := Hpo.out y (List.mem_of_getElem? hy)
          have hst := diffK_step (now := now) hy
          obtain ⟨j, hj⟩ := idx_some hy
          have hsl := diffK_length old now k
          have HK := Lib.hid fun id W (hbw : Below w3.heap.size w3 W) => kept_any g h old now id W (HSG.out.keeps hbw) (HSH.out.keeps hbw)
          have hfj := firstF_at hj
          obtain ⟨yi, yp, yd, yt⟩ := y
          dsimp only at c0 c1 c2 c3 hst hfj hpy hj
          have HP := Lib.hid fun W => split_any yp W hpy
          have hoa1 := hoa.alloc (.cells #[.int .i64 yi, .string yp, .bool yd, .string yt] 90)
          have hb1 := hb.alloc hb.size (.cells #[.int .i64 yi, .string yp, .bool yd, .string yt] 90)
          obtain ⟨hgl, ay, capy, b1, n1, b2, n2, h0, h1, h2, hry, m1, m2⟩ := HSG.out.keeps hb1
          have hl1 := fun n => (m1.drewN n).lookup intK Tryd.underlying93 yi (zeroInt _)
          simp only [hfj] at hl1
          clear hry m2 h0 h2
          generalize diffK old now k = acts at *
          have hb1s := hb1.size
          have hdr : dropB old now k ⟨yi, yp, yd, yt⟩ = (decide (j = k) && !keptK old now yi && (decide ((splitK yp).1 = ⟨#[]⟩) || atK old now (splitK yp).1)) := by
            unfold dropB
            dsimp only
            rw [hj]
            simp
          rw [hdr] at hst
          have Hst := Lib.hid hst
          clear hst hy hj hdr hpy
          by_cases hjk : j = k
          · have e1 : ((j : Int) != (k : Int)) = false := by rw [hjk]; simp
            have Hjk := Lib.hid hjk
            clear hjk
            go_wp2_with fail
            have q0 : (wr.alloc (.cells #[.int .i64 yi, .string yp, .bool yd, .string yt] 90)).cell? ⟨wr.heap.size, 0, none⟩ = some (.int .i64 yi) := by simp
            have q1 : (wr.alloc (.cells #[.int .i64 yi, .string yp, .bool yd, .string yt] 90)).cell? ⟨wr.heap.size, 1, none⟩ = some (.string yp) := by simp
            have q2 : (wr.alloc (.cells #[.int .i64 yi, .string yp, .bool yd, .string yt] 90)).cell? ⟨wr.heap.size, 2, none⟩ = some (.bool yd) := by simp
            have hqs : wr.heap.size < (wr.alloc (.cells #[.int .i64 yi, .string yp, .bool yd, .string yt] 90)).heap.size := by simp
            clear hl1 hoa hb c0 c1 c2 c3
            generalize wr.alloc (.cells #[.int .i64 yi, .string yp, .bool yd, .string yt] 90) = wq at *
            have hl2 := (m1.of_block (w' := wq.drew) rfl).lookup intK Tryd.underlying93 yi (zeroInt _)
            rw [hfj] at hl2
            have hraw : ∀ p, World.cell? { heap := wq.heap, tape := wq.tape, drawn := wq.drawn + 1, os := wq.os, output := wq.output } p = wq.cell? p := fun _ => rfl
            clear hfj m1
            go_still_tail 14, (by kernel_rfl)
            change wpList _ _ _ _ _ wq.drew
            clear hraw hl2
            go_wp2_with fail
            have hb2 : Below w3.heap.size w3 wq.drew := hb1.drew
            refine (HK.out yi _ hb2).mono ?_
            generalize hkp : keptK old now yi = kp at *
            have Hkp := Lib.hid hkp
            clear hkp
            rintro e w5 ⟨rfl, hbm⟩
            have hb5 := hb2.trans (hbm.mono hb2.size)
            have hoa5 := (show OwnRows chLay wq.drew w3.heap.size 65 u7 acts from hoa1).below hbm
            have r0 : w5.cell? ⟨wr.heap.size, 0, none⟩ = some (.int .i64 yi) := (hbm.cell (p := ⟨wr.heap.size, 0, none⟩) hqs).trans q0
            have r1 : w5.cell? ⟨wr.heap.size, 1, none⟩ = some (.string yp) := (hbm.cell (p := ⟨wr.heap.size, 1, none⟩) hqs).trans q1
            have r2 : w5.cell? ⟨wr.heap.size, 2, none⟩ = some (.bool yd) := (hbm.cell (p := ⟨wr.heap.size, 2, none⟩) hqs).trans q2
            have hqs5 : wr.heap.size < w5.heap.size := Nat.lt_of_lt_of_le hqs hbm.size
            clear hbm hoa1 hb1 hb2 q0 q1 q2 hqs h1 hb1s
            cases kp with
            | true =>
              go_wp2_with fail
              go_roundw
              case rel =>
                refine ⟨k + 1, by omega, by go_num, ?_, hb5⟩
                rw [Hst.out]
                simpa [Hjk.out, Hkp.out] using hoa5
              case measure => simp [RowKit.intOf]; omega
            | false =>
              obtain ⟨dir, hdir⟩ : ∃ d, (splitK yp).1 = d := ⟨_, rfl⟩
              obtain ⟨nm, hnm⟩ : ∃ d, (splitK yp).2 = d := ⟨_, rfl⟩
              rw [hdir] at Hst
              rw [hdir, hnm] at HP
              have hat : atK old now dir = match old.find? fun x => decide (x.path = dir) with | some z => keptK old now z.id | none => true := rfl
              have hidd : idF old dir = (old.find? fun x => decide (x.path = dir)).map fun x => .int .i64 x.id := rfl
              clear hdir hnm
              go_wp2_with fail
              refine (HP.out _).mono ?_
              rintro e w6 ⟨rfl, hbm⟩
              have hb6 := hb5.trans (hbm.mono hb5.size)
              have hoa6 := hoa5.below hbm
              have s0 : w6.cell? ⟨wr.heap.size, 0, none⟩ = some (.int .i64 yi) := (hbm.cell (p := ⟨wr.heap.size, 0, none⟩) hqs5).trans r0
              have s1 : w6.cell? ⟨wr.heap.size, 1, none⟩ = some (.string yp) := (hbm.cell (p := ⟨wr.heap.size, 1, none⟩) hqs5).trans r1
              have s2 : w6.cell? ⟨wr.heap.size, 2, none⟩ = some (.bool yd) := (hbm.cell (p := ⟨wr.heap.size, 2, none⟩) hqs5).trans r2
              have hqs6 : wr.heap.size < w6.heap.size := Nat.lt_of_lt_of_le hqs5 hbm.size
              clear hbm hoa5 hb5 r0 r1 r2 hqs5 HP
              obtain ⟨_, az, capz, c1', m1', c2', m2', z0, z1, z2, hrz, mm1, mm2⟩ := HSG.out.keeps hb6
              have hl3 := mm2.lookup_ok mapK Tryd.underlying50 dir (zeroInt _)
              rw [hidd] at hl3
              clear mm1 mm2 hrz z0 z1 hidd
              cases hfd : old.find? (fun x => decide (x.path = dir)) with
              | none =>
                rw [hfd] at hl3 hat
                simp only [Option.map_none, Option.getD_none, Option.isSome_none] at hl3
                have Hat := Lib.hid hat
                clear hat hfd
                by_cases hd : dir = ⟨#[]⟩
                · have e3 := str_eq hd
                  subst hd
                  go_wp2_with (at_builtin; refine wpList_append_rows _ rfl _ _ 60 rfl chLay w3.heap.size 65 i0 (.agg #[.int .i64 0, .int .i64 0, .string ⟨#[]⟩, .bool false, .string ⟨#[]⟩]) 56 Tryd.underlying60 Hi.out Hz0.out Hz1.out Hz2.out rfl (by decide) _ _ rfl (hoa6.alloc _) ⟨w6.heap.size, 0, none⟩ 1 ⟨4, yi, yp, yd, ⟨#[]⟩⟩ rfl (cells_new_at w6 w6.heap.size #[.int .i64 4, .int .i64 yi, .string yp, .bool yd, .string ⟨#[]⟩] 65 rfl) (by unfold maxLen; omega) (by omega) (by have := hb6.size; simp; omega) ?_)
                  intro va w9 hoa9 hg9 _
                  have hb9 := (hb6.alloc hb6.size (.cells #[.int .i64 4, .int .i64 yi, .string yp, .bool yd, .string ⟨#[]⟩] 65)).grown hg9 (by have := hb6.size; simp; omega) (fun j ej => (hoa6.lt ej).1)
                  clear hg9
                  go_wp2_with fail
                  go_roundw
                  case rel =>
                    refine ⟨k + 1, by omega, by go_num, ?_, hb9⟩
                    rw [Hst.out]
                    simpa [Hjk.out, Hkp.out, Hat.out] using hoa9
                  case measure => simp [RowKit.intOf]; omega
                · have e3 : dir.toList.isEmpty = false := empty_ne hd
                  clear hd
                  go_wp2_with (at_builtin; refine wpList_append_rows _ rfl _ _ 60 rfl chLay w3.heap.size 65 i0 (.agg #[.int .i64 0, .int .i64 0, .string ⟨#[]⟩, .bool false, .string ⟨#[]⟩]) 56 Tryd.underlying60 Hi.out Hz0.out Hz1.out Hz2.out rfl (by decide) _ _ rfl (hoa6.alloc _) ⟨w6.heap.size, 0, none⟩ 1 ⟨4, yi, yp, yd, ⟨#[]⟩⟩ rfl (cells_new_at w6 w6.heap.size #[.int .i64 4, .int .i64 yi, .string yp, .bool yd, .string ⟨#[]⟩] 65 rfl) (by unfold maxLen; omega) (by omega) (by have := hb6.size; simp; omega) ?_)
                  intro va w9 hoa9 hg9 _
                  have hb9 := (hb6.alloc hb6.size (.cells #[.int .i64 4, .int .i64 yi, .string yp, .bool yd, .string ⟨#[]⟩] 65)).grown hg9 (by have := hb6.size; simp; omega) (fun j ej => (hoa6.lt ej).1)
                  clear hg9
                  go_wp2_with fail
                  go_roundw
                  case rel =>
                    refine ⟨k + 1, by omega, by go_num, ?_, hb9⟩
                    rw [Hst.out]
                    simpa [Hjk.out, Hkp.out, Hat.out] using hoa9
                  case measure => simp [RowKit.intOf]; omega
              | some z =>
                rw [hfd] at hl3 hat
                simp only [Option.map_some, Option.getD_some, Option.isSome_some] at hl3
                dsimp only at hat
                clear hfd
                by_cases hd : dir = ⟨#[]⟩
                · have e3 := str_eq hd
                  subst hd
                  clear hat
                  go_wp2_with (at_builtin; refine wpList_append_rows _ rfl _ _ 60 rfl chLay w3.heap.size 65 i0 (.agg #[.int .i64 0, .int .i64 0, .string ⟨#[]⟩, .bool false, .string ⟨#[]⟩]) 56 Tryd.underlying60 Hi.out Hz0.out Hz1.out Hz2.out rfl (by decide) _ _ rfl (hoa6.alloc _) ⟨w6.heap.size, 0, none⟩ 1 ⟨4, yi, yp, yd, ⟨#[]⟩⟩ rfl (cells_new_at w6 w6.heap.size #[.int .i64 4, .int .i64 yi, .string yp, .bool yd, .string ⟨#[]⟩] 65 rfl) (by unfold maxLen; omega) (by omega) (by have := hb6.size; simp; omega) ?_)
                  intro va w9 hoa9 hg9 _
                  have hb9 := (hb6.alloc hb6.size (.cells #[.int .i64 4, .int .i64 yi, .string yp, .bool yd, .string ⟨#[]⟩] 65)).grown hg9 (by have := hb6.size; simp; omega) (fun j ej => (hoa6.lt ej).1)
                  clear hg9
                  go_wp2_with fail
                  go_roundw
                  case rel =>
                    refine ⟨k + 1, by omega, by go_num, ?_, hb9⟩
                    rw [Hst.out]
                    simpa [Hjk.out, Hkp.out] using hoa9
                  case measure => simp [RowKit.intOf]; omega
                · have e3 : dir.toList.isEmpty = false := empty_ne hd
                  have Hat := Lib.hid hat
                  have Hd := Lib.hid hd
                  clear hd hat
                  have HK2 := HK.out z.id _ hb6
                  generalize keptK old now z.id = kz at *
                  go_wp2_with fail
                  refine HK2.mono ?_
                  rintro e w7 ⟨rfl, hbm⟩
                  have hb7 := hb6.trans (hbm.mono hb6.size)
                  have hoa7 := hoa6.below hbm
                  have t0 : w7.cell? ⟨wr.heap.size, 0, none⟩ = some (.int .i64 yi) := (hbm.cell (p := ⟨wr.heap.size, 0, none⟩) hqs6).trans s0
                  have t1 : w7.cell? ⟨wr.heap.size, 1, none⟩ = some (.string yp) := (hbm.cell (p := ⟨wr.heap.size, 1, none⟩) hqs6).trans s1
                  have t2 : w7.cell? ⟨wr.heap.size, 2, none⟩ = some (.bool yd) := (hbm.cell (p := ⟨wr.heap.size, 2, none⟩) hqs6).trans s2
                  clear hbm hoa6 hb6 s0 s1 s2 hqs6 hl3 z2
                  cases kz with
                  | false =>
                    go_wp2_with fail
                    go_roundw
                    case rel =>
                      refine ⟨k + 1, by omega, by go_num, ?_, hb7⟩
                      rw [Hst.out]
                      simpa [Hjk.out, Hkp.out, Hat.out, Hd.out] using hoa7
                    case measure => simp [RowKit.intOf]; omega
                  | true =>
                    go_wp2_with (at_builtin; refine wpList_append_rows _ rfl _ _ 60 rfl chLay w3.heap.size 65 i0 (.agg #[.int .i64 0, .int .i64 0, .string ⟨#[]⟩, .bool false, .string ⟨#[]⟩]) 56 Tryd.underlying60 Hi.out Hz0.out Hz1.out Hz2.out rfl (by decide) _ _ rfl (hoa7.alloc _) ⟨w7.heap.size, 0, none⟩ 1 ⟨4, yi, yp, yd, ⟨#[]⟩⟩ rfl (cells_new_at w7 w7.heap.size #[.int .i64 4, .int .i64 yi, .string yp, .bool yd, .string ⟨#[]⟩] 65 rfl) (by unfold maxLen; omega) (by omega) (by have := hb7.size; simp; omega) ?_)
                    intro va w9 hoa9 hg9 _
                    have hb9 := (hb7.alloc hb7.size (.cells #[.int .i64 4, .int .i64 yi, .string yp, .bool yd, .string ⟨#[]⟩] 65)).grown hg9 (by have := hb7.size; simp; omega) (fun j ej => (hoa7.lt ej).1)
                    clear hg9
                    go_wp2_with fail
                    go_roundw
                    case rel =>
                      refine ⟨k + 1, by omega, by go_num, ?_, hb9⟩
                      rw [Hst.out]
                      simpa [Hjk.out, Hkp.out, Hat.out] using hoa9
                    case measure => simp [RowKit.intOf]; omega
          · have e1 : ((j : Int) != (k : Int)) = true := by rw [bne_iff_ne]; omega
            have Hjk := Lib.hid hjk
            clear hjk hfj m1
            go_wp2_with fail
            go_quiet (fail)
            have hb2 := below_drewN hb1 nq
            have hoa2 := hoa1.drewN nq
            go_wp2_with fail
            go_roundw
            case rel =>
              refine ⟨k + 1, by omega, by go_num, ?_, hb2⟩
              rw [Hst.out]
              simpa [Hjk.out] using hoa2
            case measure => simp [RowKit.intOf]; omega
        · obtain rfl : k = old.length := by omega
          go_wp2_with fail
          go_ret
          exact ⟨_, rfl, hoa.lower hb3.size, hb3.trans (hb.mono hb3.size)⟩
end Go.Proofs.YtgjgeojhhglidaaDoor

namespace Go.Proofs.YtgjgeojhhglidaaDoor
open Go.RowKit Go.Lib

def wakeK : List KEnt := [⟨1, ⟨#[100]⟩, true, ⟨#[]⟩⟩, ⟨2, ⟨#[100, 47, 97]⟩, false, ⟨#[]⟩⟩]
def wakeA : List Ent := [⟨⟨#[101]⟩, 1, true, ⟨#[]⟩⟩, ⟨⟨#[101, 47, 97]⟩, 2, false, ⟨#[]⟩⟩]
def wakeB : List Ent := [⟨⟨#[100]⟩, 1, true, ⟨#[]⟩⟩]
theorem one_of {l : List Chg} {k i : Int} (h : l.map (fun c => (c.kind, c.id)) = [(k, i)]) : ∃ p d t, l = [⟨k, i, p, d, t⟩] := by
  match l, h with
  | [⟨k', i', p, d, t⟩], h =>
    simp only [List.map_cons, List.map_nil, List.cons.injEq, Prod.mk.injEq, and_true] at h
    obtain ⟨rfl, rfl⟩ := h
    exact ⟨p, d, t, rfl⟩
theorem wake_a : (scanK wakeK wakeA).map (fun c => (c.kind, c.id)) = [(2, 1)] := by decide +kernel
theorem wake_b : (scanK wakeK wakeB).map (fun c => (c.kind, c.id)) = [(4, 2)] := by decide +kernel
theorem wake_c : (scanK wakeK []).map (fun c => (c.kind, c.id)) = [(4, 1)] := by decide +kernel

set_option maxRecDepth 100000 in
set_option maxHeartbeats 1600000 in
theorem awake20_any (w : World) : Calls Tryd.prog 35 #[] w fun e w' => e = .returned (.bool true) ∧ Below w.heap.size w w' := by
  obtain ⟨pa, da, ta, ha⟩ := one_of wake_a
  obtain ⟨pb, db, tb, hb⟩ := one_of wake_b
  obtain ⟨pc, dc, tc, hc⟩ := one_of wake_c
  have HA := Lib.hid ha
  have HB := Lib.hid hb
  have HC := Lib.hid hc
  clear ha hb hc
  go_enter Tryd.func35, Tryd.ntmps35
  go_wp2_with fail
  have hb0 := (Below.refl w.heap.size w).alloc (Nat.le_refl _) (.cells #[.int .i64 1, .string ⟨#[100]⟩, .bool true, .string ⟨#[]⟩, .int .i64 2, .string ⟨#[100, 47, 97]⟩, .bool false, .string ⟨#[]⟩] 90)
  have hr0 := rows_new kLay w _ #[.int .i64 1, .string ⟨#[100]⟩, .bool true, .string ⟨#[]⟩, .int .i64 2, .string ⟨#[100, 47, 97]⟩, .bool false, .string ⟨#[]⟩] 90 wakeK rfl rfl
  generalize hw1 : w.alloc (.cells #[.int .i64 1, .string ⟨#[100]⟩, .bool true, .string ⟨#[]⟩, .int .i64 2, .string ⟨#[100, 47, 97]⟩, .bool false, .string ⟨#[]⟩] 90) = w1 at *
  have hs1 : w.heap.size + 1 = w1.heap.size := by rw [← hw1]; simp
  rw [hs1]
  have hb1 := hb0.alloc (by omega) (.cells #[.string ⟨#[101]⟩, .int .i64 1, .bool true, .string ⟨#[]⟩, .string ⟨#[101, 47, 97]⟩, .int .i64 2, .bool false, .string ⟨#[]⟩] 38)
  have hr1 := rows_new entLay w1 _ #[.string ⟨#[101]⟩, .int .i64 1, .bool true, .string ⟨#[]⟩, .string ⟨#[101, 47, 97]⟩, .int .i64 2, .bool false, .string ⟨#[]⟩] 38 wakeA rfl rfl
  have hk1 := hr0.keeps ((Below.refl _ w1).alloc (Nat.le_refl _) (.cells #[.string ⟨#[101]⟩, .int .i64 1, .bool true, .string ⟨#[]⟩, .string ⟨#[101, 47, 97]⟩, .int .i64 2, .bool false, .string ⟨#[]⟩] 38))
  clear hw1 hs1 hr0 hb0
  generalize w1.alloc (.cells #[.string ⟨#[101]⟩, .int .i64 1, .bool true, .string ⟨#[]⟩, .string ⟨#[101, 47, 97]⟩, .int .i64 2, .bool false, .string ⟨#[]⟩] 38) = w2 at *
  refine (diff_any _ _ 2 2 wakeK wakeA w2 (by decide) (by decide) (by decide) (by decide) hk1 hr1).mono ?_
  rintro e w3 ⟨va, rfl, hoa, hb2⟩
  rw [HA.out] at hoa
  obtain ⟨aa, capa, rfl, hra, _⟩ := hoa.read
  have hb3 := hb1.trans (hb2.mono hb1.size)
  have hk3 := hk1.keeps hb2
  clear hoa hb1 hb2 hk1 hr1
  dsimp only [List.length_cons, List.length_nil]
  go_wp2_with fail
  have hb4 := hb3.alloc hb3.size (.cells #[.string ⟨#[100]⟩, .int .i64 1, .bool true, .string ⟨#[]⟩] 38)
  have hr4 := rows_new entLay w3 _ #[.string ⟨#[100]⟩, .int .i64 1, .bool true, .string ⟨#[]⟩] 38 wakeB rfl rfl
  have hk4 := hk3.keeps ((Below.refl _ w3).alloc (Nat.le_refl _) (.cells #[.string ⟨#[100]⟩, .int .i64 1, .bool true, .string ⟨#[]⟩] 38))
  have hra4 := hra.keeps ((Below.refl _ w3).alloc (Nat.le_refl _) (.cells #[.string ⟨#[100]⟩, .int .i64 1, .bool true, .string ⟨#[]⟩] 38))
  clear hb3 hk3 hra
  generalize w3.alloc (.cells #[.string ⟨#[100]⟩, .int .i64 1, .bool true, .string ⟨#[]⟩] 38) = w4 at *
  refine (diff_any _ _ 2 1 wakeK wakeB w4 (by decide) (by decide) (by decide) (by decide) hk4 hr4).mono ?_
  rintro e w5 ⟨vb, rfl, hob, hb5⟩
  rw [HB.out] at hob
  obtain ⟨ab, capb, rfl, hrb, _⟩ := hob.read
  have hb6 := hb4.trans (hb5.mono hb4.size)
  have hk6 := hk4.keeps hb5
  have hra6 := hra4.keeps hb5
  clear hob hb4 hb5 hk4 hr4 hra4
  dsimp only [List.length_cons, List.length_nil]
  go_wp2_with fail
  refine (diff_any _ _ 2 0 wakeK [] w5 (by decide) (by decide) (by decide) (by decide) hk6 (RowsAt.nil _ _ _)).mono ?_
  rintro e w7 ⟨vc, rfl, hoc, hb7⟩
  rw [HC.out] at hoc
  obtain ⟨ac, capc, rfl, hrc, _⟩ := hoc.read
  have hb8 := hb6.trans (hb7.mono hb6.size)
  have hra8 := hra6.keeps hb7
  have hrb8 := hrb.keeps hb7
  clear hoc hb6 hb7 hk6 hra6 hrb
  obtain ⟨_, _, rfl, _, a0, a1, _⟩ := ch_at (k := 0) hra8 rfl
  obtain ⟨_, _, rfl, _, b0, b1, _⟩ := ch_at (k := 0) hrb8 rfl
  obtain ⟨_, _, rfl, _, c0, c1, _⟩ := ch_at (k := 0) hrc rfl
  simp only [Nat.zero_mul, Nat.add_zero] at a0 a1 b0 b1 c0 c1
  dsimp only [List.length_cons, List.length_nil]
  go_wp2_with fail
  go_ret
  exact ⟨rfl, hb8⟩

end Go.Proofs.YtgjgeojhhglidaaDoor

