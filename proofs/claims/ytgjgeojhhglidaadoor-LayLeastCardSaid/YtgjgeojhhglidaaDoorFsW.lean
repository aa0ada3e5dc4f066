/-
  A file system in memory; New, Get. put, Mkdir, Write. Mkdir, Write. below: the paths of an entry and of all in it. Remove. List: all entries, by their paths. List, walked. Rename: entry by entry. Rename.
-/
import Derived.Test.YtgjgeojhhglidaaDoorFsP
import Derived.Test.YtgjgeojhhglidaaDoorPut
import Derived.Test.YtgjgeojhhglidaaDoorShelf
import Derived.Test.YtgjgeojhhglidaaDoorKeys
import Derived.StillTailTactics
import Derived.Test.YtgjgeojhhglidaaDoorGlp1
import Derived.Deep.RegionHeld3
import Derived.Test.YtgjgeojhhglidaaDoorAppends
import Derived.Maps.RangeWalk
import Derived.Sort.KeysCollected
import Derived.Sort.OwnSorted
import Derived.Shelf.SlIter.Keys
import Derived.Shelf.SlIter.Sorted
import Derived.Shelf.SlMaps.Clone
namespace Go.Proofs.YtgjgeojhhglidaaDoor
open Go Go.RowKit Go.Lib

/-- A file system lies in block fb, its entries in the map of block mb. -/
def FAt (w : World) (fb mb : Nat) (f : Fs) : Prop := VarAt w fb [.int .i64 f.n, .map (some mb)] ∧ MapE Tryd.prog 9 w mb f.es
theorem FAt.keeps {w w' : World} {fb mb B : Nat} {f : Fs} (h : FAt w fb mb f) (hb : Below B w w') (h1 : fb < B) (h2 : mb < B) : FAt w' fb mb f := ⟨h.1.keeps hb h1, h.2.keeps hb h2⟩
theorem FAt.turned {S : Nat → Prop} {w w' : World} {fb mb : Nat} {f : Fs} (h : FAt w fb mb f) (ht : Turned S w.heap.size w w') (h1 : ¬ S fb) (h2 : ¬ S mb) : FAt w' fb mb f :=
  ⟨h.1.same (ht.block fb h.1.1 h1) ht.size, h.2.same (ht.block mb h.2.lt h2)⟩
theorem FAt.ne {w : World} {fb mb : Nat} {f : Fs} (h : FAt w fb mb f) : fb ≠ mb := by
  rintro rfl
  obtain ⟨es, clock, hb, _⟩ := h.2
  have := h.1.2.2 0 _ rfl
  simp [World.cell?, hb] at this
theorem zeroEnt (w : World) : (zeroValue 38).run Tryd.prog w = .ok noEnt.val w := by kernel_rfl
theorem keyL : Go.Maps.Keyed Tryd.prog 9 := Go.Maps.string_keyed Tryd.underlying9
theorem keyS {p : ByteArray} (h : p.size ≤ maxLen) : keyOf Tryd.prog 9 (.string p) = some (.string p.data.toList) := Go.WideMaps.keyOf_string_mk Tryd.underlying9 h
theorem look_val {es : List Ent} {p : ByteArray} {v : Value} {ps : List MemPlace} (h : rowE v = some ((datE es).atKey (.string p.data.toList) (encEnt noEnt), ps)) : v = ((findE es p).getD noEnt).val := by
  rw [dat_at] at h
  obtain ⟨x, rfl, e⟩ := rowE_inv h
  have e1 := (Prod.mk.inj e).1
  cases hf : findE es p with
  | none =>
    rw [hf] at e1
    have : noEnt = x := encEnt_inj e1
    rw [← this]
    rfl
  | some y =>
    rw [hf] at e1
    have : y = x := encEnt_inj e1
    rw [← this]
    rfl
theorem MapE.look {w : World} {mb : Nat} {es : List Ent} (h : MapE Tryd.prog 9 w mb es) {p : ByteArray} (hp : p.size ≤ maxLen) :
    (Instr.lookup 68 (.map (some mb)) (.string p) true).run Tryd.prog w = .ok (.tuple #[((findE es p).getD noEnt).val, .bool (findE es p).isSome]) w := by
  obtain ⟨v, ps, h1, h2⟩ := World.ownsMap.look_ok h keyL Tryd.underlying68 (zeroEnt w) (rowE_val noEnt) (keyS hp)
  rw [h1, look_val h2, dat_has]
theorem MapE.look1 {w : World} {mb : Nat} {es : List Ent} (h : MapE Tryd.prog 9 w mb es) {p : ByteArray} (hp : p.size ≤ maxLen) :
    (Instr.lookup 68 (.map (some mb)) (.string p) false).run Tryd.prog w = .ok ((findE es p).getD noEnt).val w := by
  obtain ⟨v, ps, h1, h2⟩ := World.ownsMap.lookup h keyL Tryd.underlying68 (zeroEnt w) (rowE_val noEnt) (keyS hp)
  rw [h1, look_val h2]
theorem getF_some {f : Fs} {p : ByteArray} {x : Ent} (h : findE f.es p = some x) : getF f p = (x, 0) := by unfold getF; rw [h]
theorem getF_none {f : Fs} {p : ByteArray} (h : findE f.es p = none) : getF f p = (noEnt, 25) := by unfold getF; rw [h]

set_option maxRecDepth 100000 in
set_option maxHeartbeats 1600000 in
/-- **Get.** -/
theorem fget_any (fb mb : Nat) (f : Fs) (p : ByteArray) (w : World) (h : FAt w fb mb f) (hp : p.size ≤ maxLen) :
    Calls Tryd.prog 21 #[.pointer (some ⟨fb, 0, none⟩), .string p] w fun e w' => e = .returned (.tuple #[(getF f p).1.val, .int .i64 (getF f p).2]) ∧ Below w.heap.size w w' := by
  have hal := (Below.refl w.heap.size w).alloc (Nat.le_refl _) (.cells #[.string ⟨#[]⟩, .int .i64 0, .bool false, .string ⟨#[]⟩] 38)
  have h1 := h.keeps hal h.1.1 h.2.lt
  have hl := h1.2.look hp
  have c1 := h1.1.2.2 1 _ rfl
  have hV := VarAt.new w #[.string ⟨#[]⟩, .int .i64 0, .bool false, .string ⟨#[]⟩] 38
  obtain ⟨bs, hbs⟩ : ∃ bs, bs = w.heap.size := ⟨_, rfl⟩
  rw [← hbs] at hV
  have Hbs := Lib.hid hbs
  clear hbs
  cases hf : findE f.es p with
  | none =>
    rw [hf] at hl
    rw [getF_none hf]
    rw [show ((none : Option Ent).getD noEnt).val = .agg #[.string ⟨#[]⟩, .int .i64 0, .bool false, .string ⟨#[]⟩] from rfl, show (none : Option Ent).isSome = false from rfl] at hl
    show Calls _ _ _ _ fun e w' => e = .returned (.tuple #[.agg #[.string ⟨#[]⟩, .int .i64 0, .bool false, .string ⟨#[]⟩], .int .i64 25]) ∧ _
    clear h h1 hf
    go_enter Tryd.func21, Tryd.ntmps21
    go_wp2_with fail
    refine bodyPost_ret (v := .tuple #[.agg #[.string ⟨#[]⟩, .int .i64 0, .bool false, .string ⟨#[]⟩], .int .i64 25]) (by simp [results, Tryd.results21, go_sem]) rfl ⟨rfl, ?_⟩
    exact hal.alloc (by simp) _
  | some x =>
    obtain ⟨xp, xi, xd, xs⟩ := x
    rw [hf] at hl
    rw [getF_some hf]
    rw [show ((some (⟨xp, xi, xd, xs⟩ : Ent)).getD noEnt).val = .agg #[.string xp, .int .i64 xi, .bool xd, .string xs] from rfl, show (some (⟨xp, xi, xd, xs⟩ : Ent)).isSome = true from rfl] at hl
    show Calls _ _ _ _ fun e w' => e = .returned (.tuple #[.agg #[.string xp, .int .i64 xi, .bool xd, .string xs], .int .i64 0]) ∧ _
    clear h h1 hf
    go_enter Tryd.func21, Tryd.ntmps21
    go_wp2_with fail
    refine bodyPost_ret (v := .tuple #[.agg #[.string xp, .int .i64 xi, .bool xd, .string xs], .int .i64 0]) (by simp [results, Tryd.results21, go_sem]) rfl ⟨rfl, ?_⟩
    exact ((Below.refl w.heap.size w).alloc (Nat.le_refl _) _).alloc (by simp) _
set_option maxRecDepth 100000 in
set_option maxHeartbeats 1600000 in
/-- Get of no file system. -/
theorem fget_nil (p : ByteArray) (w : World) :
    Calls Tryd.prog 21 #[.pointer none, .string p] w fun e w' => e = .returned (.tuple #[noEnt.val, .int .i64 2]) ∧ Below w.heap.size w w' := by
  go_enter Tryd.func21, Tryd.ntmps21
  go_wp2_with fail
  refine bodyPost_ret (v := .tuple #[.agg #[.string ⟨#[]⟩, .int .i64 0, .bool false, .string ⟨#[]⟩], .int .i64 2]) (by simp [results, Tryd.results21, go_sem]) rfl ⟨rfl, ?_⟩
  exact (Below.refl w.heap.size w).alloc (Nat.le_refl _) _
set_option maxRecDepth 100000 in
set_option maxHeartbeats 1600000 in
/-- **New.** -/
theorem fnew_any (w : World) :
    Calls Tryd.prog 13 #[] w fun e w' => e = .returned (.pointer (some ⟨w.heap.size + 1, 0, none⟩)) ∧ FAt w' (w.heap.size + 1) w.heap.size ⟨0, []⟩ ∧ Below w.heap.size w w' ∧ w'.heap.size = w.heap.size + 2 := by
  have hmm := @run_makeMap Tryd.prog
  have hM : MapE Tryd.prog 9 (w.alloc (.map #[] 0)) w.heap.size [] := MapE.made w
  have hB := ((Below.refl w.heap.size w).alloc (Nat.le_refl _) (.map #[] 0)).alloc (by simp) (.cells #[.int .i64 0, .map (some w.heap.size)] 70)
  have hV := VarAt.new (w.alloc (.map #[] 0)) #[.int .i64 0, .map (some w.heap.size)] 70
  have hM2 := hM.keeps ((Below.refl (w.alloc (.map #[] 0)).heap.size (w.alloc (.map #[] 0))).alloc (Nat.le_refl _) (.cells #[.int .i64 0, .map (some w.heap.size)] 70)) hM.lt
  rw [World.size_alloc] at hV
  have H := Lib.hid (show FAt ((w.alloc (.map #[] 0)).alloc (.cells #[.int .i64 0, .map (some w.heap.size)] 70)) (w.heap.size + 1) w.heap.size ⟨0, []⟩ from ⟨hV, hM2⟩)
  clear hV hM2 hM
  go_enter Tryd.func13, Tryd.ntmps13
  go_wp2_with fail
  go_ret
  exact ⟨rfl, H.out, hB, by simp⟩
theorem fieldDir (p s : ByteArray) (i : Int) (d : Bool) (W : World) : (Instr.field 38 (.agg #[.string p, .int .i64 i, .bool d, .string s]) 2).run Tryd.prog W = .ok (.bool d) W := by kernel_rfl
theorem stands_neg {es : List Ent} {p : ByteArray} (h : slashI p < 0) : standsE es p = true := by
  unfold standsE
  rw [decide_eq_true h]
  rfl
theorem stands_pos {es : List Ent} {p : ByteArray} {k : Nat} (h : slashI p = k) : standsE es p = ((findE es (p.extract 0 k)).getD noEnt).dir := by
  unfold standsE isDirE
  rw [decide_eq_false (by omega), h, Int.toNat_natCast]
  cases findE es (p.extract 0 k) <;> rfl
set_option maxRecDepth 100000 in
set_option maxHeartbeats 1600000 in
/-- **stands.** -/
theorem fstands_any (fb mb : Nat) (f : Fs) (p : ByteArray) (w : World) (h : FAt w fb mb f) (hp : p.size ≤ 100000) :
    Calls Tryd.prog 48 #[.pointer (some ⟨fb, 0, none⟩), .string p] w fun e w' => e = .returned (.bool (standsE f.es p)) ∧ ∃ n, w' = w.drewN n := by
  have HI := Lib.hid fun W => (Tryd.strings_LastIndexByte p 47 (by omega) W).mono fun _ _ h => (⟨h.1, h.2.symm⟩ : _ ∧ W = _)
  have hlast : Lib.lastIndexByte p 47 < p.size := by
    rcases lastIndexByte_spec p 47 with ⟨e, _⟩ | ⟨i, hi, e, _⟩ <;> omega
  have hsl : slashI p = Lib.lastIndexByte p 47 := rfl
  have c1 := h.1.2.2 1 _ rfl
  by_cases hn : slashI p < 0
  · have Hr := Lib.hid (stands_neg (es := f.es) hn)
    rw [hsl] at hn
    clear hsl
    generalize Lib.lastIndexByte p 47 = i at *
    go_enter Tryd.func48, Tryd.ntmps48
    go_wp2_with fail
    refine (HI.out _).mono ?_
    rintro e w1 ⟨rfl, rfl⟩
    go_wp2_with fail
    go_quiet (fail)
    go_wp2_with fail
    go_ret
    exact ⟨ret_bool Hr.out.symm, nq, rfl⟩
  · obtain ⟨k, hk⟩ : ∃ k : Nat, slashI p = k := ⟨(slashI p).toNat, by omega⟩
    have Hr := Lib.hid (stands_pos (es := f.es) hk)
    rw [hsl] at hk
    rw [hk] at HI hlast
    have hkp : k < p.size := by omega
    have hk0 : (0 : Int) ≤ (k : Int) := by omega
    have hk1 : (k : Int) ≤ (p.size : Int) := by omega
    have hz : (p.extract 0 k).size ≤ maxLen := by
      rw [ByteArray.size_extract]
      unfold maxLen
      omega
    have hL : ∀ n, (Instr.lookup 68 (.map (some mb)) (.string (p.extract 0 k)) false).run Tryd.prog (w.drewN n) = .ok ((findE f.es (p.extract 0 k)).getD noEnt).val (w.drewN n) := fun n => (MapE.same h.2 (w' := w.drewN n) rfl).look1 hz
    generalize (findE f.es (p.extract 0 k)).getD noEnt = x at *
    obtain ⟨xp, xi, xd, xs⟩ := x
    have hF := fieldDir xp xs xi xd
    rw [show Ent.val ⟨xp, xi, xd, xs⟩ = .agg #[.string xp, .int .i64 xi, .bool xd, .string xs] from rfl] at hL
    clear hk hsl hn hz hlast
    go_enter Tryd.func48, Tryd.ntmps48
    go_wp2_with fail
    refine (HI.out _).mono ?_
    rintro e w1 ⟨rfl, rfl⟩
    go_wp2_with fail
    go_quiet (fail)
    go_wp2_with fail
    go_ret
    exact ⟨ret_bool Hr.out.symm, nq, rfl⟩
end Go.Proofs.YtgjgeojhhglidaaDoor

namespace Go.Proofs.YtgjgeojhhglidaaDoor
open Go Go.RowKit Go.Lib

section
variable {P : Program}
theorem step_update_run {ops : Array Oper} {o : Oper} {a : Act} {w : World} {K : Act → World → Prop} {Q : Exit → Act → World → Prop} {E : Prop}
    (hg : o.guard = none) (m x v : Operand) (t : TypeId) (hop : o.op = Op.mapUpdate t m x v) (mv kv vv : Value) (hm : a.eval m = mv) (hx : a.eval x = kv) (hv : a.eval v = vv)
    {w' : World} (hr : (Instr.mapUpdate t mv kv vv).run P w = .ok () w') (hK : K (a.put o.dst undef) w') :
    if Region.wanted o (yielded ops a.tmps) = true then Oper.wp P o a w K Q else E := by
  have hw : Region.wanted o (yielded ops a.tmps) = true := by simp [Region.wanted, hg]
  rw [if_pos hw]
  unfold Oper.wp
  simp [execOp, hop, hm, hx, hv, hr, Result.andThen]
  exact hK
end
theorem MapE.put {w : World} {mb : Nat} {es : List Ent} (h : MapE Tryd.prog 9 w mb es) (x : Ent) (hx : x.path.size ≤ maxLen) (hl : es.length < maxLen) :
    ∃ w', (Instr.mapUpdate 68 (.map (some mb)) (.string x.path) x.val).run Tryd.prog w = .ok () w' ∧ MapE Tryd.prog 9 w' mb (putE es x) ∧ w.grownBy w' (some mb) := by
  obtain ⟨w', h1, h2, h3⟩ := World.ownsMap.update h keyL Tryd.underlying68 hl (keyS hx) (rowE_val x)
  have e : (datE es).put (.string x.path.data.toList) (encEnt x) = datE (putE es x) := dat_put es x
  rw [e] at h2
  exact ⟨w', h1, MapE.of h2, h3⟩
theorem MapE.len {w : World} {mb : Nat} {es : List Ent} (h : MapE Tryd.prog 9 w mb es) (ty : TypeId) : (Builtin.len_ #[68] ty #[.map (some mb)]).run Tryd.prog w = .ok (.int .i64 es.length) w := by
  rw [World.ownsMap.len h Tryd.underlying68 ty, dat_size]
theorem made_no {f : Fs} {x : Ent} (h : standsE f.es x.path = false) : madeF f x = (f, 44) := if_pos h
theorem made_full {f : Fs} {x : Ent} (h : standsE f.es x.path = true) (h2 : 300 ≤ f.es.length) : madeF f x = (f, 41) := by
  unfold madeF
  rw [if_neg (by rw [h]; exact Bool.noConfusion), if_pos h2]
theorem made_yes {f : Fs} {x : Ent} (h : standsE f.es x.path = true) (h2 : ¬ 300 ≤ f.es.length) : madeF f x = (⟨f.n + 1, putE f.es ⟨x.path, (f.n : Int) + 1, x.dir, x.data⟩⟩, 0) := by
  unfold madeF
  rw [if_neg (by rw [h]; exact Bool.noConfusion), if_neg h2]
def FsS (fb mb : Nat) : Nat → Prop := fun k => k = fb ∨ k = mb
set_option maxRecDepth 100000 in
set_option maxHeartbeats 1600000 in
/-- **put.** -/
theorem fput_any (fb mb : Nat) (f : Fs) (x : Ent) (w : World) (h : FAt w fb mb f) (hp : x.path.size ≤ 100000) (hl : f.es.length ≤ 300) (hn : f.n ≤ 1000000) :
    Calls Tryd.prog 52 #[.pointer (some ⟨fb, 0, none⟩), x.val] w fun e w' => e = .returned (.int .i64 (madeF f x).2) ∧ FAt w' fb mb (madeF f x).1 ∧ Turned (FsS fb mb) w.heap.size w w' := by
  obtain ⟨xp, xi, xd, xs⟩ := x
  dsimp only at hp
  have hal := (Below.refl w.heap.size w).alloc (Nat.le_refl _) (.cells #[.string xp, .int .i64 xi, .bool xd, .string xs] 38)
  have hF := h.keeps hal h.1.1 h.2.lt
  have hV := VarAt.new w #[.string xp, .int .i64 xi, .bool xd, .string xs] 38
  obtain ⟨bx, hbx⟩ : ∃ bx, bx = w.heap.size := ⟨_, rfl⟩
  rw [← hbx] at hV
  have hfb : fb < bx := by rw [hbx]; exact h.1.1
  have hmb : mb < bx := by rw [hbx]; exact h.2.lt
  have hne := h.ne
  have Hbx := Lib.hid hbx
  clear hbx h
  have c0 := hV.2.2 0 _ rfl
  have HS := Lib.hid (fstands_any fb mb f xp _ hF hp)
  show Calls _ _ #[_, .agg #[.string xp, .int .i64 xi, .bool xd, .string xs]] _ _
  have HM0 := Lib.hid (made_no (f := f) (x := ⟨xp, xi, xd, xs⟩))
  have HM1 := Lib.hid (made_full (f := f) (x := ⟨xp, xi, xd, xs⟩))
  have HM2 := Lib.hid (made_yes (f := f) (x := ⟨xp, xi, xd, xs⟩))
  dsimp only at HM0 HM1 HM2
  obtain ⟨M, hM⟩ : ∃ M, madeF f ⟨xp, xi, xd, xs⟩ = M := ⟨_, rfl⟩
  rw [hM] at HM0 HM1 HM2
  rw [hM]
  clear hM
  generalize standsE f.es xp = st at *
  rw [Hbx.out] at c0
  cases st with
  | false =>
    have hM := Lib.hid (HM0.out rfl)
    go_enter Tryd.func52, Tryd.ntmps52
    go_wp2_with fail
    refine HS.out.mono ?_
    rintro e w1 ⟨rfl, n1, rfl⟩
    go_wp2_with fail
    go_ret
    rw [hM.out]
    exact ⟨rfl, ⟨hF.1, hF.2.same rfl⟩, Turned.of_below (belowDrew hal n1) (Nat.le_refl _)⟩
  | true =>
    by_cases h300 : 300 ≤ f.es.length
    · have hM := Lib.hid (HM1.out rfl h300)
      go_enter Tryd.func52, Tryd.ntmps52
      go_wp2_with fail
      refine HS.out.mono ?_
      rintro e w1 ⟨rfl, n1, rfl⟩
      have hF1 : FAt ((w.alloc (.cells #[.string xp, .int .i64 xi, .bool xd, .string xs] 38)).drewN n1) fb mb f := ⟨hF.1, hF.2.same rfl⟩
      have hb1 := belowDrew hal n1
      generalize (w.alloc (.cells #[.string xp, .int .i64 xi, .bool xd, .string xs] 38)).drewN n1 = W1 at *
      have k1 := hF1.1.2.2 1 _ rfl
      have hlen := fun ty => hF1.2.len ty
      go_wp2_with fail
      go_ret
      rw [hM.out]
      exact ⟨rfl, hF1, Turned.of_below hb1 (Nat.le_refl _)⟩
    · have hM := Lib.hid (HM2.out rfl h300)
      go_enter Tryd.func52, Tryd.ntmps52
      go_wp2_with fail
      refine HS.out.mono ?_
      rintro e w1 ⟨rfl, n1, rfl⟩
      have hF1 : FAt ((w.alloc (.cells #[.string xp, .int .i64 xi, .bool xd, .string xs] 38)).drewN n1) fb mb f := ⟨hF.1, hF.2.same rfl⟩
      have hV1 : VarAt ((w.alloc (.cells #[.string xp, .int .i64 xi, .bool xd, .string xs] 38)).drewN n1) bx [.string xp, .int .i64 xi, .bool xd, .string xs] := hV
      have hb1 := belowDrew hal n1
      generalize (w.alloc (.cells #[.string xp, .int .i64 xi, .bool xd, .string xs] 38)).drewN n1 = W1 at *
      have k0 := hF1.1.2.2 0 _ rfl
      have f0 := hF1.1.2.1 0
      have k1 := hF1.1.2.2 1 _ rfl
      have hlen := fun ty => hF1.2.len ty
      have hV2 := hV1.other (k := fb) (i := 0) (.int .i64 ((f.n : Int) + 1)) (by omega)
      have b1 := hV2.2.2 1 _ rfl
      have g1 := hV2.2.1 1
      rw [← Hbx.out]
      go_wp2_with fail
      have hX := (hF1.1.set 0 (.int .i64 ((f.n : Int) + 1)) (by simp)).other (k := bx) (i := 1) (.int .i64 ((f.n : Int) + 1)) (by omega)
      have hY := hV2.set 1 (.int .i64 ((f.n : Int) + 1)) (by simp)
      have hZ : MapE Tryd.prog 9 ((W1.setCell ⟨fb, 0, none⟩ (.int .i64 ((f.n : Int) + 1))).setCell ⟨bx, 1, none⟩ (.int .i64 ((f.n : Int) + 1))) mb f.es := hF1.2.same ((heap_other _ _ (by omega)).trans (heap_other _ _ (fun e => hne e.symm)))
      have hT := ((Turned.of_below (S := FsS fb mb) hb1 (Nat.le_refl _)).set 0 (.int .i64 ((f.n : Int) + 1)) (b := fb) (fun _ => .inl rfl)).set 1 (.int .i64 ((f.n : Int) + 1)) (b := bx) (fun e => by have := Hbx.out; omega)
      generalize (W1.setCell ⟨fb, 0, none⟩ (.int .i64 ((f.n : Int) + 1))).setCell ⟨bx, 1, none⟩ (.int .i64 ((f.n : Int) + 1)) = W2 at *
      clear hF1 hV1 hV2 k0 f0 k1 hlen b1 g1 hb1
      dsimp only [List.set] at hX hY
      have k1 : W2.drew.cell? ⟨fb, 1, none⟩ = some (.map (some mb)) := hX.2.2 1 _ rfl
      have y0 : W2.drew.cell? ⟨bx, 0, none⟩ = some (.string xp) := hY.2.2 0 _ rfl
      have y1 : W2.drew.cell? ⟨bx, 1, none⟩ = some (.int .i64 ((f.n : Int) + 1)) := hY.2.2 1 _ rfl
      have y2 : W2.drew.cell? ⟨bx, 2, none⟩ = some (.bool xd) := hY.2.2 2 _ rfl
      have y3 : W2.drew.cell? ⟨bx, 3, none⟩ = some (.string xs) := hY.2.2 3 _ rfl
      obtain ⟨w3, hrun, hM3, hg3⟩ := MapE.put (hZ.same (w' := W2.drew) rfl) ⟨xp, (f.n : Int) + 1, xd, xs⟩ (by show xp.size ≤ maxLen; unfold maxLen; omega) (by unfold maxLen; omega)
      replace hrun : (Instr.mapUpdate 68 (.map (some mb)) (.string xp) (.agg #[.string xp, .int .i64 ((f.n : Int) + 1), .bool xd, .string xs])).run Tryd.prog W2.drew = .ok () w3 := hrun
      have hX3 : VarAt w3 fb _ := VarAt.grown (W := W2.drew) hX hg3 (by simpa using hne)
      have hT3 := (hT.drewN 1).trans (Turned.of_grown (W := W2.drewN 1) (S := FsS fb mb) (B := w.heap.size) hg3 hT.size (fun k e _ => by cases e; exact .inr rfl))
      have HR := Lib.hid (show FAt w3 fb mb ⟨f.n + 1, putE f.es ⟨xp, (f.n : Int) + 1, xd, xs⟩⟩ from ⟨hX3, hM3⟩)
      clear hX3 hM3 hg3 hX hY hZ hT
      go_region_law (refine step_update_run rfl _ _ _ 68 rfl _ _ _ rfl rfl rfl hrun ?_)
      all_goals
        go_wp2_with fail
        go_ret
        rw [hM.out]
        exact ⟨rfl, HR.out, hT3⟩
end Go.Proofs.YtgjgeojhhglidaaDoor

namespace Go.Proofs.YtgjgeojhhglidaaDoor
open Go Go.RowKit Go.Lib

theorem FAt.below {w w' : World} {fb mb : Nat} {f : Fs} (h : FAt w fb mb f) (hb : Below w.heap.size w w') : FAt w' fb mb f := h.keeps hb h.1.1 h.2.lt
theorem mkdir_bad {f : Fs} {p : ByteArray} (h : pathG p.data.toList = false) : mkdirF f p = (f, 23) := if_pos h
theorem mkdir_there {f : Fs} {p : ByteArray} {x : Ent} (h : pathG p.data.toList = true) (h2 : findE f.es p = some x) : mkdirF f p = (f, 24) := by
  unfold mkdirF
  rw [if_neg (by rw [h]; exact Bool.noConfusion), h2]
  rfl
theorem mkdir_new {f : Fs} {p : ByteArray} (h : pathG p.data.toList = true) (h2 : findE f.es p = none) : mkdirF f p = madeF f ⟨p, 0, true, noBa⟩ := by
  unfold mkdirF
  rw [if_neg (by rw [h]; exact Bool.noConfusion), h2]
  rfl
theorem write_bad {f : Fs} {p d : ByteArray} (h : pathG p.data.toList = false) : writeF f p d = (f, 23) := if_pos h
theorem write_big {f : Fs} {p d : ByteArray} (h : pathG p.data.toList = true) (h1 : 4096 < d.size) : writeF f p d = (f, 40) := by
  unfold writeF
  rw [if_neg (by rw [h]; exact Bool.noConfusion), if_pos h1]
theorem write_new {f : Fs} {p d : ByteArray} (h : pathG p.data.toList = true) (h1 : ¬ 4096 < d.size) (h2 : findE f.es p = none) : writeF f p d = madeF f ⟨p, 0, false, d⟩ := by
  unfold writeF
  rw [if_neg (by rw [h]; exact Bool.noConfusion), if_neg h1, h2]
theorem write_dir {f : Fs} {p d : ByteArray} {x : Ent} (h : pathG p.data.toList = true) (h1 : ¬ 4096 < d.size) (h2 : findE f.es p = some x) (h3 : x.dir = true) : writeF f p d = (f, 44) := by
  unfold writeF
  rw [if_neg (by rw [h]; exact Bool.noConfusion), if_neg h1, h2]
  dsimp only
  rw [if_pos h3]
theorem write_file {f : Fs} {p d : ByteArray} {x : Ent} (h : pathG p.data.toList = true) (h1 : ¬ 4096 < d.size) (h2 : findE f.es p = some x) (h3 : x.dir = false) : writeF f p d = (⟨f.n, putE f.es ⟨x.path, x.id, x.dir, d⟩⟩, 0) := by
  unfold writeF
  rw [if_neg (by rw [h]; exact Bool.noConfusion), if_neg h1, h2]
  dsimp only
  rw [if_neg (by rw [h3]; exact Bool.noConfusion)]
set_option maxRecDepth 100000 in
set_option maxHeartbeats 1600000 in
/-- **Mkdir.** -/
theorem fmkdir_any (fb mb : Nat) (f : Fs) (p : ByteArray) (w : World) (h : FAt w fb mb f) (hp : p.size ≤ 100000) (hlen : f.es.length ≤ 300) (hn : f.n ≤ 1000000) (hm : MaxAt w) :
    Calls Tryd.prog 27 #[.pointer (some ⟨fb, 0, none⟩), .string p] w fun e w' => e = .returned (.int .i64 (mkdirF f p).2) ∧ FAt w' fb mb (mkdirF f p).1 ∧ Turned (FsS fb mb) w.heap.size w w' := by
  have HP := Lib.hid (path_any p w hp hm)
  cases hpg : pathG p.data.toList with
  | false =>
    have hM := mkdir_bad (f := f) hpg
    rw [hpg] at HP
    clear hpg
    go_enter Tryd.func27, Tryd.ntmps27
    go_wp2_with fail
    refine HP.out.mono ?_
    rintro e w1 ⟨rfl, hb1⟩
    go_wp2_with fail
    go_ret
    rw [hM]
    exact ⟨rfl, h.below hb1, Turned.of_below hb1 (Nat.le_refl _)⟩
  | true =>
    rw [hpg] at HP
    cases hf : findE f.es p with
    | some x =>
      have hM := mkdir_there hpg hf
      obtain ⟨xp, xi, xd, xs⟩ := x
      clear hpg
      go_enter Tryd.func27, Tryd.ntmps27
      go_wp2_with fail
      refine HP.out.mono ?_
      rintro e w1 ⟨rfl, hb1⟩
      have hF1 := h.below hb1
      have hm1 := hb1.size
      have k1 := hF1.1.2.2 1 _ rfl
      have hl := hF1.2.look (p := p) (by unfold maxLen; omega)
      rw [hf] at hl
      rw [show ((some (⟨xp, xi, xd, xs⟩ : Ent)).getD noEnt).val = .agg #[.string xp, .int .i64 xi, .bool xd, .string xs] from rfl, show (some (⟨xp, xi, xd, xs⟩ : Ent)).isSome = true from rfl] at hl
      clear hf
      go_wp2_with fail
      go_ret
      rw [hM]
      have hbz := hb1.alloc hb1.size (.cells #[.string xp, .int .i64 xi, .bool xd, .string xs] 38)
      exact ⟨rfl, h.below hbz, Turned.of_below hbz (Nat.le_refl _)⟩
    | none =>
      have hM := mkdir_new hpg hf
      clear hpg
      go_enter Tryd.func27, Tryd.ntmps27
      go_wp2_with fail
      refine HP.out.mono ?_
      rintro e w1 ⟨rfl, hb1⟩
      have hF1 := h.below hb1
      have hm1 := hb1.size
      have k1 := hF1.1.2.2 1 _ rfl
      have hl := hF1.2.look (p := p) (by unfold maxLen; omega)
      rw [hf] at hl
      rw [show ((none : Option Ent).getD noEnt).val = .agg #[.string ⟨#[]⟩, .int .i64 0, .bool false, .string ⟨#[]⟩] from rfl, show (none : Option Ent).isSome = false from rfl] at hl
      clear hf
      have hal := (Below.refl w1.heap.size w1).alloc (Nat.le_refl _) (.cells #[.string ⟨#[]⟩, .int .i64 0, .bool false, .string ⟨#[]⟩] 38)
      have hF2 := hF1.below hal
      have HU := Lib.hid (fput_any fb mb f ⟨p, 0, true, noBa⟩ _ hF2 hp hlen hn)
      have hs2 : (w1.alloc (.cells #[.string ⟨#[]⟩, .int .i64 0, .bool false, .string ⟨#[]⟩] 38)).heap.size = w1.heap.size + 1 := by simp
      have hb2 := hb1.trans (hal.mono hb1.size)
      rw [show Ent.val ⟨p, 0, true, noBa⟩ = .agg #[.string p, .int .i64 0, .bool true, .string ⟨#[]⟩] from rfl] at HU
      go_wp2_with fail
      refine HU.out.mono ?_
      rintro e w3 ⟨rfl, hF3, ht3⟩
      go_wp2_with fail
      go_ret
      rw [hM]
      exact ⟨rfl, hF3, (Turned.of_below hb2 (Nat.le_refl _)).trans (ht3.mono hb2.size (fun _ _ h => h))⟩
set_option maxRecDepth 100000 in
set_option maxHeartbeats 1600000 in
/-- **Write.** -/
theorem fwrite_any (fb mb : Nat) (f : Fs) (p d : ByteArray) (w : World) (h : FAt w fb mb f) (hp : p.size ≤ 100000) (hlen : f.es.length ≤ 300) (hn : f.n ≤ 1000000) (hm : MaxAt w) :
    Calls Tryd.prog 28 #[.pointer (some ⟨fb, 0, none⟩), .string p, .string d] w fun e w' => e = .returned (.int .i64 (writeF f p d).2) ∧ FAt w' fb mb (writeF f p d).1 ∧ Turned (FsS fb mb) w.heap.size w w' := by
  have HP := Lib.hid (path_any p w hp hm)
  cases hpg : pathG p.data.toList with
  | false =>
    have hM := write_bad (f := f) (d := d) hpg
    rw [hpg] at HP
    clear hpg
    go_enter Tryd.func28, Tryd.ntmps28
    go_wp2_with fail
    refine HP.out.mono ?_
    rintro e w1 ⟨rfl, hb1⟩
    go_wp2_with fail
    go_ret
    rw [hM]
    exact ⟨rfl, h.below hb1, Turned.of_below hb1 (Nat.le_refl _)⟩
  | true =>
    rw [hpg] at HP
    by_cases hd : 4096 < d.size
    · have hM := write_big (f := f) hpg hd
      clear hpg
      go_enter Tryd.func28, Tryd.ntmps28
      go_wp2_with fail
      refine HP.out.mono ?_
      rintro e w1 ⟨rfl, hb1⟩
      go_wp2_with fail
      go_ret
      rw [hM]
      exact ⟨rfl, h.below hb1, Turned.of_below hb1 (Nat.le_refl _)⟩
    cases hf : findE f.es p with
    | none =>
      have hM := write_new hpg hd hf
      clear hpg
      go_enter Tryd.func28, Tryd.ntmps28
      go_wp2_with fail
      refine HP.out.mono ?_
      rintro e w1 ⟨rfl, hb1⟩
      have hF1 := h.below hb1
      have hm1 := hb1.size
      have k1 := hF1.1.2.2 1 _ rfl
      have hl := hF1.2.look (p := p) (by unfold maxLen; omega)
      rw [hf] at hl
      rw [show ((none : Option Ent).getD noEnt).val = .agg #[.string ⟨#[]⟩, .int .i64 0, .bool false, .string ⟨#[]⟩] from rfl, show (none : Option Ent).isSome = false from rfl] at hl
      clear hf
      have hal := (Below.refl w1.heap.size w1).alloc (Nat.le_refl _) (.cells #[.string ⟨#[]⟩, .int .i64 0, .bool false, .string ⟨#[]⟩] 38)
      have hF2 := hF1.below hal
      have HU := Lib.hid (fput_any fb mb f ⟨p, 0, false, d⟩ _ hF2 hp hlen hn)
      have hs2 : (w1.alloc (.cells #[.string ⟨#[]⟩, .int .i64 0, .bool false, .string ⟨#[]⟩] 38)).heap.size = w1.heap.size + 1 := by simp
      have hb2 := hb1.trans (hal.mono hb1.size)
      rw [show Ent.val ⟨p, 0, false, d⟩ = .agg #[.string p, .int .i64 0, .bool false, .string d] from rfl] at HU
      go_wp2_with fail
      refine HU.out.mono ?_
      rintro e w3 ⟨rfl, hF3, ht3⟩
      go_wp2_with fail
      go_ret
      rw [hM]
      exact ⟨rfl, hF3, (Turned.of_below hb2 (Nat.le_refl _)).trans (ht3.mono hb2.size (fun _ _ h => h))⟩
    | some x =>
      obtain ⟨xp, xi, xd, xs⟩ := x
      cases xd with
      | true =>
        have hM := write_dir hpg hd hf rfl
        clear hpg
        go_enter Tryd.func28, Tryd.ntmps28
        go_wp2_with fail
        refine HP.out.mono ?_
        rintro e w1 ⟨rfl, hb1⟩
        have hF1 := h.below hb1
        have hm1 := hb1.size
        have k1 := hF1.1.2.2 1 _ rfl
        have hl := hF1.2.look (p := p) (by unfold maxLen; omega)
        rw [hf] at hl
        rw [show ((some (⟨xp, xi, true, xs⟩ : Ent)).getD noEnt).val = .agg #[.string xp, .int .i64 xi, .bool true, .string xs] from rfl, show (some (⟨xp, xi, true, xs⟩ : Ent)).isSome = true from rfl] at hl
        clear hf
        go_wp2_with fail
        go_ret
        rw [hM]
        have hbz := hb1.alloc hb1.size (.cells #[.string xp, .int .i64 xi, .bool true, .string xs] 38)
        exact ⟨rfl, h.below hbz, Turned.of_below hbz (Nat.le_refl _)⟩
      | false =>
        have hM := write_file hpg hd hf rfl
        obtain rfl : xp = p := (find_some hf).2
        clear hpg
        go_enter Tryd.func28, Tryd.ntmps28
        go_wp2_with fail
        refine HP.out.mono ?_
        rintro e w1 ⟨rfl, hb1⟩
        have hF1 := h.below hb1
        have hm1 := hb1.size
        have k1 := hF1.1.2.2 1 _ rfl
        have hl := hF1.2.look (p := xp) (by unfold maxLen; omega)
        rw [hf] at hl
        rw [show ((some (⟨xp, xi, false, xs⟩ : Ent)).getD noEnt).val = .agg #[.string xp, .int .i64 xi, .bool false, .string xs] from rfl, show (some (⟨xp, xi, false, xs⟩ : Ent)).isSome = true from rfl] at hl
        clear hf
        have hal := (Below.refl w1.heap.size w1).alloc (Nat.le_refl _) (.cells #[.string xp, .int .i64 xi, .bool false, .string d] 38)
        have hF2 := hF1.below hal
        have hV2 := VarAt.new w1 #[.string xp, .int .i64 xi, .bool false, .string d] 38
        have hb2 := hb1.trans (hal.mono hb1.size)
        obtain ⟨bs, hbs⟩ : ∃ bs, bs = w1.heap.size := ⟨_, rfl⟩
        rw [← hbs] at hV2
        have Hbs := Lib.hid hbs
        clear hbs
        go_wp2_with fail
        rw [← Hbs.out]
        clear k1 hl
        generalize w1.alloc (.cells #[.string xp, .int .i64 xi, .bool false, .string d] 38) = W2 at *
        have k1 : W2.drew.cell? ⟨fb, 1, none⟩ = some (.map (some mb)) := hF2.1.2.2 1 _ rfl
        have y0 : W2.drew.cell? ⟨bs, 0, none⟩ = some (.string xp) := hV2.2.2 0 _ rfl
        have y1 : W2.drew.cell? ⟨bs, 1, none⟩ = some (.int .i64 xi) := hV2.2.2 1 _ rfl
        have y2 : W2.drew.cell? ⟨bs, 2, none⟩ = some (.bool false) := hV2.2.2 2 _ rfl
        have y3 : W2.drew.cell? ⟨bs, 3, none⟩ = some (.string d) := hV2.2.2 3 _ rfl
        obtain ⟨w3, hrun, hM3, hg3⟩ := MapE.put (MapE.same hF2.2 (w' := W2.drew) rfl) ⟨xp, xi, false, d⟩ (by show xp.size ≤ maxLen; unfold maxLen; omega) (by unfold maxLen; omega)
        replace hrun : (Instr.mapUpdate 68 (.map (some mb)) (.string xp) (.agg #[.string xp, .int .i64 xi, .bool false, .string d])).run Tryd.prog W2.drew = .ok () w3 := hrun
        have hX3 : VarAt w3 fb _ := VarAt.grown (W := W2.drew) hF2.1 hg3 (by simpa using hF2.ne)
        have hT3 := (Turned.of_below (S := FsS fb mb) (belowDrew hb2 1) (Nat.le_refl _)).trans (Turned.of_grown (W := W2.drewN 1) (S := FsS fb mb) (B := w.heap.size) hg3 hb2.size (fun k e _ => by cases e; exact .inr rfl))
        have HR := Lib.hid (show FAt w3 fb mb ⟨f.n, putE f.es ⟨xp, xi, false, d⟩⟩ from ⟨hX3, hM3⟩)
        clear hX3 hM3 hg3 hF2 hV2 hF1
        go_region_law (refine step_update_run rfl _ _ _ 68 rfl _ _ _ rfl rfl rfl hrun ?_)
        all_goals
          go_wp2_with fail
          go_ret
          rw [hM]
          exact ⟨rfl, HR.out, hT3⟩
end Go.Proofs.YtgjgeojhhglidaaDoor

namespace Go.Proofs.YtgjgeojhhglidaaDoor
open Go Go.RowKit Go.Lib

theorem key_in {es : List Ent} {x : List UInt8} {y : DataW Unit} (h : ∀ zd, (datE es).atKey (.string x) zd = y) : ∃ e ∈ es, e.path = ba x := by
  have h1 := h (.lit (.bool true))
  have h2 := h (.lit (.bool false))
  rw [show (Lit.string x) = .string (ba x).data.toList from rfl, dat_at] at h1 h2
  cases hf : findE es (ba x) with
  | some e => exact ⟨e, find_some hf⟩
  | none =>
    rw [hf] at h1 h2
    rw [← h2] at h1
    cases h1
theorem pref_under {q p : ByteArray} (h : rightsL q.data.toList = true) : Lib.hasPrefix q.data.toList (p ++ ⟨#[47]⟩ : ByteArray).data.toList = underB q p := by
  rw [Bool.eq_iff_iff, underE_iff]
  unfold Lib.hasPrefix
  rw [List.isPrefixOf_iff_prefix, ByteArray.data_append, Array.toList_append]
  constructor
  · rintro ⟨r, hr⟩
    have e : q.data.toList = p.data.toList ++ 47 :: r := by rw [← hr]; simp
    refine ⟨r, ?_, e⟩
    rw [e, rights_join, Bool.and_eq_true] at h
    exact rights_ne h.2
  · rintro ⟨r, _, e⟩
    exact ⟨r, by rw [e]; simp⟩
/-- Which keys are collected. -/
def inK (p : ByteArray) (x : List UInt8) : Bool := inE p (ba x)
theorem inK_snoc (p : ByteArray) (l : List (List UInt8)) (x : List UInt8) : ((l ++ [x]).filter (inK p)).map ba = if inK p x then (l.filter (inK p)).map ba ++ [ba x] else (l.filter (inK p)).map ba := by
  rw [List.filter_append, List.map_append]
  cases h : inK p x <;> simp [h]
theorem below_perm {es : List Ent} {p : ByteArray} {l : List (List UInt8)} (h : l.Perm (es.map pB)) : ((l.filter (inK p)).map ba).Perm ((es.map (·.path)).filter (inE p)) := by
  refine ((h.filter (inK p)).map ba).trans (List.Perm.of_eq ?_)
  rw [List.filter_map, List.filter_map, List.map_map]
  have e : (inK p ∘ pB) = (inE p ∘ fun x : Ent => x.path) := by
    funext x
    show inE p (ba x.path.data.toList) = inE p x.path
    rw [ba_back]
  rw [e]
  refine List.map_congr_left fun x _ => ?_
  show ba x.path.data.toList = x.path
  exact ba_back _
set_option maxRecDepth 100000 in
set_option maxHeartbeats 3200000 in
/-- **below.** -/
theorem fbelow_any (fb mb : Nat) (f : Fs) (p : ByteArray) (w : World) (h : FAt w fb mb f) (hok : FsOK f) (hp : p.size ≤ 100000) :
    Calls Tryd.prog 51 #[.pointer (some ⟨fb, 0, none⟩), .string p] w fun e w' => ∃ v ss, e = .returned v ∧ OwnRows strLay w' w.heap.size 9 v ss ∧ ss.Perm ((f.es.map (·.path)).filter (inE p)) ∧ Below w.heap.size w w' := by
  obtain ⟨i0, hi, hz0, hz1, hz2⟩ := info_parts strInfo
  have Hi := Lib.hid hi
  have Hz0 := Lib.hid hz0
  have Hz1 := Lib.hid hz1
  have Hz2 := Lib.hid hz2
  clear hi hz0 hz1 hz2
  have hown : w.ownsMap Tryd.prog 9 rowE mb f.es.length (datE f.es) := h.2
  have hbl := h.2.lt
  have k1 := h.1.2.2 1 _ rfl
  have hfew := hok.few
  have hdsz := dat_size f.es
  have Hpath := Lib.hid hok.path
  have hA1 : ¬ (p.size + 1 > 9223372036854775807) := by omega
  have hA2 : p.size + 1 ≤ 9223372036854775807 := by omega
  go_enter Tryd.func51, Tryd.ntmps51
  go_wp2_with (at_range; refine wpList_range_own _ rfl _ 68 rfl 9 38 keyL Tryd.underlying68 _ mb _ _ rfl hown ?_; intro w0 hrg0 hg0 hs0)
  go_frame
  go_loopw [5, 6] (fun o _ wr => ∃ (left : Lit → Bool) (cnt : Nat) (all : List (List UInt8)), wr.ranges Tryd.prog 9 rowE mb w.heap.size f.es.length (datE f.es) left cnt ∧ all.length + cnt ≤ Go.Maps.size (datE f.es) ∧
      OwnRows strLay wr w.heap.size 9 o ((all.filter (inK p)).map ba) ∧ Hid (Collected (datE f.es) left all) ∧ Below w.heap.size w wr)
    (fun _ _ wr => wr.rangeLeft mb w.heap.size)
  case atStart =>
    exact ⟨_, _, [], hrg0, by simp, OwnRows.nil _ _ _ _, Lib.hid (Collected.start _), (Below.refl _ _).grown hg0 (Nat.le_refl _) (fun j hj => by cases hj)⟩
  case round =>
    obtain ⟨left, cnt, all, hrg, hcs, hrow, HC, hnx⟩ := hrel
    go_wp2_with (at_next; refine wpList_next_ranges _ rfl _ rfl 9 keyL rowE Value.string Ent.val (fun key kl hk => by obtain ⟨x, hx, _⟩ := Go.Maps.keyOf_str Tryd.underlying9 hk; exact ⟨ba x, hx⟩) (fun v y hv => by obtain ⟨c, rfl, _⟩ := rowE_inv hv; exact ⟨c, rfl⟩) mb w.heap.size f.es.length _ _ _ rfl hrg ?_ ?_)
    · intro hc0 hl0
      have hperm : all.Perm (f.es.map pB) := by
        rw [← dat_keys]
        exact HC.out.perm hown keyL Tryd.underlying9 hl0
      have hp1 := below_perm (p := p) hperm
      clear hperm
      have Hp1 := Lib.hid hp1
      clear hp1
      go_wp2_with fail
      go_ret
      exact ⟨_, _, rfl, hrow, Hp1.out, hnx⟩
    · intro q0 c kl yd yp w2 cnt2 hkey hlk hv hat hrg2 hlt hg2 hs2 hen
      obtain ⟨x, ex, rfl, _⟩ := Go.Maps.keyOf_str Tryd.underlying9 hkey
      obtain rfl : q0 = ba x := Value.string.inj ex
      obtain ⟨e0, he0, hep⟩ := key_in hat
      have HC2 := Lib.hid (HC.out.step hlk hat)
      have hrow2 : OwnRows strLay w2 w.heap.size 9 _ ((all.filter (inK p)).map ba) := hrow.kept hg2 (.inr (row_ne_iter hrow hrg).symm)
      have hnx2 := hnx.grown hg2 hnx.size (fun j hj => by cases hj; exact Nat.le_refl _)
      have hen2 : (Instr.entry (.pointer (some ⟨w.heap.size, 0, none⟩))).run Tryd.prog w2 = .ok (.tuple #[.string (ba x), c.val]) w2 := hen
      have hqs : (ba x).size ≤ 400 := by
        rw [← hep]
        exact path_size (Hpath.out e0 he0)
      have Hpu := Lib.hid (pref_under (q := ba x) (p := p) (by rw [← hep]; exact path_rights (Hpath.out e0 he0)))
      have hla : ((all.filter (inK p)).map ba).length ≤ 300 := by
        rw [List.length_map]
        have := List.length_filter_le (inK p) all
        omega
      clear hs2 hkey ex hen he0 hep hat hv
      obtain ⟨q, hq⟩ : ∃ q, ba x = q := ⟨_, rfl⟩
      rw [hq] at hen2 hqs Hpu
      rw [hq]
      have Hq := Lib.hid hq
      have HK := Lib.hid (show inK p x = (decide (q = p) || underB q p) by rw [← hq]; rfl)
      clear hq
      generalize hacc : (all.filter (inK p)).map ba = acc at *
      have Hacc := Lib.hid hacc
      clear hacc
      by_cases h1 : q = p
      · have e1 := str_eq h1
        have Hin := Lib.hid (show inK p x = true by rw [HK.out, decide_eq_true h1]; rfl)
        clear h1
        go_wp2_with (at_builtin; refine wpList_append_rows _ rfl _ _ 76 rfl strLay w.heap.size 9 i0 (.string ⟨#[]⟩) 16 Tryd.underlying76 Hi.out Hz0.out Hz1.out Hz2.out rfl (by decide) _ _ rfl (hrow2.alloc _) ⟨w2.heap.size, 0, none⟩ 1 q rfl (cells_new_at w2 w2.heap.size #[.string q] 9 rfl) (by unfold maxLen; omega) (by omega) (by have := hnx2.size; simp; omega) ?_; intro va w3 hrow3 hg3 _; go_frame)
        have hb3 := (hnx2.alloc hnx2.size (.cells #[.string q] 9)).grown hg3 (by have := hnx2.size; simp; omega) (fun j ej => (hrow2.lt ej).1)
        have hrg3 := (hrg2.alloc (.cells #[.string q] 9)).kept hg3 (row_ne_low hrow2 hbl) (row_ne_iter hrow2 hrg2)
        go_roundw
        case rel => exact ⟨_, cnt2, all ++ [x], hrg3, by rw [List.length_append]; simp only [List.length_cons, List.length_nil]; omega, by rw [inK_snoc, if_pos Hin.out, Hq.out]; rw [Hacc.out]; exact hrow3, HC2, hb3⟩
        case measure => rw [hrg3.left_eq, hrg.left_eq]; exact hlt
      · have e1 := str_ne h1
        have HK2 := Lib.hid (show inK p x = underB q p by rw [HK.out, decide_eq_false h1]; rfl)
        clear h1
        have HP := Lib.hid fun W => (Tryd.strings_HasPrefix q (p ++ ⟨#[47]⟩) W).mono fun _ _ h => (⟨h.1, h.2.symm⟩ : _ ∧ W = _)
        rw [Hpu.out] at HP
        cases hu : underB q p with
        | true =>
          rw [hu] at HP
          have Hin := Lib.hid (show inK p x = true by rw [HK2.out, hu])
          clear hu
          go_wp2_with fail
          refine (HP.out _).mono ?_
          rintro e w9 ⟨rfl, rfl⟩
          go_wp2_with (at_builtin; refine wpList_append_rows _ rfl _ _ 76 rfl strLay w.heap.size 9 i0 (.string ⟨#[]⟩) 16 Tryd.underlying76 Hi.out Hz0.out Hz1.out Hz2.out rfl (by decide) _ _ rfl (hrow2.alloc _) ⟨w2.heap.size, 0, none⟩ 1 q rfl (cells_new_at w2 w2.heap.size #[.string q] 9 rfl) (by unfold maxLen; omega) (by omega) (by have := hnx2.size; simp; omega) ?_; intro va w3 hrow3 hg3 _; go_frame)
          have hb3 := (hnx2.alloc hnx2.size (.cells #[.string q] 9)).grown hg3 (by have := hnx2.size; simp; omega) (fun j ej => (hrow2.lt ej).1)
          have hrg3 := (hrg2.alloc (.cells #[.string q] 9)).kept hg3 (row_ne_low hrow2 hbl) (row_ne_iter hrow2 hrg2)
          go_roundw
          case rel => exact ⟨_, cnt2, all ++ [x], hrg3, by rw [List.length_append]; simp only [List.length_cons, List.length_nil]; omega, by rw [inK_snoc, if_pos Hin.out, Hq.out]; rw [Hacc.out]; exact hrow3, HC2, hb3⟩
          case measure => rw [hrg3.left_eq, hrg.left_eq]; exact hlt
        | false =>
          rw [hu] at HP
          have Hin := Lib.hid (show inK p x = false by rw [HK2.out, hu])
          clear hu
          go_wp2_with fail
          refine (HP.out _).mono ?_
          rintro e w9 ⟨rfl, rfl⟩
          go_wp2_with fail
          go_roundw
          case rel => exact ⟨_, cnt2, all ++ [x], hrg2, by rw [List.length_append]; simp only [List.length_cons, List.length_nil]; omega, by rw [inK_snoc, if_neg (by rw [Hin.out]; exact Bool.false_ne_true), Hacc.out]; exact hrow2, HC2, hnx2⟩
          case measure => rw [hrg2.left_eq, hrg.left_eq]; exact hlt
end Go.Proofs.YtgjgeojhhglidaaDoor

namespace Go.Proofs.YtgjgeojhhglidaaDoor
open Go Go.RowKit Go.Lib

/-- Is a path among some? -/
def amongE (l : List ByteArray) (p : ByteArray) : Bool := l.any fun q => decide (p = q)
theorem among_iff {l : List ByteArray} {p : ByteArray} : amongE l p = true ↔ p ∈ l := by
  unfold amongE
  rw [List.any_eq_true]
  constructor
  · rintro ⟨q, hq, e⟩
    rw [decide_eq_true_eq] at e
    rw [e]
    exact hq
  · exact fun h => ⟨p, h, decide_eq_true rfl⟩
/-- Entries without those of some paths. -/
def delsE (es : List Ent) (l : List ByteArray) : List Ent := es.filter fun x => !amongE l x.path
theorem dels_nil (es : List Ent) : delsE es [] = es := List.filter_eq_self.2 fun _ _ => rfl
theorem dels_snoc (es : List Ent) (l : List ByteArray) (p : ByteArray) : delE (delsE es l) p = delsE es (l ++ [p]) := by
  unfold delE delsE
  rw [List.filter_filter]
  refine List.filter_congr fun x _ => ?_
  unfold amongE
  rw [List.any_append]
  cases l.any fun q => decide (x.path = q) <;> by_cases h2 : x.path = p <;> simp [h2]
theorem dels_step {es : List Ent} {l : List ByteArray} {k : Nat} {p : ByteArray} (h : l[k]? = some p) : delE (delsE es (l.take k)) p = delsE es (l.take (k + 1)) := by
  rw [dels_snoc, List.take_add_one, h]
  rfl
theorem dels_all {es : List Ent} {p : ByteArray} {ss : List ByteArray} (h : ss.Perm ((es.map (·.path)).filter (inE p))) : delsE es ss = es.filter fun x => !inE p x.path := by
  unfold delsE
  refine List.filter_congr fun x hx => ?_
  congr 1
  rw [Bool.eq_iff_iff, among_iff, h.mem_iff, List.mem_filter]
  exact ⟨fun h => h.2, fun h => ⟨List.mem_map.2 ⟨x, hx, rfl⟩, h⟩⟩
theorem MapE.del {w : World} {mb : Nat} {es : List Ent} (h : MapE Tryd.prog 9 w mb es) (p : ByteArray) (hp : p.size ≤ maxLen) (ty : TypeId) :
    ∃ w', (Builtin.delete_ #[68, 9] ty #[.map (some mb), .string p]).run Tryd.prog w = .ok (.tuple #[]) w' ∧ MapE Tryd.prog 9 w' mb (delE es p) ∧ w.grownBy w' (some mb) := by
  obtain ⟨w', h1, h2, h3⟩ := World.ownsMap.drop h keyL Tryd.underlying68 (keyS hp) ty
  rw [dat_del] at h2
  exact ⟨w', h1, MapE.of h2, h3.grown⟩
section
variable {P : Program}
theorem wpList_delete_run {ops : Array Oper} {rest : List Oper} {o : Oper} {a : Act} {w : World} {Q : Exit → Act → World → Prop} (hg : o.guard = none) (m x : Operand) (t k : TypeId) (hop : o.op = Op.call { callee := Callee.builtin Builtin.delete, args := #[m, x], argTypes := #[t, k] })
    (mv kv : Value) (hm : a.eval m = mv) (hx : a.eval x = kv) {w' : World} (hr : (Builtin.delete_ #[t, k] o.type #[mv, kv]).run P w = .ok (.tuple #[]) w') (hK : wpList P ops Q rest (a.put o.dst (.tuple #[])) w') :
    wpList P ops Q (o :: rest) a w := by
  refine wpList_plain hg fun K' hK' => ?_
  unfold Oper.wp
  simp [execOp, hop, resolve, invoke, builtin, hm, hx, hr, Result.andThen]
  exact hK' _ _ hK
end
theorem remove_no {f : Fs} {p : ByteArray} (h : findE f.es p = none) : removeF f p = (f, 25) := if_pos (by rw [h]; rfl)
theorem remove_yes {f : Fs} {p : ByteArray} {x : Ent} (h : findE f.es p = some x) : removeF f p = (⟨f.n, f.es.filter fun x => !inE p x.path⟩, 0) := if_neg (by rw [h]; simp)
set_option maxRecDepth 100000 in
set_option maxHeartbeats 3200000 in
/-- **Remove.** -/
theorem fremove_any (fb mb : Nat) (f : Fs) (p : ByteArray) (w : World) (h : FAt w fb mb f) (hok : FsOK f) (hp : p.size ≤ 100000) :
    Calls Tryd.prog 29 #[.pointer (some ⟨fb, 0, none⟩), .string p] w fun e w' => e = .returned (.int .i64 (removeF f p).2) ∧ FAt w' fb mb (removeF f p).1 ∧ Turned (FsS fb mb) w.heap.size w w' := by
  have HG := Lib.hid (fget_any fb mb f p w h (by unfold maxLen; omega))
  have HB := Lib.hid fun W hF => fbelow_any fb mb f p W hF hok hp
  have Hpath := Lib.hid hok.path
  have hfew := hok.few
  cases hf : findE f.es p with
  | none =>
    have hM := remove_no hf
    rw [getF_none hf] at HG
    rw [show noEnt.val = .agg #[.string ⟨#[]⟩, .int .i64 0, .bool false, .string ⟨#[]⟩] from rfl] at HG
    dsimp only at HG
    clear hf
    go_enter Tryd.func29, Tryd.ntmps29
    go_wp2_with fail
    refine HG.out.mono ?_
    rintro e w1 ⟨rfl, hb1⟩
    go_wp2_with fail
    go_ret
    have hbz := hb1.alloc hb1.size (.cells #[.string ⟨#[]⟩, .int .i64 0, .bool false, .string ⟨#[]⟩] 38)
    rw [hM]
    exact ⟨rfl, h.below hbz, Turned.of_below hbz (Nat.le_refl _)⟩
  | some x =>
    have hM := remove_yes hf
    rw [getF_some hf] at HG
    obtain ⟨xp, xi, xd, xs⟩ := x
    rw [show Ent.val ⟨xp, xi, xd, xs⟩ = .agg #[.string xp, .int .i64 xi, .bool xd, .string xs] from rfl] at HG
    dsimp only at HG
    clear hf
    go_enter Tryd.func29, Tryd.ntmps29
    go_wp2_with fail
    refine HG.out.mono ?_
    rintro e w1 ⟨rfl, hb1⟩
    have hbz := hb1.alloc hb1.size (.cells #[.string xp, .int .i64 xi, .bool xd, .string xs] 38)
    have hF1 := h.below hbz
    go_wp2_with fail
    generalize w1.alloc (.cells #[.string xp, .int .i64 xi, .bool xd, .string xs] 38) = W1 at *
    refine (HB.out _ hF1).mono ?_
    rintro e w2 ⟨v, ss, rfl, hov, hperm, hb2⟩
    have hF2 := hF1.below hb2
    have hb2w := hbz.trans (hb2.mono hbz.size)
    obtain ⟨av, cv, rfl, hrow, hcv⟩ := hov.read
    have HR := Lib.hid hrow
    have Hdel := Lib.hid (dels_all hperm)
    have hsl : ss.length ≤ 300 := by
      have h1 := hperm.length_eq
      have h2 := List.length_filter_le (inE p) (f.es.map (·.path))
      rw [List.length_map] at h2
      omega
    have Hss := Lib.hid (show ∀ q ∈ ss, q.size ≤ 400 from fun q hq => by
      obtain ⟨h1, _⟩ := List.mem_filter.1 (hperm.mem_iff.1 hq)
      obtain ⟨z, hz, rfl⟩ := List.mem_map.1 h1
      exact path_size (Hpath.out z hz))
    have Hlow := Lib.hid (show ∀ a0, av = some a0 → w2.heap.size = w2.heap.size ∧ W1.heap.size ≤ a0.block from fun a0 e => ⟨rfl, by
      rcases hov.2 with ⟨hn, _⟩ | ⟨g, cap, cur, hv, hg, _⟩
      · rw [e] at hn; cases hn
      · rw [e] at hv
        cases hv
        exact hg⟩)
    clear hov hrow hperm hF1 HB HG
    have l1 := h.1.1
    have l2 := h.2.lt
    have hne := h.ne
    have hz1 := hbz.size
    have hz2 := hb2.size
    go_wp2_with fail
    go_loopw [8, 22] (fun _ i wr => ∃ k : Nat, k ≤ ss.length ∧ i = .int .i64 k ∧ VarAt wr fb [.int .i64 f.n, .map (some mb)] ∧ MapE Tryd.prog 9 wr mb (delsE f.es (ss.take k)) ∧ Turned (FsS fb mb) w2.heap.size w2 wr) (fun _ i _ => ss.length - (RowKit.intOf i).toNat)
    case atStart => exact ⟨0, Nat.zero_le _, rfl, hF2.1, by rw [List.take_zero, dels_nil]; exact hF2.2, Turned.refl _ _ _⟩
    case round =>
      obtain ⟨k, hk, rfl, hV, hM1, ht⟩ := hrel
      by_cases hlt : k < ss.length
      · obtain ⟨q, hq⟩ := at_some hlt
        obtain ⟨b, off, rfl, hbl, c0⟩ := str_at (HR.out.turned ht (fun ad e => ⟨by
          obtain ⟨b', off', e', hbl', _⟩ := str_at HR.out hq
          rw [e] at e'
          cases e'
          exact hbl', by have := (Hlow.out ad e).2; rintro (e2 | e2) <;> omega⟩)) hq
        have hqs := Hss.out q (List.mem_of_getElem? hq)
        have Hst := Lib.hid (dels_step (es := f.es) hq)
        have k1 := hV.2.2 1 _ rfl
        go_wp2_with (at_delete; obtain ⟨w3, hrun, hM3, hg3⟩ := hM1.del q (by unfold maxLen; omega) _; refine wpList_delete_run rfl _ _ 68 9 rfl _ _ rfl rfl hrun ?_)
        have hV3 := hV.grown hg3 (by simpa using hne)
        have ht3 := ht.trans (Turned.of_grown (S := FsS fb mb) (B := w2.heap.size) hg3 ht.size (fun k e _ => by cases e; exact .inr rfl))
        go_wp2_with fail
        go_roundw
        case rel => exact ⟨k + 1, by omega, by go_num, hV3, by rw [← Hst.out]; exact hM3, ht3⟩
        case measure => simp [RowKit.intOf]; omega
      · obtain rfl : k = ss.length := by omega
        rw [List.take_length, Hdel.out] at hM1
        go_wp2_with fail
        go_ret
        rw [hM]
        exact ⟨rfl, ⟨hV, hM1⟩, (Turned.of_below hb2w (Nat.le_refl _)).trans (ht.mono (by omega) (fun _ _ h => h))⟩
end Go.Proofs.YtgjgeojhhglidaaDoor

namespace Go.Proofs.YtgjgeojhhglidaaDoor
open Go Go.RowKit Go.Lib Go.Sort Go.Shelf

theorem sortsA (m : Nat) : AnyZ.SortsIn Tryd.prog Tryd.sortedA_ren Fence.wide m :=
  ⟨fun blk off cap ss W hH hblk hsz => callsIn_wide.2 (Tryd.slices_Sort_string blk off cap ss W hH hblk hsz),
   fun p cap W => callsIn_wide.2 (Tryd.slices_Sort_string_none p cap W)⟩
theorem keys_any (mb : Nat) (W : World) : Calls Tryd.prog 46 #[.map (some mb)] W fun e w' => e = .returned (.func (.func 65) #[] #[.pointer (some ⟨W.heap.size, 0, none⟩)]) ∧ W.alloc (.cells #[.map (some mb)] 68) = w' :=
  ((callsIn_wide (n := 5)).1 (AnyZ.keys_in Tryd.keysA Fence.wide 5 trivial rfl (some mb) W)).mono fun _ _ h => ⟨h.1, h.2.symm⟩
theorem keys_rows {es : List Ent} (hr : Rising es) {ss : List (List UInt8)} (h : ss.Perm (es.map pB)) : (ss.mergeSort fun x y => decide (x ≤ y)).map encStr = flat strLay (es.map (·.path)) := by
  have h1 : ss.mergeSort (fun x y => decide (x ≤ y)) = es.map pB := (mergeSort_of_perm h).trans (keys_sorted hr)
  rw [h1, flat_strs, List.map_map, List.map_map]
  refine List.map_congr_left fun x _ => ?_
  show Value.string (ba x.path.data.toList) = Value.string x.path
  rw [ba_back]
set_option maxHeartbeats 1000000 in
theorem sorted_any (mb : Nat) (es : List Ent) (W : World) (h : MapE Tryd.prog 9 W mb es) (hr : Rising es) (hl : es.length ≤ 300) :
    Calls Tryd.prog 45 #[.func (.func 65) #[] #[.pointer (some ⟨W.heap.size, 0, none⟩)]] (W.alloc (.cells #[.map (some mb)] 68)) fun e w' =>
      ∃ v, e = .returned v ∧ OwnRows strLay w' W.heap.size 9 v (es.map (·.path)) ∧ Below W.heap.size W w' := by
  have hown : W.ownsMap Tryd.prog 9 rowE mb es.length (datE es) := h
  have hbl := h.lt
  have hsz := dat_size es
  have hseq : SeqGives Fence.wide 2 Tryd.prog 65 #[.pointer (some ⟨W.heap.size, 0, none⟩)] encStr (fun ss => ss.Perm (strKeys (datE es))) (Go.Maps.size (datE es)) (W.alloc (.cells #[.map (some mb)] 68)) :=
    AnyZ.keys_gives (ρ := Tryd.keysA_ren) { Tryd.keysA with } Fence.wide _ trivial rfl (by omega) W.heap.size mb es.length (datE es) _ (by simp) (by simp) (by
      obtain ⟨es', clock, hb, Ft, hs, hD⟩ := hown
      exact ⟨es', clock, (Below.heap_alloc _ _ mb hbl).trans hb, Ft, hs, hD⟩)
  have cS := AnyZ.sorted_in Tryd.sortedA Fence.wide 5 trivial trivial trivial trivial rfl (by omega) (sortsA _) (enters_of Tryd.func64 (by kernel_rfl) rfl) 65 #[.pointer (some ⟨W.heap.size, 0, none⟩)] trivial (enters_of Tryd.func65 (by kernel_rfl) rfl) _ _ (by rw [hsz]; unfold maxLen; omega) (by rw [hsz]; omega) _ hseq
  change CallsIn _ _ Tryd.prog 45 _ _ _ at cS
  refine ((callsIn_wide (n := 5)).1 cS).mono ?_
  rintro e w' ⟨v, ss, rfl, hS, hrow, hnil, hb⟩
  rw [dat_keys] at hS
  refine ⟨v, rfl, ?_, ((Below.refl _ W).alloc (Nat.le_refl _) _).trans (hb.mono (by simp))⟩
  have hlen : ss.length = (es.map (·.path)).length := by rw [hS.length_eq, List.length_map, List.length_map]
  have h2 : OwnRows strLay w' (W.alloc (.cells #[.map (some mb)] 68)).heap.size 9 v (es.map (·.path)) := by
    unfold OwnRows
    rw [← keys_rows hr hS, ← hlen]
    exact hrow
  exact h2.lower (by simp)
end Go.Proofs.YtgjgeojhhglidaaDoor

namespace Go.Proofs.YtgjgeojhhglidaaDoor
open Go Go.RowKit Go.Lib

theorem fentInfo : (Tryd.prog.info? 38).map (fun i => (i.zero, i.size, i.bytes)) = some (some (.agg #[.string ⟨#[]⟩, .int .i64 0, .bool false, .string ⟨#[]⟩]), 4, 48) := by kernel_rfl
set_option maxRecDepth 100000 in
set_option maxHeartbeats 3200000 in
/-- **List.** -/
theorem flist_any (fb mb : Nat) (f : Fs) (w : World) (h : FAt w fb mb f) (hr : Rising f.es) (hl : f.es.length ≤ 300) (hpz : ∀ x ∈ f.es, x.path.size ≤ 400) :
    Calls Tryd.prog 24 #[.pointer (some ⟨fb, 0, none⟩)] w fun e w' => ∃ v, e = .returned v ∧ OwnRows entLay w' w.heap.size 38 v f.es ∧ Below w.heap.size w w' := by
  obtain ⟨i0, hi, hz0, hz1, hz2⟩ := info_parts fentInfo
  have Hi := Lib.hid hi
  have Hz0 := Lib.hid hz0
  have Hz1 := Lib.hid hz1
  have Hz2 := Lib.hid hz2
  clear hi hz0 hz1 hz2
  have HK := Lib.hid (keys_any mb w)
  have HS := Lib.hid (sorted_any mb f.es w h.2 hr hl)
  have Hr := Lib.hid hr
  have Hpz := Lib.hid hpz
  have k1 := h.1.2.2 1 _ rfl
  go_enter Tryd.func24, Tryd.ntmps24
  go_wp2_with fail
  refine HK.out.mono ?_
  rintro e w1 ⟨rfl, rfl⟩
  go_wp2_with fail
  refine HS.out.mono ?_
  rintro e w2 ⟨v, rfl, hov, hb2⟩
  obtain ⟨av, cv, rfl, hrow, hcv⟩ := hov.read
  have HR := Lib.hid hrow
  have hF2 := h.below hb2
  clear hov hrow HK HS k1
  have hml : (f.es.map (·.path)).length = f.es.length := List.length_map _
  rw [hml]
  clear hml
  go_wp2_with fail
  go_loopw [3, 5, 15] (fun o _ i wr => ∃ k : Nat, k ≤ f.es.length ∧ i = .int .i64 k ∧ OwnRows entLay wr w2.heap.size 38 o (f.es.take k) ∧ Below w2.heap.size w2 wr) (fun _ _ i _ => f.es.length - (RowKit.intOf i).toNat)
  case atStart => exact ⟨0, Nat.zero_le _, rfl, OwnRows.nil _ _ _ _, Below.refl _ _⟩
  case round =>
    obtain ⟨k, hk, rfl, ho, hb⟩ := hrel
    by_cases hlt : k < f.es.length
    · obtain ⟨x, hx⟩ := at_some hlt
      have hxm := List.mem_of_getElem? hx
      have hxp : (f.es.map (·.path))[k]? = some x.path := by rw [List.getElem?_map, hx]; rfl
      obtain ⟨b, off, rfl, hbl, c0⟩ := str_at (HR.out.keeps hb) hxp
      have hF3 := hF2.below hb
      have k1 := hF3.1.2.2 1 _ rfl
      have hps := Hpz.out x hxm
      have hlk := hF3.2.look1 (p := x.path) (by unfold maxLen; omega)
      rw [find_of Hr.out hxm] at hlk
      have Hst := Lib.hid (show f.es.take (k + 1) = f.es.take k ++ [x] by rw [List.take_add_one, hx]; rfl)
      have hlen : (f.es.take k).length ≤ 300 := by rw [List.length_take]; omega
      obtain ⟨xp, xi, xd, xs⟩ := x
      rw [show ((some (⟨xp, xi, xd, xs⟩ : Ent)).getD noEnt).val = .agg #[.string xp, .int .i64 xi, .bool xd, .string xs] from rfl] at hlk
      dsimp only at c0 hlk
      clear hx hxm hxp
      generalize f.es.take k = acc at *
      go_wp2_with (at_builtin; refine wpList_append_rows _ rfl _ _ 26 rfl entLay w2.heap.size 38 i0 (.agg #[.string ⟨#[]⟩, .int .i64 0, .bool false, .string ⟨#[]⟩]) 48 Tryd.underlying26 Hi.out Hz0.out Hz1.out Hz2.out rfl (by decide) _ acc rfl (ho.alloc _) ⟨wr.heap.size, 0, none⟩ 1 ⟨xp, xi, xd, xs⟩ rfl (cells_new_at wr wr.heap.size #[.string xp, .int .i64 xi, .bool xd, .string xs] 38 rfl) (by unfold maxLen; omega) (by omega) (by have := hb.size; simp; omega) ?_)
      intro va w5 ho5 hg5 _
      have hb5 := (hb.alloc hb.size (.cells #[.string xp, .int .i64 xi, .bool xd, .string xs] 38)).grown hg5 (by have := hb.size; simp; omega) (fun j ej => (ho.lt ej).1)
      clear hg5 ho hF3
      go_wp2_with fail
      go_roundw
      case rel => exact ⟨k + 1, by omega, by go_num, by rw [Hst.out]; exact ho5, hb5⟩
      case measure => simp [RowKit.intOf]; omega
    · obtain rfl : k = f.es.length := by omega
      rw [List.take_length] at ho
      have hbz := hb2.trans (hb.mono hb2.size)
      go_wp2_with fail
      go_ret
      exact ⟨_, rfl, ho.lower hb2.size, hbz⟩
set_option maxRecDepth 100000 in
theorem flist_nil (w : World) : Calls Tryd.prog 24 #[.pointer none] w fun e w' => e = .returned (.slice none 0 0) ∧ w = w' := by
  go_enter Tryd.func24, Tryd.ntmps24
  go_wp2_with fail
  go_ret
  exact ⟨rfl, rfl⟩
end Go.Proofs.YtgjgeojhhglidaaDoor

namespace Go.Proofs.YtgjgeojhhglidaaDoor
open Go Go.RowKit Go.Lib

/-- An entry behind the first steps of a Rename. -/
def mvK (a b : ByteArray) (l : List ByteArray) (x : Ent) : Ent := if amongE l x.path then movE a b x else x
theorem mvK_in {a b : ByteArray} {l : List ByteArray} {x : Ent} (h : x.path ∈ l) : mvK a b l x = movE a b x := if_pos (among_iff.2 h)
theorem mvK_out {a b : ByteArray} {l : List ByteArray} {x : Ent} (h : ¬ x.path ∈ l) : mvK a b l x = x := if_neg (fun e => h (among_iff.1 e))
theorem ren_start (es : List Ent) (a b : ByteArray) (z : Ent) : z ∈ es ↔ ∃ x ∈ es, z = mvK a b [] x := by
  constructor
  · exact fun h => ⟨z, h, (mvK_out (List.not_mem_nil)).symm⟩
  · rintro ⟨x, hx, e⟩
    rw [e, mvK_out (List.not_mem_nil)]
    exact hx
theorem take_mem {α : Type} {l : List α} {k : Nat} {p : α} (h : l[k]? = some p) (q : α) : q ∈ l.take (k + 1) ↔ q ∈ l.take k ∨ q = p := by
  rw [List.take_add_one, h, Option.toList_some, List.mem_append, List.mem_singleton]
theorem ren_step {f : Fs} (h : FsOK f) {a b : ByteArray} (hb : pathG b.data.toList = true) (hn : findE f.es b = none) {ss : List ByteArray} (hnd : ss.Nodup) (hin : ∀ q ∈ ss, inE a q = true) {k : Nat} {p : ByteArray} (hk : ss[k]? = some p)
    {x0 : Ent} (hx0 : x0 ∈ f.es) (hp : x0.path = p) {R : List Ent} (hR : ∀ z, z ∈ R ↔ ∃ x ∈ f.es, z = mvK a b (ss.take k) x) (z : Ent) : z ∈ putE (delE R p) (movE a b x0) ↔ ∃ x ∈ f.es, z = mvK a b (ss.take (k + 1)) x := by
  have hpi : inE a p = true := hin p (List.mem_of_getElem? hk)
  have hpk : ¬ p ∈ ss.take k := by
    intro e
    obtain ⟨j, e2⟩ := List.mem_iff_getElem?.1 e
    have hj := (List.getElem?_eq_some_iff.1 e2).1
    rw [List.length_take] at hj
    rw [List.getElem?_take_of_lt (by omega)] at e2
    have := nodup_at hnd e2 hk
    omega
  have hmv : movE a b x0 = ⟨newP a b p, x0.id, x0.dir, x0.data⟩ := by
    rw [movE_in (by rw [hp]; exact hpi), hp]
  rw [mem_putE, mem_delE, hR z]
  constructor
  · rintro (rfl | ⟨⟨⟨x, hx, rfl⟩, h2⟩, _⟩)
    · exact ⟨x0, hx0, (mvK_in ((take_mem hk _).2 (.inr hp))).symm⟩
    · refine ⟨x, hx, ?_⟩
      by_cases hxp : x.path = p
      · exfalso
        rw [mvK_out (by rw [hxp]; exact hpk)] at h2
        exact h2 hxp
      · by_cases hm : x.path ∈ ss.take k
        · rw [mvK_in hm, mvK_in ((take_mem hk _).2 (.inl hm))]
        · rw [mvK_out hm, mvK_out (fun e => ((take_mem hk _).1 e).elim hm hxp)]
  · rintro ⟨x, hx, rfl⟩
    by_cases hxp : x.path = p
    · have : x = x0 := rising_one h.rise hx hx0 (hxp.trans hp.symm)
      rw [this]
      exact .inl (mvK_in ((take_mem hk _).2 (.inr hp)))
    · refine .inr ?_
      by_cases hm : x.path ∈ ss.take k
      · rw [mvK_in ((take_mem hk _).2 (.inl hm))]
        have hxi := hin _ (List.mem_of_mem_take hm)
        rw [movE_in hxi, hmv]
        refine ⟨⟨⟨x, hx, by rw [mvK_in hm, movE_in hxi]⟩, ?_⟩, ?_⟩
        · intro e
          exact new_apart h hb hn hxi hx0 (hp.trans e.symm)
        · intro e
          exact hxp (new_inj hxi hpi e)
      · rw [mvK_out (fun e => ((take_mem hk _).1 e).elim hm hxp), hmv]
        exact ⟨⟨⟨x, hx, (mvK_out hm).symm⟩, hxp⟩, new_apart h hb hn hpi hx⟩
theorem ren_end {f : Fs} (h : FsOK f) {a b : ByteArray} (hb : pathG b.data.toList = true) (hn : findE f.es b = none) {ss : List ByteArray} (hp : ss.Perm ((f.es.map (·.path)).filter (inE a))) {R : List Ent} (hr : Rising R)
    (hR : ∀ z, z ∈ R ↔ ∃ x ∈ f.es, z = mvK a b ss x) : R = sortE (f.es.map (movE a b)) := by
  refine renamed_ext h hb hn hr fun z => ?_
  rw [hR z]
  have key : ∀ x ∈ f.es, mvK a b ss x = movE a b x := fun x hx => by
    by_cases hm : x.path ∈ ss
    · exact mvK_in hm
    · rw [mvK_out hm, movE_out]
      refine bool_f fun hi => hm (hp.mem_iff.2 (List.mem_filter.2 ⟨List.mem_map.2 ⟨x, hx, rfl⟩, hi⟩))
  constructor
  · rintro ⟨x, hx, e⟩
    exact ⟨x, hx, e.trans (key x hx)⟩
  · rintro ⟨x, hx, e⟩
    exact ⟨x, hx, e.trans (key x hx).symm⟩
theorem len_put_le (es : List Ent) (x : Ent) : (putE es x).length ≤ es.length + 1 := by
  unfold putE
  rw [len_ins]
  have : (delE es x.path).length ≤ es.length := List.length_filter_le _ _
  omega
theorem len_del_le (es : List Ent) (p : ByteArray) : (delE es p).length ≤ es.length := List.length_filter_le _ _
theorem rename_no {f : Fs} {a b : ByteArray} (h : findE f.es a = none) : renameF f a b = (f, 25) := if_pos (by rw [h]; rfl)
theorem rename_bad {f : Fs} {a b : ByteArray} {x : Ent} (h : findE f.es a = some x) (h1 : pathG b.data.toList = false) : renameF f a b = (f, 23) := by
  unfold renameF
  rw [h, if_neg (by simp), if_pos h1]
theorem rename_twice {f : Fs} {a b : ByteArray} {x y : Ent} (h : findE f.es a = some x) (h1 : pathG b.data.toList = true) (h2 : findE f.es b = some y) : renameF f a b = (f, 24) := by
  unfold renameF
  rw [h, if_neg (by simp), if_neg (by rw [h1]; exact Bool.noConfusion), h2]
  exact if_pos rfl
theorem rename_dir {f : Fs} {a b : ByteArray} {x : Ent} (h : findE f.es a = some x) (h1 : pathG b.data.toList = true) (h2 : findE f.es b = none) (h3 : standsE f.es b = false ∨ underB b a = true) : renameF f a b = (f, 44) := by
  unfold renameF
  rw [h, if_neg (by simp), if_neg (by rw [h1]; exact Bool.noConfusion), h2, if_neg (by simp), if_pos h3]
theorem rename_deep {f : Fs} {a b : ByteArray} {x y : Ent} (h : findE f.es a = some x) (h1 : pathG b.data.toList = true) (h2 : findE f.es b = none) (h3 : standsE f.es b = true) (h4 : underB b a = false) (hy : y ∈ f.es) (h5 : inE a y.path = true) (h6 : pathG (newP a b y.path).data.toList = false) : renameF f a b = (f, 23) := by
  unfold renameF
  rw [h, if_neg (by simp), if_neg (by rw [h1]; exact Bool.noConfusion), h2, if_neg (by simp), if_neg (by rw [h3, h4]; simp), if_pos]
  exact List.any_eq_true.2 ⟨y, hy, by rw [h5, h6]; rfl⟩
theorem newP_size {a b q : ByteArray} (hb : b.size ≤ 400) (hq : q.size ≤ 400) : (newP a b q).size ≤ 800 := by
  unfold newP
  rw [ByteArray.size_append, ByteArray.size_extract]
  omega
theorem in_size {a q : ByteArray} (h : inE a q = true) : a.size ≤ q.size := by
  obtain ⟨t, _, e⟩ := in_tail.1 h
  rw [size_eq, size_eq, e, List.length_append]
  omega
theorem mclone_any {w : World} {mb : Nat} {es : List Ent} (h : MapE Tryd.prog 9 w mb es) : Calls Tryd.prog 50 #[.map (some mb)] w fun e w' => e = .returned (.map (some w.heap.size)) ∧ MapE Tryd.prog 9 w' w.heap.size es ∧ Below w.heap.size w w' ∧ w.heap.size < w'.heap.size :=
  (AnyW.maps_Clone_owns Tryd.cloneA 9 rowE mb es.length (datE es) w h).mono fun _ _ hh => ⟨hh.1, hh.2.1, hh.2.2.2, World.ownsMap.lt hh.2.1⟩
end Go.Proofs.YtgjgeojhhglidaaDoor

namespace Go.Proofs.YtgjgeojhhglidaaDoor
open Go Go.RowKit Go.Lib

section
variable {P : Program}
theorem wpList_update_run {ops : Array Oper} {rest : List Oper} {o : Oper} {a : Act} {w : World} {Q : Exit → Act → World → Prop} (hg : o.guard = none) (m x v : Operand) (t : TypeId) (hop : o.op = Op.mapUpdate t m x v)
    (mv kv vv : Value) (hm : a.eval m = mv) (hx : a.eval x = kv) (hv : a.eval v = vv) {w' : World} (hr : (Instr.mapUpdate t mv kv vv).run P w = .ok () w') (hK : wpList P ops Q rest (a.put o.dst undef) w') :
    wpList P ops Q (o :: rest) a w := by
  refine wpList_plain hg fun K' hK' => ?_
  unfold Oper.wp
  simp [execOp, hop, hm, hx, hv, hr, Result.andThen]
  exact hK' _ _ hK
end
set_option maxRecDepth 100000 in
set_option maxHeartbeats 6400000 in
/-- **Rename.** -/
theorem frename_any (fb mb : Nat) (f : Fs) (a b : ByteArray) (w : World) (h : FAt w fb mb f) (hok : FsOK f) (hpa : a.size ≤ 100000) (hpb : b.size ≤ 100000) (hm : MaxAt w) :
    Calls Tryd.prog 26 #[.pointer (some ⟨fb, 0, none⟩), .string a, .string b] w fun e w' => e = .returned (.int .i64 (renameF f a b).2) ∧ ∃ mb', FAt w' fb mb' (renameF f a b).1 ∧ (mb' = mb ∨ w.heap.size ≤ mb') ∧ Turned (FsS fb mb) w.heap.size w w' := by
  have HG := Lib.hid (fget_any fb mb f a w h (by unfold maxLen; omega))
  have HP := Lib.hid fun W hM => path_any b W hpb hM
  have HPN := Lib.hid fun q W (hq : q.size ≤ 100000) hM => path_any q W hq hM
  have HB := Lib.hid fun W hF => fbelow_any fb mb f a W hF hok hpa
  have Hok := Lib.hid hok
  have hfew := hok.few
  clear hok
  cases hfa : findE f.es a with
  | none =>
    have hM := rename_no (b := b) hfa
    rw [getF_none hfa] at HG
    rw [show noEnt.val = .agg #[.string ⟨#[]⟩, .int .i64 0, .bool false, .string ⟨#[]⟩] from rfl] at HG
    dsimp only at HG
    clear hfa HB HP HPN
    go_enter Tryd.func26, Tryd.ntmps26
    go_wp2_with fail
    refine HG.out.mono ?_
    rintro e w1 ⟨rfl, hb1⟩
    have hbz := hb1.alloc hb1.size (.cells #[.string ⟨#[]⟩, .int .i64 0, .bool false, .string ⟨#[]⟩] 38)
    go_wp2_with fail
    go_ret
    rw [hM]
    exact ⟨rfl, mb, h.below hbz, .inl rfl, Turned.of_below hbz (Nat.le_refl _)⟩
  | some x =>
    rw [getF_some hfa] at HG
    have hxa : x.path = a := (find_some hfa).2
    obtain ⟨xp, xi, xd, xs⟩ := x
    rw [show Ent.val ⟨xp, xi, xd, xs⟩ = .agg #[.string xp, .int .i64 xi, .bool xd, .string xs] from rfl] at HG
    dsimp only at HG hxa
    have ha400 : a.size ≤ 400 := by
      rw [← hxa]
      exact path_size (Hok.out.path _ (find_some hfa).1)
    clear hxa
    cases hpg : pathG b.data.toList with
    | false =>
      have hM := rename_bad hfa hpg
      rw [hpg] at HP
      clear hfa HB HPN
      go_enter Tryd.func26, Tryd.ntmps26
      go_wp2_with fail
      refine HG.out.mono ?_
      rintro e w1 ⟨rfl, hb1⟩
      have hbz := hb1.alloc hb1.size (.cells #[.string xp, .int .i64 xi, .bool xd, .string xs] 38)
      go_wp2_with fail
      generalize w1.alloc (.cells #[.string xp, .int .i64 xi, .bool xd, .string xs] 38) = W1 at *
      refine (HP.out _ (hm.keeps hbz)).mono ?_
      rintro e w2 ⟨rfl, hb2⟩
      have hb2w := hbz.trans (hb2.mono hbz.size)
      have hF2 := h.below hb2w
      go_wp2_with fail
      go_ret
      rw [hM]
      exact ⟨rfl, mb, hF2, .inl rfl, Turned.of_below hb2w (Nat.le_refl _)⟩
    | true =>
      rw [hpg] at HP
      have hb400 := path_size hpg
      cases hfb : findE f.es b with
      | some y =>
        have hM := rename_twice hfa hpg hfb
        obtain ⟨yp, yi, yd, ys⟩ := y
        clear hfa HB HPN
        go_enter Tryd.func26, Tryd.ntmps26
        go_wp2_with fail
        refine HG.out.mono ?_
        rintro e w1 ⟨rfl, hb1⟩
        have hbz := hb1.alloc hb1.size (.cells #[.string xp, .int .i64 xi, .bool xd, .string xs] 38)
        go_wp2_with fail
        generalize w1.alloc (.cells #[.string xp, .int .i64 xi, .bool xd, .string xs] 38) = W1 at *
        refine (HP.out _ (hm.keeps hbz)).mono ?_
        rintro e w2 ⟨rfl, hb2⟩
        have hb2w := hbz.trans (hb2.mono hbz.size)
        have hF2 := h.below hb2w
        have k1 := hF2.1.2.2 1 _ rfl
        have hl := hF2.2.look (p := b) (by unfold maxLen; omega)
        rw [hfb] at hl
        rw [show ((some (⟨yp, yi, yd, ys⟩ : Ent)).getD noEnt).val = .agg #[.string yp, .int .i64 yi, .bool yd, .string ys] from rfl, show (some (⟨yp, yi, yd, ys⟩ : Ent)).isSome = true from rfl] at hl
        have hbq := hb2w.alloc hb2w.size (.cells #[.string yp, .int .i64 yi, .bool yd, .string ys] 38)
        go_wp2_with fail
        go_ret
        rw [hM]
        exact ⟨rfl, mb, h.below hbq, .inl rfl, Turned.of_below hbq (Nat.le_refl _)⟩
      | none =>
        cases hst : standsE f.es b with
        | false =>
          have hM := rename_dir hfa hpg hfb (.inl hst)
          clear hfa HB HPN
          go_enter Tryd.func26, Tryd.ntmps26
          go_wp2_with fail
          refine HG.out.mono ?_
          rintro e w1 ⟨rfl, hb1⟩
          have hbz := hb1.alloc hb1.size (.cells #[.string xp, .int .i64 xi, .bool xd, .string xs] 38)
          go_wp2_with fail
          generalize w1.alloc (.cells #[.string xp, .int .i64 xi, .bool xd, .string xs] 38) = W1 at *
          refine (HP.out _ (hm.keeps hbz)).mono ?_
          rintro e w2 ⟨rfl, hb2⟩
          have hb2w := hbz.trans (hb2.mono hbz.size)
          have hF2 := h.below hb2w
          have k1 := hF2.1.2.2 1 _ rfl
          have hl := hF2.2.look (p := b) (by unfold maxLen; omega)
          rw [hfb] at hl
          rw [show ((none : Option Ent).getD noEnt).val = .agg #[.string ⟨#[]⟩, .int .i64 0, .bool false, .string ⟨#[]⟩] from rfl, show (none : Option Ent).isSome = false from rfl] at hl
          have hb3 := hb2w.alloc hb2w.size (.cells #[.string ⟨#[]⟩, .int .i64 0, .bool false, .string ⟨#[]⟩] 38)
          have hF3 := h.below hb3
          go_wp2_with fail
          clear hF2 k1 hl
          generalize w2.alloc (.cells #[.string ⟨#[]⟩, .int .i64 0, .bool false, .string ⟨#[]⟩] 38) = W3 at *
          have HS := Lib.hid (fstands_any fb mb f b W3 hF3 (by omega))
          rw [hst] at HS
          refine HS.out.mono ?_
          rintro e w4 ⟨rfl, n4, rfl⟩
          have hb4 := belowDrew hb3 n4
          have hF4 : FAt (W3.drewN n4) fb mb f := ⟨hF3.1, hF3.2.same rfl⟩
          generalize W3.drewN n4 = W4 at *
          go_wp2_with fail
          go_ret
          rw [hM]
          exact ⟨rfl, mb, hF4, .inl rfl, Turned.of_below hb4 (Nat.le_refl _)⟩
        | true =>
          have HH := Lib.hid fun W => (Tryd.strings_HasPrefix b (a ++ ⟨#[47]⟩) W).mono fun _ _ h => (⟨h.1, h.2.symm⟩ : _ ∧ W = _)
          rw [pref_under (path_rights hpg)] at HH
          have hA1 : ¬ (a.size + 1 > 9223372036854775807) := by omega
          have hA2 : a.size + 1 ≤ 9223372036854775807 := by omega
          cases hun : underB b a with
          | true =>
            have hM := rename_dir hfa hpg hfb (.inr hun)
            rw [hun] at HH
            clear hfa HB HPN
            go_enter Tryd.func26, Tryd.ntmps26
            go_wp2_with fail
            refine HG.out.mono ?_
            rintro e w1 ⟨rfl, hb1⟩
            have hbz := hb1.alloc hb1.size (.cells #[.string xp, .int .i64 xi, .bool xd, .string xs] 38)
            go_wp2_with fail
            generalize w1.alloc (.cells #[.string xp, .int .i64 xi, .bool xd, .string xs] 38) = W1 at *
            refine (HP.out _ (hm.keeps hbz)).mono ?_
            rintro e w2 ⟨rfl, hb2⟩
            have hb2w := hbz.trans (hb2.mono hbz.size)
            have hF2 := h.below hb2w
            have k1 := hF2.1.2.2 1 _ rfl
            have hl := hF2.2.look (p := b) (by unfold maxLen; omega)
            rw [hfb] at hl
            rw [show ((none : Option Ent).getD noEnt).val = .agg #[.string ⟨#[]⟩, .int .i64 0, .bool false, .string ⟨#[]⟩] from rfl, show (none : Option Ent).isSome = false from rfl] at hl
            have hb3 := hb2w.alloc hb2w.size (.cells #[.string ⟨#[]⟩, .int .i64 0, .bool false, .string ⟨#[]⟩] 38)
            have hF3 := h.below hb3
            go_wp2_with fail
            clear hF2 k1 hl
            generalize w2.alloc (.cells #[.string ⟨#[]⟩, .int .i64 0, .bool false, .string ⟨#[]⟩] 38) = W3 at *
            have HS := Lib.hid (fstands_any fb mb f b W3 hF3 (by omega))
            rw [hst] at HS
            refine HS.out.mono ?_
            rintro e w4 ⟨rfl, n4, rfl⟩
            have hb4 := belowDrew hb3 n4
            have hF4 : FAt (W3.drewN n4) fb mb f := ⟨hF3.1, hF3.2.same rfl⟩
            generalize W3.drewN n4 = W4 at *
            go_wp2_with fail
            refine (HH.out _).mono ?_
            rintro e w5 ⟨rfl, rfl⟩
            go_wp2_with fail
            go_ret
            rw [hM]
            exact ⟨rfl, mb, hF4, .inl rfl, Turned.of_below hb4 (Nat.le_refl _)⟩
          | false =>
            rw [hun] at HH
            have HMay := Lib.hid (show (∀ x ∈ f.es, inE a x.path = true → pathG (newP a b x.path).data.toList = true) → renameF f a b = (⟨f.n, sortE (f.es.map (movE a b))⟩, 0) from fun hall => rename_does ⟨⟨_, hfa⟩, hpg, hfb, hst, hun, hall⟩)
            have HDeep := Lib.hid (show ∀ y ∈ f.es, inE a y.path = true → pathG (newP a b y.path).data.toList = false → renameF f a b = (f, 23) from fun y hy h1 h2 => rename_deep hfa hpg hfb hst hun hy h1 h2)
            have Hpg := Lib.hid hpg
            have Hfb := Lib.hid hfb
            clear hfa hun
            go_enter Tryd.func26, Tryd.ntmps26
            go_wp2_with fail
            refine HG.out.mono ?_
            rintro e w1 ⟨rfl, hb1⟩
            have hbz := hb1.alloc hb1.size (.cells #[.string xp, .int .i64 xi, .bool xd, .string xs] 38)
            go_wp2_with fail
            generalize w1.alloc (.cells #[.string xp, .int .i64 xi, .bool xd, .string xs] 38) = W1 at *
            refine (HP.out _ (hm.keeps hbz)).mono ?_
            rintro e w2 ⟨rfl, hb2⟩
            have hb2w := hbz.trans (hb2.mono hbz.size)
            have hF2 := h.below hb2w
            have k1 := hF2.1.2.2 1 _ rfl
            have hl := hF2.2.look (p := b) (by unfold maxLen; omega)
            rw [hfb] at hl
            rw [show ((none : Option Ent).getD noEnt).val = .agg #[.string ⟨#[]⟩, .int .i64 0, .bool false, .string ⟨#[]⟩] from rfl, show (none : Option Ent).isSome = false from rfl] at hl
            clear hpg hfb
            have hb3 := hb2w.alloc hb2w.size (.cells #[.string ⟨#[]⟩, .int .i64 0, .bool false, .string ⟨#[]⟩] 38)
            have hF3 := h.below hb3
            go_wp2_with fail
            clear hF2 k1 hl
            generalize w2.alloc (.cells #[.string ⟨#[]⟩, .int .i64 0, .bool false, .string ⟨#[]⟩] 38) = W3 at *
            have HS := Lib.hid (fstands_any fb mb f b W3 hF3 (by omega))
            rw [hst] at HS
            refine HS.out.mono ?_
            rintro e w4 ⟨rfl, n4, rfl⟩
            have hb4 := belowDrew hb3 n4
            have hF4 : FAt (W3.drewN n4) fb mb f := ⟨hF3.1, hF3.2.same rfl⟩
            generalize W3.drewN n4 = W4 at *
            go_wp2_with fail
            refine (HH.out _).mono ?_
            rintro e w5 ⟨rfl, rfl⟩
            have k1 := hF4.1.2.2 1 _ rfl
            have HC := Lib.hid (mclone_any hF4.2)
            go_wp2_with fail
            refine HC.out.mono ?_
            rintro e w6 ⟨rfl, hN6, hb6, hs6⟩
            have hb6w := hb4.trans (hb6.mono hb4.size)
            have hF6 := hF4.below hb6
            go_wp2_with fail
            refine (HB.out _ hF6).mono ?_
            rintro e w7 ⟨v, ss, rfl, hov, hperm, hb7⟩
            have hb7w := hb6w.trans (hb7.mono hb6w.size)
            have hF7 := hF6.below hb7
            have hN7 := hN6.keeps hb7 hs6
            obtain ⟨nb, hnb⟩ : ∃ nb, nb = W4.heap.size := ⟨_, rfl⟩
            rw [← hnb] at hN7 hs6 ⊢
            have hnw : w.heap.size ≤ nb := by rw [hnb]; exact hb4.size
            clear hnb
            obtain ⟨av, cv, rfl, hrow, hcv⟩ := hov.read
            have HR := Lib.hid hrow
            have hsl : ss.length ≤ 300 := by
              have h1 := hperm.length_eq
              have h2 := List.length_filter_le (inE a) (f.es.map (·.path))
              rw [List.length_map] at h2
              omega
            have Hss := Lib.hid (show ∀ q ∈ ss, inE a q = true ∧ ∃ x ∈ f.es, x.path = q from fun q hq => by
              obtain ⟨h1, h2⟩ := List.mem_filter.1 (hperm.mem_iff.1 hq)
              obtain ⟨z, hz, e⟩ := List.mem_map.1 h1
              exact ⟨h2, z, hz, e⟩)
            have Hnd := Lib.hid (show ss.Nodup from hperm.nodup_iff.2 (List.Pairwise.filter _ (List.pairwise_map.2 (Hok.out.rise.imp fun hb => befE_ne hb))))
            have Hperm := Lib.hid hperm
            have Hlow := Lib.hid (show ∀ a0, av = some a0 → a0.block < w7.heap.size → a0.block < w7.heap.size ∧ ¬ (fun j => j = nb) a0.block from fun a0 e hlt => ⟨hlt, by
              rcases hov.2 with ⟨hn, _⟩ | ⟨g, cap, cur, hv, hg, _⟩
              · rw [e] at hn; cases hn
              · rw [e] at hv
                cases hv
                show ¬ g = nb
                omega⟩)
            have l1 := h.1.1
            have l2 := h.2.lt
            have hz7 := hb7w.size
            have hz6 := hb7.size
            clear hov hrow hperm k1 HB HC HH hN6 hF6 hF4
            go_wp2_with fail
            go_loopw [13, 14, 56] (fun _ _ i wr => ∃ (k : Nat) (R : List Ent), k ≤ ss.length ∧ i = .int .i64 k ∧ MapE Tryd.prog 9 wr nb R ∧ Rising R ∧ R.length ≤ 300 + k ∧ Hid (∀ z, z ∈ R ↔ ∃ x ∈ f.es, z = mvK a b (ss.take k) x) ∧ Hid (∀ q ∈ ss.take k, pathG (newP a b q).data.toList = true) ∧ Turned (fun j => j = nb) w7.heap.size w7 wr) (fun _ _ i _ => ss.length - (RowKit.intOf i).toNat)
            case atStart => exact ⟨0, f.es, Nat.zero_le _, rfl, hN7, Hok.out.rise, by omega, Lib.hid (fun z => by rw [List.take_zero]; exact ren_start f.es a b z), Lib.hid (by rw [List.take_zero]; intro q hq; cases hq), Turned.refl _ _ _⟩
            case round =>
              obtain ⟨k, R, hk, rfl, hMR, hrR, hlR, HmR, HpR, ht⟩ := hrel
              have hbr : Below w.heap.size w wr := hb7w.trans (ht.below (by omega) (fun j hj e => by have e2 : j = nb := e; omega))
              have hFr := hF7.turned ht (by show ¬ fb = nb; omega) (by show ¬ mb = nb; omega)
              have hzr := ht.size
              by_cases hlt : k < ss.length
              · obtain ⟨q, hq⟩ := at_some hlt
                obtain ⟨b', off, rfl, hbl, c0⟩ := str_at (HR.out.turned ht (fun ad e => Hlow.out ad e (by
                  obtain ⟨b', off', e', hbl', _⟩ := str_at HR.out hq
                  rw [e] at e'
                  cases e'
                  exact hbl'))) hq
                obtain ⟨hqi, x0, hx0, hxq⟩ := Hss.out q (List.mem_of_getElem? hq)
                have Hstep := Lib.hid (fun z => ren_step Hok.out Hpg.out Hfb.out Hnd.out (fun q hq => (Hss.out q hq).1) hq hx0 hxq HmR.out z)
                have Htk := Lib.hid (take_mem hq)
                obtain ⟨yp, yi, yd, ys⟩ := x0
                dsimp only at hxq
                subst hxq
                have hps := path_size (Hok.out.path _ hx0)
                dsimp only at hps
                have has := in_size hqi
                have k1 := hFr.1.2.2 1 _ rfl
                have hlk := hFr.2.look1 (p := yp) (by unfold maxLen; omega)
                have hfx := find_of Hok.out.rise hx0
                dsimp only at hfx
                rw [hfx, show ((some (⟨yp, yi, yd, ys⟩ : Ent)).getD noEnt).val = .agg #[.string yp, .int .i64 yi, .bool yd, .string ys] from rfl] at hlk
                have hs0 : (0 : Int) ≤ (a.size : Int) := by omega
                have hs1 : (a.size : Int) ≤ (yp.size : Int) := by omega
                have hB1 : ¬ (b.size + (yp.size - a.size) > 9223372036854775807) := by omega
                have hB2 : b.size + (yp.size - a.size) ≤ 9223372036854775807 := by omega
                have Hnew := Lib.hid (show newP a b yp = b ++ yp.extract a.size yp.size from rfl)
                have hns := newP_size (a := a) hb400 hps
                have Hdeep := Lib.hid (HDeep.out _ hx0 hqi)
                have hmv := movE_in (b := b) (x := ⟨yp, yi, yd, ys⟩) hqi
                dsimp only at hmv
                have Hmv := Lib.hid hmv
                dsimp only at Hdeep
                rw [hmv] at Hstep
                clear hx0 hfx hq hmv
                have hbx := hbr.alloc hbr.size (.cells #[.string (b ++ yp.extract a.size yp.size), .int .i64 yi, .bool yd, .string ys] 38)
                have HPq := Lib.hid (HPN.out (b ++ yp.extract a.size yp.size) _ (by rw [← Hnew.out]; omega) (hm.keeps hbx))
                rw [← Hnew.out] at HPq hbx
                have hVx := VarAt.new wr #[.string (newP a b yp), .int .i64 yi, .bool yd, .string ys] 38
                have hbwr := (Below.refl wr.heap.size wr).alloc (Nat.le_refl _) (.cells #[.string (newP a b yp), .int .i64 yi, .bool yd, .string ys] 38)
                have hMx := hMR.keeps hbwr hMR.lt
                have htx := ht.alloc hzr (.cells #[.string (newP a b yp), .int .i64 yi, .bool yd, .string ys] 38)
                obtain ⟨bx, hbxe⟩ : ∃ bx, bx = wr.heap.size := ⟨_, rfl⟩
                have hnbx : nb ≠ bx := by have := hMR.lt; omega
                rw [← hbxe] at hVx
                have Hbxe := Lib.hid hbxe
                clear hbxe
                go_wp2_with fail
                rw [← Hnew.out, ← Hbxe.out]
                generalize wr.alloc (.cells #[.string (newP a b yp), .int .i64 yi, .bool yd, .string ys] 38) = Wx at *
                refine HPq.out.mono ?_
                rintro e w9 ⟨rfl, hb9⟩
                have hb9w := hbx.trans (hb9.mono hbx.size)
                have hV9 := hVx.keeps hb9 hVx.1
                have hM9 := hMx.keeps hb9 hMx.lt
                have ht9 := htx.trans (Turned.of_below hb9 htx.size)
                cases hpn : pathG (newP a b yp).data.toList with
                | false =>
                  have hM := Hdeep.out hpn
                  go_wp2_with fail
                  go_ret
                  rw [hM]
                  exact ⟨rfl, mb, h.below hb9w, .inl rfl, Turned.of_below hb9w (Nat.le_refl _)⟩
                | true =>
                  have Hpn := Lib.hid hpn
                  have hb9r := hbwr.trans (hb9.mono hbwr.size)
                  have e0 := (hb9r.cell (p := ⟨b', off + k, none⟩) hbl).trans c0
                  clear c0 hlk k1 hMx hVx htx hbwr hb9
                  obtain ⟨w10, hrun10, hM10, hg10⟩ := hM9.del yp (by unfold maxLen; omega) 0
                  have hV10 := hV9.grown hg10 (by simpa using hnbx.symm)
                  have ht10 := ht9.trans (Turned.of_grown (S := fun j => j = nb) (B := w7.heap.size) hg10 (by have := ht9.size; omega) (fun j e _ => by cases e; rfl))
                  clear hM9
                  have v0 : w10.cell? ⟨bx, 0, none⟩ = some (.string (newP a b yp)) := hV10.2.2 0 _ rfl
                  have v1 : w10.cell? ⟨bx, 1, none⟩ = some (.int .i64 yi) := hV10.2.2 1 _ rfl
                  have v2 : w10.cell? ⟨bx, 2, none⟩ = some (.bool yd) := hV10.2.2 2 _ rfl
                  have v3 : w10.cell? ⟨bx, 3, none⟩ = some (.string ys) := hV10.2.2 3 _ rfl
                  have hlen10 : (delE R yp).length ≤ 700 := by have := len_del_le R yp; omega
                  obtain ⟨w11, hrun11, hM11, hg11⟩ := hM10.put ⟨newP a b yp, yi, yd, ys⟩ (by show (newP a b yp).size ≤ maxLen; unfold maxLen; omega) (by unfold maxLen; omega)
                  replace hrun11 : (Instr.mapUpdate 68 (.map (some nb)) (.string (newP a b yp)) (.agg #[.string (newP a b yp), .int .i64 yi, .bool yd, .string ys])).run Tryd.prog w10 = .ok () w11 := hrun11
                  have ht11 := ht10.trans (Turned.of_grown (S := fun j => j = nb) (B := w7.heap.size) hg11 (by have := ht10.size; omega) (fun j e _ => by cases e; rfl))
                  go_wp2_with (first | (at_delete; refine wpList_delete_run rfl _ _ 68 9 rfl _ _ rfl rfl hrun10 ?_) | (at_mapUpdate; refine wpList_update_run rfl _ _ _ 68 rfl _ _ _ rfl rfl rfl hrun11 ?_))
                  go_roundw
                  case rel =>
                    refine ⟨k + 1, putE (delE R yp) ⟨newP a b yp, yi, yd, ys⟩, by omega, by go_num, hM11, rising_put (rising_filter hrR _) _, ?_, Hstep, Lib.hid (fun q hq => ?_), ht11⟩
                    · have h1 := len_put_le (delE R yp) ⟨newP a b yp, yi, yd, ys⟩
                      have h2 := len_del_le R yp
                      omega
                    · rcases (Htk.out q).1 hq with hq | rfl
                      · exact HpR.out q hq
                      · exact Hpn.out
                  case measure => simp [RowKit.intOf]; omega
              · obtain rfl : k = ss.length := by omega
                have hmR := HmR.out
                have hpR := HpR.out
                rw [List.take_length] at hmR hpR
                have hR := ren_end Hok.out Hpg.out Hfb.out Hperm.out hrR hmR
                have hM := HMay.out fun x hx hi => hpR x.path (Hperm.out.mem_iff.2 (List.mem_filter.2 ⟨List.mem_map.2 ⟨x, hx, rfl⟩, hi⟩))
                rw [hR] at hMR
                have hV := hFr.1
                have g1 := hV.2.1 1
                have k1 := hV.2.2 1 _ rfl
                have hVs := hV.set 1 (.map (some nb)) (by simp)
                dsimp only [List.set] at hVs
                go_wp2_with fail
                go_ret
                rw [hM]
                exact ⟨rfl, nb, ⟨hVs, hMR.same (heap_other _ _ (by omega))⟩, .inr hnw, (Turned.of_below hbr (Nat.le_refl _)).set 1 _ (fun _ => .inl rfl)⟩
end Go.Proofs.YtgjgeojhhglidaaDoor

