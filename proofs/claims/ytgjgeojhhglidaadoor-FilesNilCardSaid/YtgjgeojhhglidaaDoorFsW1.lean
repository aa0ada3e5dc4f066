/-
  A file system in memory; New, Get.
-/
import Derived.Test.YtgjgeojhhglidaaDoorFsRen
import Derived.Test.YtgjgeojhhglidaaDoorPut
import Derived.Test.YtgjgeojhhglidaaDoorShelf
import Derived.Test.YtgjgeojhhglidaaDoorKeys
import Derived.StillTailTactics
namespace Go.Proofs.YtgjgeojhhglidaaDoor
open Go Go.RowKit Go.Lib

/-- A file system lies in block fb, its entries in the map of block mb. -/
def FAt (w : World) (fb mb : Nat) (f : Fs) : Prop := VarAt w fb [.int .i64 f.n, .map (some mb)] ∧ MapE Tryd.prog 9 w mb f.es
theorem FAt.keeps {w w' : World} {fb mb B : Nat} {f : Fs} (h : FAt w fb mb f) (hb : Below B w w') (h1 : fb < B) (h2 : mb < B) : FAt w' fb mb f := ⟨h.1.keeps hb h1, h.2.keeps hb h2⟩
theorem FAt.turned {S : Nat → Prop} {w w' : World} {fb mb : Nat} {f : Fs} (h : FAt w fb mb f) (ht : Turned S w.heap.size w w') (h1 : ¬ S fb) (h2 : ¬ S mb) : FAt w' fb mb f :=
  ⟨h.1.same (ht.block fb h.1.1 h1) ht.size, h.2.same (ht.block mb h.2.lt h2)⟩
theorem FAt.ne {w : World} {fb mb : Nat} {f : Fs} (h : FAt w fb mb f) : fb ≠ mb := by
  rintro rfl
  obtain ⟨es, clock, hb, _⟩ := h.2
  have := h.1.2.2 0 _ rfl
  simp [World.cell?, hb] at this
theorem zeroEnt (w : World) : (zeroValue 38).run Tryd.prog w = .ok noEnt.val w := by kernel_rfl
theorem keyL : Go.Maps.Keyed Tryd.prog 9 := Go.Maps.string_keyed Tryd.underlying9
theorem keyS {p : ByteArray} (h : p.size ≤ maxLen) : keyOf Tryd.prog 9 (.string p) = some (.string p.data.toList) := Go.WideMaps.keyOf_string_mk Tryd.underlying9 h
theorem look_val {es : List Ent} {p : ByteArray} {v : Value} {ps : List MemPlace} (h : rowE v = some ((datE es).atKey (.string p.data.toList) (encEnt noEnt), ps)) : v = ((findE es p).getD noEnt).val := by
  rw [dat_at] at h
  obtain ⟨x, rfl, e⟩ := rowE_inv h
  have e1 := (Prod.mk.inj e).1
  cases hf : findE es p with
  | none =>
    rw [hf] at e1
    have : noEnt = x := encEnt_inj e1
    rw [← this]
    rfl
  | some y =>
    rw [hf] at e1
    have : y = x := encEnt_inj e1
    rw [← this]
    rfl
theorem MapE.look {w : World} {mb : Nat} {es : List Ent} (h : MapE Tryd.prog 9 w mb es) {p : ByteArray} (hp : p.size ≤ maxLen) :
    (Instr.lookup 68 (.map (some mb)) (.string p) true).run Tryd.prog w = .ok (.tuple #[((findE es p).getD noEnt).val, .bool (findE es p).isSome]) w := by
  obtain ⟨v, ps, h1, h2⟩ := World.ownsMap.look_ok h keyL Tryd.underlying68 (zeroEnt w) (rowE_val noEnt) (keyS hp)
  rw [h1, look_val h2, dat_has]
theorem MapE.look1 {w : World} {mb : Nat} {es : List Ent} (h : MapE Tryd.prog 9 w mb es) {p : ByteArray} (hp : p.size ≤ maxLen) :
    (Instr.lookup 68 (.map (some mb)) (.string p) false).run Tryd.prog w = .ok ((findE es p).getD noEnt).val w := by
  obtain ⟨v, ps, h1, h2⟩ := World.ownsMap.lookup h keyL Tryd.underlying68 (zeroEnt w) (rowE_val noEnt) (keyS hp)
  rw [h1, look_val h2]
theorem getF_some {f : Fs} {p : ByteArray} {x : Ent} (h : findE f.es p = some x) : getF f p = (x, 0) := by unfold getF; rw [h]
theorem getF_none {f : Fs} {p : ByteArray} (h : findE f.es p = none) : getF f p = (noEnt, 25) := by unfold getF; rw [h]

set_option maxRecDepth 100000 in
set_option maxHeartbeats 1600000 in
/-- **Get.** -/
theorem fget_any (fb mb : Nat) (f : Fs) (p : ByteArray) (w : World) (h : FAt w fb mb f) (hp : p.size ≤ maxLen) :
    Calls Tryd.prog 21 #[.pointer (some ⟨fb, 0, none⟩), .string p] w fun e w' => e = .returned (.tuple #[(getF f p).1.val, .int .i64 (getF f p).2]) ∧ Below w.heap.size w w' := by
  have hal := (Below.refl w.heap.size w).alloc (Nat.le_refl _) (.cells #[.string ⟨#[]⟩, .int .i64 0, .bool false, .string ⟨#[]⟩] 38)
  have h1 := h.keeps hal h.1.1 h.2.lt
  have hl := h1.2.look hp
  have c1 := h1.1.2.2 1 _ rfl
  have hV := VarAt.new w #[.string ⟨#[]⟩, .int .i64 0, .bool false, .string ⟨#[]⟩] 38
  obtain ⟨bs, hbs⟩ : ∃ bs, bs = w.heap.size := ⟨_, rfl⟩
  rw [← hbs] at hV
  have Hbs := Lib.hid hbs
  clear hbs
  cases hf : findE f.es p with
  | none =>
    rw [hf] at hl
    rw [getF_none hf]
    rw [show ((none : Option Ent).getD noEnt).val = .agg #[.string ⟨#[]⟩, .int .i64 0, .bool false, .string ⟨#[]⟩] from rfl, show (none : Option Ent).isSome = false from rfl] at hl
    show Calls _ _ _ _ fun e w' => e = .returned (.tuple #[.agg #[.string ⟨#[]⟩, .int .i64 0, .bool false, .string ⟨#[]⟩], .int .i64 25]) ∧ _
    clear h h1 hf
    go_enter Tryd.func21, Tryd.ntmps21
    go_wp2_with fail
    refine bodyPost_ret (v := .tuple #[.agg #[.string ⟨#[]⟩, .int .i64 0, .bool false, .string ⟨#[]⟩], .int .i64 25]) (by simp [results, Tryd.results21, go_sem]) rfl ⟨rfl, ?_⟩
    exact hal.alloc (by simp) _
  | some x =>
    obtain ⟨xp, xi, xd, xs⟩ := x
    rw [hf] at hl
    rw [getF_some hf]
    rw [show ((some (⟨xp, xi, xd, xs⟩ : Ent)).getD noEnt).val = .agg #[.string xp, .int .i64 xi, .bool xd, .string xs] from rfl, show (some (⟨xp, xi, xd, xs⟩ : Ent)).isSome = true from rfl] at hl
    show Calls _ _ _ _ fun e w' => e = .returned (.tuple #[.agg #[.string xp, .int .i64 xi, .bool xd, .string xs], .int .i64 0]) ∧ _
    clear h h1 hf
    go_enter Tryd.func21, Tryd.ntmps21
    go_wp2_with fail
    refine bodyPost_ret (v := .tuple #[.agg #[.string xp, .int .i64 xi, .bool xd, .string xs], .int .i64 0]) (by simp [results, Tryd.results21, go_sem]) rfl ⟨rfl, ?_⟩
    exact ((Below.refl w.heap.size w).alloc (Nat.le_refl _) _).alloc (by simp) _
set_option maxRecDepth 100000 in
set_option maxHeartbeats 1600000 in
/-- Get of no file system. -/
theorem fget_nil (p : ByteArray) (w : World) :
    Calls Tryd.prog 21 #[.pointer none, .string p] w fun e w' => e = .returned (.tuple #[noEnt.val, .int .i64 2]) ∧ Below w.heap.size w w' := by
  go_enter Tryd.func21, Tryd.ntmps21
  go_wp2_with fail
  refine bodyPost_ret (v := .tuple #[.agg #[.string ⟨#[]⟩, .int .i64 0, .bool false, .string ⟨#[]⟩], .int .i64 2]) (by simp [results, Tryd.results21, go_sem]) rfl ⟨rfl, ?_⟩
  exact (Below.refl w.heap.size w).alloc (Nat.le_refl _) _
set_option maxRecDepth 100000 in
set_option maxHeartbeats 1600000 in
/-- **New.** -/
theorem fnew_any (w : World) :
    Calls Tryd.prog 13 #[] w fun e w' => e = .returned (.pointer (some ⟨w.heap.size + 1, 0, none⟩)) ∧ FAt w' (w.heap.size + 1) w.heap.size ⟨0, []⟩ ∧ Below w.heap.size w w' ∧ w'.heap.size = w.heap.size + 2 := by
  have hmm := @run_makeMap Tryd.prog
  have hM : MapE Tryd.prog 9 (w.alloc (.map #[] 0)) w.heap.size [] := MapE.made w
  have hB := ((Below.refl w.heap.size w).alloc (Nat.le_refl _) (.map #[] 0)).alloc (by simp) (.cells #[.int .i64 0, .map (some w.heap.size)] 70)
  have hV := VarAt.new (w.alloc (.map #[] 0)) #[.int .i64 0, .map (some w.heap.size)] 70
  have hM2 := hM.keeps ((Below.refl (w.alloc (.map #[] 0)).heap.size (w.alloc (.map #[] 0))).alloc (Nat.le_refl _) (.cells #[.int .i64 0, .map (some w.heap.size)] 70)) hM.lt
  rw [World.size_alloc] at hV
  have H := Lib.hid (show FAt ((w.alloc (.map #[] 0)).alloc (.cells #[.int .i64 0, .map (some w.heap.size)] 70)) (w.heap.size + 1) w.heap.size ⟨0, []⟩ from ⟨hV, hM2⟩)
  clear hV hM2 hM
  go_enter Tryd.func13, Tryd.ntmps13
  go_wp2_with fail
  go_ret
  exact ⟨rfl, H.out, hB, by simp⟩
theorem fieldDir (p s : ByteArray) (i : Int) (d : Bool) (W : World) : (Instr.field 38 (.agg #[.string p, .int .i64 i, .bool d, .string s]) 2).run Tryd.prog W = .ok (.bool d) W := by kernel_rfl
theorem stands_neg {es : List Ent} {p : ByteArray} (h : slashI p < 0) : standsE es p = true := by
  unfold standsE
  rw [decide_eq_true h]
  rfl
theorem stands_pos {es : List Ent} {p : ByteArray} {k : Nat} (h : slashI p = k) : standsE es p = ((findE es (p.extract 0 k)).getD noEnt).dir := by
  unfold standsE isDirE
  rw [decide_eq_false (by omega), h, Int.toNat_natCast]
  cases findE es (p.extract 0 k) <;> rfl
set_option maxRecDepth 100000 in
set_option maxHeartbeats 1600000 in
/-- **stands.** -/
theorem fstands_any (fb mb : Nat) (f : Fs) (p : ByteArray) (w : World) (h : FAt w fb mb f) (hp : p.size ≤ 100000) :
    Calls Tryd.prog 48 #[.pointer (some ⟨fb, 0, none⟩), .string p] w fun e w' => e = .returned (.bool (standsE f.es p)) ∧ ∃ n, w' = w.drewN n := by
  have HI := Lib.hid fun W => (Tryd.strings_LastIndexByte p 47 (by omega) W).mono fun _ _ h => (⟨h.1, h.2.symm⟩ : _ ∧ W = _)
  have hlast : Lib.lastIndexByte p 47 < p.size := by
    rcases lastIndexByte_spec p 47 with ⟨e, _⟩ | ⟨i, hi, e, _⟩ <;> omega
  have hsl : slashI p = Lib.lastIndexByte p 47 := rfl
  have c1 := h.1.2.2 1 _ rfl
  by_cases hn : slashI p < 0
  · have Hr := Lib.hid (stands_neg (es := f.es) hn)
    rw [hsl] at hn
    clear hsl
    generalize Lib.lastIndexByte p 47 = i at *
    go_enter Tryd.func48, Tryd.ntmps48
    go_wp2_with fail
    refine (HI.out _).mono ?_
    rintro e w1 ⟨rfl, rfl⟩
    go_wp2_with fail
    go_quiet (fail)
    go_wp2_with fail
    go_ret
    exact ⟨ret_bool Hr.out.symm, nq, rfl⟩
  · obtain ⟨k, hk⟩ : ∃ k : Nat, slashI p = k := ⟨(slashI p).toNat, by omega⟩
    have Hr := Lib.hid (stands_pos (es := f.es) hk)
    rw [hsl] at hk
    rw [hk] at HI hlast
    have hkp : k < p.size := by omega
    have hk0 : (0 : Int) ≤ (k : Int) := by omega
    have hk1 : (k : Int) ≤ (p.size : Int) := by omega
    have hz : (p.extract 0 k).size ≤ maxLen := by
      rw [ByteArray.size_extract]
      unfold maxLen
      omega
    have hL : ∀ n, (Instr.lookup 68 (.map (some mb)) (.string (p.extract 0 k)) false).run Tryd.prog (w.drewN n) = .ok ((findE f.es (p.extract 0 k)).getD noEnt).val (w.drewN n) := fun n => (MapE.same h.2 (w' := w.drewN n) rfl).look1 hz
    generalize (findE f.es (p.extract 0 k)).getD noEnt = x at *
    obtain ⟨xp, xi, xd, xs⟩ := x
    have hF := fieldDir xp xs xi xd
    rw [show Ent.val ⟨xp, xi, xd, xs⟩ = .agg #[.string xp, .int .i64 xi, .bool xd, .string xs] from rfl] at hL
    clear hk hsl hn hz hlast
    go_enter Tryd.func48, Tryd.ntmps48
    go_wp2_with fail
    refine (HI.out _).mono ?_
    rintro e w1 ⟨rfl, rfl⟩
    go_wp2_with fail
    go_quiet (fail)
    go_wp2_with fail
    go_ret
    exact ⟨ret_bool Hr.out.symm, nq, rfl⟩
end Go.Proofs.YtgjgeojhhglidaaDoor
