/-
  Slices that are only read, as lists. Of no program. A map that the call itself made, as a plain function from keys to values: the laws at make, look-up and store, for keys of any type whose look-ups are decided. Of no program. Slices of structs, as lists: what is read, what is appended to. Of no program.
-/
import Derived.WalkKit
import Derived.Deep.QuietTactic
import Derived.BigQuiet
import Derived.WalkSmall
import Derived.Lib.Hide
import Derived.Lib.TrimByte
import Derived.Maps.Own
import Derived.Maps.OwnOps
import Derived.Maps.AppendAt
import Derived.OwnWalk
namespace Go.Proofs.YtgglheelhbfgiaaGreatDoor
open Go Go.RowKit

theorem ba_ext {a b : ByteArray} (h : a.data.toList = b.data.toList) : a = b := by
  apply ByteArray.ext
  exact Array.toList_inj.1 h
instance baDec : DecidableEq ByteArray := fun a b => decidable_of_iff (a.data.toList = b.data.toList) ⟨ba_ext, fun h => by rw [h]⟩
/-- The cells from a on hold cs (where there are any). -/
def CellsAt (w : World) (a : Option Addr) (cs : List Value) : Prop :=
  ∀ j, j < cs.length → ∃ b off, a = some ⟨b, off, none⟩ ∧ b < w.heap.size ∧ w.cell? ⟨b, off + j, none⟩ = some (cs.getD j undef)
def StrsAt (w : World) (a : Option Addr) (ss : List ByteArray) : Prop :=
  ∀ j, j < ss.length → ∃ b off, a = some ⟨b, off, none⟩ ∧ b < w.heap.size ∧ w.cell? ⟨b, off + j, none⟩ = some (.string (ss.getD j ByteArray.empty))
theorem StrsAt.keeps {w w' : World} {a : Option Addr} {ss : List ByteArray} (h : StrsAt w a ss) (hb : Below w.heap.size w w') : StrsAt w' a ss := by
  intro j hj
  obtain ⟨b, off, e, hlt, hc⟩ := h j hj
  exact ⟨b, off, e, Nat.lt_of_lt_of_le hlt hb.size, by rw [hb.cell (p := ⟨b, off + j, none⟩) hlt]; exact hc⟩
theorem StrsAt.nil (w : World) (a : Option Addr) : StrsAt w a [] := fun _ hj => absurd hj (Nat.not_lt_zero _)
theorem StrsAt.take {w : World} {a : Option Addr} {ss : List ByteArray} (h : StrsAt w a ss) (k : Nat) : StrsAt w a (ss.take k) := by
  intro j hj
  simp only [List.length_take] at hj
  obtain ⟨b, off, e, hlt, hc⟩ := h j (by omega)
  refine ⟨b, off, e, hlt, ?_⟩
  rw [hc]
  simp only [List.getD_eq_getElem?_getD]
  rw [List.getElem?_take_of_lt (by omega)]
/-- What append leaves is such a slice. -/
theorem strsAt_of_ownsRow {w : World} {base : Nat} {e : TypeId} {a : Option Addr} {len cap n : Nat} {ss : List ByteArray} (h : w.ownsRow base e 1 (.slice a len cap) n (ss.map Value.string)) : StrsAt w a ss ∧ len = ss.length ∧ n = ss.length := by
  have hl := h.1
  simp at hl
  rcases h.2 with ⟨hv, hx⟩ | ⟨g, cap', cur, hv, hg, hh, hn, hcap, hsz, htake⟩
  · cases hv
    have : ss = [] := List.length_eq_zero_iff.1 (by omega)
    subst this
    exact ⟨StrsAt.nil _ _, rfl, by simpa using hx⟩
  · cases hv
    refine ⟨fun j hj => ⟨g, 0, rfl, (h.lt g rfl).2, ?_⟩, hl.symm, hl.symm⟩
    have := h.cells (g := g) rfl j (.string (ss.getD j ByteArray.empty)) (by simp [hj])
    have e : ((⟨g, 0, none⟩ : Addr).add j) = ⟨g, 0 + j, none⟩ := by unfold Addr.add; split <;> simp_all
    rwa [e] at this
end Go.Proofs.YtgglheelhbfgiaaGreatDoor

namespace Go.Proofs.YtgglheelhbfgiaaGreatDoor
open Go Go.MapKept Go.RowKit

theorem nodup_at {α : Type} {l : List α} (h : l.Nodup) {i j : Nat} {a : α} (hi : l[i]? = some a) (hj : l[j]? = some a) : i = j := by
  have h' := List.pairwise_iff_getElem.1 h
  obtain ⟨hi2, hi3⟩ := List.getElem?_eq_some_iff.1 hi
  obtain ⟨hj2, hj3⟩ := List.getElem?_eq_some_iff.1 hj
  rcases Nat.lt_trichotomy i j with a | a | a
  · exact absurd (hi3.trans hj3.symm) (h' i j hi2 hj2 a)
  · exact a
  · exact absurd (hj3.trans hi3.symm) (h' j i hj2 hi2 a)

/-- What a key type must give. -/
structure KeyOps (P : Program) (k : TypeId) {κ : Type} (inj : κ → Value) : Prop where
  one : ∀ a b, inj a = inj b → a = b
  check : ∀ w em c, (Instr.checkKey em 10000 k (inj c)).run P w = .ok () w
  find : ∀ w c (es : List MapEntry), (∀ x ∈ es, ∃ c', x.key = inj c') →
    ((Instr.findKey k (inj c) es).run P w = .ok none w ∧ ∀ x ∈ es, x.key ≠ inj c) ∨ ∃ j e0, (Instr.findKey k (inj c) es).run P w = .ok (some (j, e0.val)) w ∧ es[j]? = some e0 ∧ e0.key = inj c
  stays : ∀ w c, (Instr.keyThatStays (inj c) (inj c)).run P w = .ok (inj c) w

theorem keyOps_of_isKey {P : Program} {k : TypeId} {d : TypeDesc} {κ : Type} {inj : κ → Value} (hk : P.underlying k = some d) (hi : ∀ a b, inj a = inj b → a = b) (hd : ∀ c, IsKey d (inj c)) : KeyOps P k inj where
  one := hi
  check := fun _ em c => run_checkKey hk (hd c) em 9999
  find := fun w c es hes => by
    have hks : ∀ y ∈ es, IsKey d y.key := fun y hy => by
      obtain ⟨c', e⟩ := hes y hy
      rw [e]; exact hd c'
    rcases findNow_spec (hd c) es 0 hks with ⟨h1, h2⟩ | ⟨j, e0, h1, h2, h3⟩
    · exact .inl ⟨run_findKey hk h1, h2⟩
    · exact .inr ⟨j, e0, by simpa using run_findKey hk h1, h2, h3⟩
  stays := fun _ c => run_keyThatStays (hd c)

theorem keyOps_string {P : Program} {k : TypeId} (hk : P.underlying k = some .string) : KeyOps P k Value.string :=
  keyOps_of_isKey hk (fun _ _ h => by cases h; rfl) (fun _ => trivial)
theorem keyOps_int {P : Program} {k : TypeId} {q : IntKind} (hk : P.underlying k = some (.int q)) : KeyOps P k (Value.int q) :=
  keyOps_of_isKey hk (fun _ _ h => by cases h; rfl) (fun _ => rfl)

section
variable {P : Program} {κ : Type} [DecidableEq κ] {inj : κ → Value} {w : World} {b : Nat} {g : κ → Option Value}

/-- Block b of w is a map that holds g, and nothing else; it has at most n entries. -/
def MapOf (inj : κ → Value) (w : World) (b n : Nat) (g : κ → Option Value) : Prop :=
  ∃ es clock, w.heap[b]? = some (.map es clock) ∧ es.size ≤ n ∧ (∀ x ∈ es.toList, ∃ c, x.key = inj c) ∧ (es.toList.map (·.key)).Nodup ∧ ∀ c v, g c = some v ↔ ∃ x ∈ es.toList, x.key = inj c ∧ x.val = v

omit [DecidableEq κ] in
theorem MapOf.lt {n : Nat} (h : MapOf inj w b n g) : b < w.heap.size := by
  obtain ⟨es, clock, hb, _⟩ := h
  exact (Array.getElem?_eq_some_iff.1 hb).1
omit [DecidableEq κ] in
theorem MapOf.made (w : World) : MapOf inj (w.alloc (.map #[] 0)) w.heap.size 0 (fun _ => none) :=
  ⟨#[], 0, (MapKept.heap_alloc w _).1, Nat.le_refl _, by simp, by simp, by simp⟩
omit [DecidableEq κ] in
theorem MapOf.of_block {w' : World} {n : Nat} (h : MapOf inj w b n g) (hb : w'.heap[b]? = w.heap[b]?) : MapOf inj w' b n g := by
  obtain ⟨es, clock, h1, r⟩ := h
  exact ⟨es, clock, hb.trans h1, r⟩
omit [DecidableEq κ] in
theorem MapOf.below {w' : World} {B n : Nat} (h : MapOf inj w b n g) (hb : Below B w w') (hlt : b < B) : MapOf inj w' b n g := h.of_block (hb.block b hlt)
omit [DecidableEq κ] in
theorem MapOf.grown {w' : World} {row : Option Nat} {n : Nat} (h : MapOf inj w b n g) (hg : w.grownBy w' row) (hne : some b ≠ row) : MapOf inj w' b n g := h.of_block (hg.block b h.lt hne)
omit [DecidableEq κ] in
theorem MapOf.alloc {n : Nat} (h : MapOf inj w b n g) (o : Obj) : MapOf inj (w.alloc o) b n g := h.grown (World.grownBy_alloc w o none) (by simp)
omit [DecidableEq κ] in
theorem MapOf.drewN {n : Nat} (h : MapOf inj w b n g) (k : Nat) : MapOf inj (w.drewN k) b n g := h.of_block rfl
omit [DecidableEq κ] in
theorem MapOf.congr {n : Nat} {g' : κ → Option Value} (h : MapOf inj w b n g) (e : ∀ c, g' c = g c) : MapOf inj w b n g' := by
  obtain rfl : g' = g := funext e
  exact h
omit [DecidableEq κ] in
theorem MapOf.mono {n n' : Nat} (h : MapOf inj w b n g) (hn : n ≤ n') : MapOf inj w b n' g := by
  obtain ⟨es, clock, h1, h2, r⟩ := h
  exact ⟨es, clock, h1, Nat.le_trans h2 hn, r⟩

omit [DecidableEq κ] in
theorem MapOf.find {k : TypeId} (K : KeyOps P k inj) {n : Nat} (h : MapOf inj w b n g) (c : κ) : ∃ es clock, w.heap[b]? = some (.map es clock) ∧
    ((g c = none ∧ (Instr.findKey k (inj c) es.toList).run P w = .ok none w) ∨ ∃ j v, g c = some v ∧ (Instr.findKey k (inj c) es.toList).run P w = .ok (some (j, v)) w) := by
  obtain ⟨es, clock, hb, _, hk, _, hg⟩ := h
  refine ⟨es, clock, hb, ?_⟩
  rcases K.find w c es.toList hk with ⟨h1, h2⟩ | ⟨j, e0, h1, h2, h3⟩
  · refine .inl ⟨?_, h1⟩
    cases hc : g c with
    | none => rfl
    | some v =>
      obtain ⟨x, hx, he, _⟩ := (hg c v).1 hc
      exact absurd he (h2 x hx)
  · exact .inr ⟨j, e0.val, (hg c e0.val).2 ⟨e0, List.mem_of_getElem? h2, h3, rfl⟩, h1⟩

omit [DecidableEq κ] in
/-- 'm[k]'. -/
theorem MapOf.lookup {t k e : TypeId} {n : Nat} (K : KeyOps P k inj) (ht : P.underlying t = some (.map k e)) (h : MapOf inj w b n g) (c : κ) {z : Value} (hz : (zeroValue e).run P w = .ok z w) :
    (Instr.lookup t (.map (some b)) (inj c) false).run P w = .ok ((g c).getD z) w := by
  obtain ⟨es, clock, hb, h⟩ := h.find K c
  rcases h with ⟨h1, h2⟩ | ⟨j, v, h1, h2⟩
  · simp [Instr.lookup, run_underlying ht, MapKept.run_getObj_map hb, K.check, h2, hz, h1, Result.andThen]
  · simp [Instr.lookup, run_underlying ht, MapKept.run_getObj_map hb, K.check, h2, h1, Result.andThen]
omit [DecidableEq κ] in
/-- 'v, ok := m[k]'. -/
theorem MapOf.lookup_ok {t k e : TypeId} {n : Nat} (K : KeyOps P k inj) (ht : P.underlying t = some (.map k e)) (h : MapOf inj w b n g) (c : κ) {z : Value} (hz : (zeroValue e).run P w = .ok z w) :
    (Instr.lookup t (.map (some b)) (inj c) true).run P w = .ok (.tuple #[(g c).getD z, .bool (g c).isSome]) w := by
  obtain ⟨es, clock, hb, h⟩ := h.find K c
  rcases h with ⟨h1, h2⟩ | ⟨j, v, h1, h2⟩
  · simp [Instr.lookup, run_underlying ht, MapKept.run_getObj_map hb, K.check, h2, hz, h1, Result.andThen]
  · simp [Instr.lookup, run_underlying ht, MapKept.run_getObj_map hb, K.check, h2, h1, Result.andThen]

/-- g, with v at c. -/
def putAt (g : κ → Option Value) (c : κ) (v : Value) : κ → Option Value := fun x => if x = c then some v else g x

/-- 'm[k] = v'. -/
theorem MapOf.update {t k e : TypeId} {n : Nat} (K : KeyOps P k inj) (ht : P.underlying t = some (.map k e)) (h : MapOf inj w b n g) (c : κ) (v : Value) :
    ∃ w', (Instr.mapUpdate t (.map (some b)) (inj c) v).run P w = .ok () w' ∧ MapOf inj w' b (n + 1) (putAt g c v) ∧ w.grownBy w' (some b) := by
  obtain ⟨es, clock, hb, hn, hk, hnd, hg⟩ := h
  have hsz : ∀ o : Obj, w.grownBy { w with heap := w.heap.setIfInBounds b o } (some b) := fun o =>
    ⟨rfl, rfl, rfl, by simp, fun i _ hi => (heap_set hb).2 i (fun e => hi (by rw [e]))⟩
  rcases K.find w c es.toList hk with ⟨h1, h2⟩ | ⟨j, e0, h1, h2, h3⟩
  · refine ⟨{ w with heap := w.heap.setIfInBounds b (.map (es.push { key := inj c, val := v, born := clock }) (clock + 1)) }, ?_, ?_, hsz _⟩
    · simp [Instr.mapUpdate, run_underlying ht, MapKept.run_getObj_map hb, K.check, h1, MapKept.run_setObj_map _ hb, Result.andThen]
    · refine ⟨_, _, (heap_set hb).1, by simp; omega, ?_, ?_, ?_⟩
      · intro x hx
        simp only [Array.toList_push, List.mem_append, List.mem_singleton] at hx
        rcases hx with hx | rfl
        · exact hk x hx
        · exact ⟨c, rfl⟩
      · simp only [Array.toList_push, List.map_append, List.map_cons, List.map_nil]
        rw [List.nodup_append]
        refine ⟨hnd, by simp, fun a ha b hb => ?_⟩
        simp only [List.mem_singleton] at hb
        obtain ⟨x, hx, rfl⟩ := List.mem_map.1 ha
        rw [hb]
        exact h2 x hx
      · intro c' v'
        simp only [putAt, Array.toList_push, List.mem_append, List.mem_singleton]
        by_cases e : c' = c
        · subst e
          rw [if_pos rfl]
          constructor
          · intro h; cases h; exact ⟨_, .inr rfl, rfl, rfl⟩
          · rintro ⟨x, hx | rfl, hx2, hx3⟩
            · exact absurd hx2 (h2 x hx)
            · rw [← hx3]
        · rw [if_neg e, hg]
          constructor
          · rintro ⟨x, hx, r⟩; exact ⟨x, .inl hx, r⟩
          · rintro ⟨x, hx | rfl, hx2, hx3⟩
            · exact ⟨x, hx, hx2, hx3⟩
            · exact absurd (K.one _ _ hx2).symm e
  · have hj : es[j]? = some e0 := by simpa using h2
    obtain ⟨hlt, hj'⟩ := Array.getElem?_eq_some_iff.1 hj
    refine ⟨{ w with heap := w.heap.setIfInBounds b (.map (es.modify j fun e => { e with key := inj c, val := v }) clock) }, ?_, ?_, hsz _⟩
    · simp [Instr.mapUpdate, run_underlying ht, MapKept.run_getObj_map hb, K.check, h1, hj, h3, K.stays, MapKept.run_setObj_map _ hb, Result.andThen]
    · have hl : (es.modify j fun e => { e with key := inj c, val := v }).toList = es.toList.set j { e0 with key := inj c, val := v } := by
        apply List.ext_getElem?
        intro i
        simp only [Array.getElem?_toList, Array.getElem?_modify, List.getElem?_set, Array.length_toList]
        by_cases e : j = i
        · subst e; simp [hlt, hj']
        · simp [e]
      have hkeys : (es.toList.set j { e0 with key := inj c, val := v }).map (·.key) = es.toList.map (·.key) := by
        rw [List.map_set]
        apply List.ext_getElem?
        intro i
        rw [List.getElem?_set]
        split
        · rename_i e; subst e
          simp [hj, h3]; exact hlt
        · rfl
      refine ⟨_, _, (heap_set hb).1, by simp; omega, ?_, ?_, ?_⟩
      · rw [hl]
        intro x hx
        have : x.key ∈ (es.toList.set j { e0 with key := inj c, val := v }).map (·.key) := List.mem_map.2 ⟨x, hx, rfl⟩
        rw [hkeys] at this
        obtain ⟨y, hy, e⟩ := List.mem_map.1 this
        rw [← e]; exact hk y hy
      · rw [hl, hkeys]; exact hnd
      · intro c' v'
        rw [hl]
        have huniq : ∀ x ∈ es.toList, x.key = inj c → x = e0 := by
          intro x hx hxk
          obtain ⟨i, hi⟩ := List.getElem?_of_mem hx
          have hi1 : (es.toList.map (·.key))[i]? = some (inj c) := by rw [List.getElem?_map, hi]; simp [hxk]
          have hj1 : (es.toList.map (·.key))[j]? = some (inj c) := by rw [List.getElem?_map, h2]; simp [h3]
          have : i = j := nodup_at hnd hi1 hj1
          subst this
          rw [hi] at h2
          exact Option.some.inj h2
        simp only [putAt]
        by_cases e : c' = c
        · subst e
          rw [if_pos rfl]
          constructor
          · intro h; cases h
            exact ⟨_, List.mem_set (by simpa using hlt) _, rfl, rfl⟩
          · rintro ⟨x, hx, hx2, hx3⟩
            rcases List.mem_or_eq_of_mem_set hx with hm | rfl
            · have := huniq x hm hx2
              subst this
              obtain ⟨i, hi⟩ := List.getElem?_of_mem hx
              by_cases hij : i = j
              · subst hij
                rw [List.getElem?_set_self (by simpa using hlt)] at hi
                have := Option.some.inj hi
                rw [← hx3, ← this]
              · have hi' : es.toList[i]? = some x := by rwa [List.getElem?_set_ne (Ne.symm hij)] at hi
                have hi1 : (es.toList.map (·.key))[i]? = some (inj c') := by rw [List.getElem?_map, hi']; simp [hx2]
                have hj1 : (es.toList.map (·.key))[j]? = some (inj c') := by rw [List.getElem?_map, h2]; simp [h3]
                exact absurd (nodup_at hnd hi1 hj1) hij
            · rw [← hx3]
        · rw [if_neg e, hg]
          constructor
          · rintro ⟨x, hx, hx2, hx3⟩
            obtain ⟨i, hi⟩ := List.getElem?_of_mem hx
            have hij : i ≠ j := by
              intro hij; subst hij
              rw [hi] at h2
              cases h2
              exact e (K.one _ _ (hx2.symm.trans h3))
            exact ⟨x, List.mem_of_getElem? (i := i) (by rwa [List.getElem?_set_ne (Ne.symm hij)]), hx2, hx3⟩
          · rintro ⟨x, hx, hx2, hx3⟩
            rcases List.mem_or_eq_of_mem_set hx with hm | rfl
            · exact ⟨x, hm, hx2, hx3⟩
            · exact absurd (K.one _ _ hx2).symm e

omit [DecidableEq κ] in
theorem wpList_lookup_of {ops : Array Oper} {rest : List Oper} {o : Oper} {a : Act} {Q : Exit → Act → World → Prop} (hg : o.guard = none) (m x : Operand) (t : TypeId) (hop : o.op = Op.lookup t m x false)
    (k e : TypeId) (K : KeyOps P k inj) (ht : P.underlying t = some (.map k e)) {z : Value} (hz : (zeroValue e).run P w = .ok z w) {n : Nat}
    (hm : a.eval m = .map (some b)) (hown : MapOf inj w b n g) (c : κ) (hx : a.eval x = inj c)
    (hK : wpList P ops Q rest (a.put o.dst ((g c).getD z)) w) : wpList P ops Q (o :: rest) a w := by
  refine wpList_plain hg fun K' hK' => ?_
  have hrun := hown.lookup K ht c hz
  unfold Oper.wp
  simp [execOp, hop, hm, hx, hrun, Result.andThen]
  exact hK' _ _ hK
omit [DecidableEq κ] in
theorem wpList_lookup_ok_of {ops : Array Oper} {rest : List Oper} {o : Oper} {a : Act} {Q : Exit → Act → World → Prop} (hg : o.guard = none) (m x : Operand) (t : TypeId) (hop : o.op = Op.lookup t m x true)
    (k e : TypeId) (K : KeyOps P k inj) (ht : P.underlying t = some (.map k e)) {z : Value} (hz : (zeroValue e).run P w = .ok z w) {n : Nat}
    (hm : a.eval m = .map (some b)) (hown : MapOf inj w b n g) (c : κ) (hx : a.eval x = inj c)
    (hK : wpList P ops Q rest (a.put o.dst (.tuple #[(g c).getD z, .bool (g c).isSome])) w) : wpList P ops Q (o :: rest) a w := by
  refine wpList_plain hg fun K' hK' => ?_
  have hrun := hown.lookup_ok K ht c hz
  unfold Oper.wp
  simp [execOp, hop, hm, hx, hrun, Result.andThen]
  exact hK' _ _ hK
theorem wpList_mapUpdate_of {ops : Array Oper} {rest : List Oper} {o : Oper} {a : Act} {Q : Exit → Act → World → Prop} (hg : o.guard = none) (m x v : Operand) (t : TypeId) (hop : o.op = Op.mapUpdate t m x v)
    (k e : TypeId) (K : KeyOps P k inj) (ht : P.underlying t = some (.map k e)) {n : Nat}
    (hm : a.eval m = .map (some b)) (hown : MapOf inj w b n g) (c : κ) (hx : a.eval x = inj c) (val : Value) (hv : a.eval v = val)
    (hK : ∀ w', MapOf inj w' b (n + 1) (putAt g c val) → w.grownBy w' (some b) → wpList P ops Q rest (a.put o.dst undef) w') : wpList P ops Q (o :: rest) a w := by
  refine wpList_plain hg fun K' hK' => ?_
  obtain ⟨w', hrun, r1, r2⟩ := hown.update K ht c val
  unfold Oper.wp
  simp [execOp, hop, hm, hx, hv, hrun, Result.andThen]
  exact hK' _ _ (hK w' r1 r2)
end
end Go.Proofs.YtgglheelhbfgiaaGreatDoor

namespace Go.Proofs.YtgglheelhbfgiaaGreatDoor
open Go Go.RowKit

/-- How a struct lies in memory: its cells. -/
structure Lay (α : Type) where
  sz : Nat
  cells : α → List Value
  len : ∀ x, (cells x).length = sz
  one : ∀ x, ∀ v ∈ cells x, v.oneCell' = true

section
variable {α : Type}
/-- The cells from a on are those of xs (where there are any). -/
def RowsAt (L : Lay α) (w : World) (a : Option Addr) (xs : List α) : Prop :=
  ∀ j x, xs[j]? = some x → ∃ b off, a = some ⟨b, off, none⟩ ∧ b < w.heap.size ∧ ∀ f v, (L.cells x)[f]? = some v → w.cell? ⟨b, off + j * L.sz + f, none⟩ = some v
theorem RowsAt.keeps {L : Lay α} {w w' : World} {a : Option Addr} {xs : List α} (h : RowsAt L w a xs) (hb : Below w.heap.size w w') : RowsAt L w' a xs := by
  intro j x hj
  obtain ⟨b, off, e, hlt, hc⟩ := h j x hj
  exact ⟨b, off, e, Nat.lt_of_lt_of_le hlt hb.size, fun f v hf => by rw [hb.cell (p := ⟨b, _, none⟩) hlt]; exact hc f v hf⟩
theorem RowsAt.nil (L : Lay α) (w : World) (a : Option Addr) : RowsAt L w a [] := fun j x hj => by simp at hj
theorem RowsAt.of_prefix {L : Lay α} {w : World} {a : Option Addr} {xs ys : List α} (h : RowsAt L w a xs) (hp : ys <+: xs) : RowsAt L w a ys := by
  intro j x hj
  obtain ⟨t, rfl⟩ := hp
  exact h j x (by rw [List.getElem?_append_left (List.getElem?_eq_some_iff.1 hj).1]; exact hj)

def flat (L : Lay α) (xs : List α) : List Value := xs.flatMap L.cells
theorem flat_nil (L : Lay α) : flat L [] = [] := rfl
theorem flat_snoc (L : Lay α) (xs : List α) (x : α) : flat L (xs ++ [x]) = flat L xs ++ L.cells x := by simp [flat]
theorem flat_append (L : Lay α) (xs ys : List α) : flat L (xs ++ ys) = flat L xs ++ flat L ys := by simp [flat]
theorem flat_length (L : Lay α) (xs : List α) : (flat L xs).length = xs.length * L.sz := by
  induction xs with
  | nil => simp [flat]
  | cons x xs ih =>
    have : flat L (x :: xs) = L.cells x ++ flat L xs := by simp [flat]
    rw [this, List.length_append, L.len, ih, List.length_cons, Nat.succ_mul]
    omega
theorem flat_at (L : Lay α) : ∀ (xs : List α) (j : Nat) (x : α), xs[j]? = some x → ∀ f v, (L.cells x)[f]? = some v → (flat L xs)[j * L.sz + f]? = some v := by
  intro xs
  induction xs with
  | nil => intro j x hj; simp at hj
  | cons y xs ih =>
    intro j x hj f v hf
    have e : flat L (y :: xs) = L.cells y ++ flat L xs := by simp [flat]
    rw [e]
    cases j with
    | zero =>
      simp only [List.getElem?_cons_zero, Option.some.injEq] at hj
      subst hj
      have := (List.getElem?_eq_some_iff.1 hf).1
      rw [Nat.zero_mul, Nat.zero_add, List.getElem?_append_left this]
      exact hf
    | succ j =>
      simp only [List.getElem?_cons_succ] at hj
      rw [List.getElem?_append_right (by rw [L.len, Nat.succ_mul]; omega), L.len, show (j + 1) * L.sz + f - L.sz = j * L.sz + f from by rw [Nat.succ_mul]; omega]
      exact ih j x hj f v hf
theorem flat_one (L : Lay α) (xs : List α) : ∀ v ∈ flat L xs, v.oneCell' = true := fun v hv => by
  obtain ⟨x, _, hx⟩ := List.mem_flatMap.1 hv
  exact L.one x v hx

theorem flat_of_at (L : Lay α) (hsz : 0 < L.sz) : ∀ (xs : List α) (j : Nat) (v : Value), (flat L xs)[j]? = some v → ∃ x, xs[j / L.sz]? = some x ∧ (L.cells x)[j % L.sz]? = some v := by
  intro xs
  induction xs with
  | nil => intro j v h; simp [flat] at h
  | cons y xs ih =>
    intro j v h
    have e : flat L (y :: xs) = L.cells y ++ flat L xs := by simp [flat]
    rw [e] at h
    by_cases hj : j < L.sz
    · rw [List.getElem?_append_left (by rw [L.len]; exact hj)] at h
      rw [Nat.div_eq_of_lt hj, Nat.mod_eq_of_lt hj]
      exact ⟨y, rfl, h⟩
    · rw [List.getElem?_append_right (by rw [L.len]; omega), L.len] at h
      obtain ⟨x, h1, h2⟩ := ih _ _ h
      refine ⟨x, ?_, ?_⟩
      · rw [Nat.div_eq_sub_div hsz (by omega)]
        simpa using h1
      · rw [Nat.mod_eq_sub_mod (by omega)]
        exact h2
theorem rows_flat {L : Lay α} {w : World} {ad : Addr} {xs : List α} (hsz : 0 < L.sz) (h : RowsAt L w (some ad) xs) : ∀ j u, (flat L xs)[j]? = some u → w.cell? (ad.add j) = some u := by
  intro j u hj
  obtain ⟨x, h1, h2⟩ := flat_of_at L hsz xs j u hj
  obtain ⟨b, off, e, _, hc⟩ := h _ _ h1
  have := hc _ _ h2
  cases e
  have e2 : (⟨b, off, none⟩ : Addr).add j = ⟨b, off + j / L.sz * L.sz + j % L.sz, none⟩ := by
    have := Nat.div_add_mod j L.sz
    rw [Nat.mul_comm] at this
    unfold Addr.add
    split
    · simp only [Addr.mk.injEq, true_and, and_true]; omega
    · simp only [Addr.mk.injEq, true_and, and_true]; omega
  rw [e2]
  exact this
theorem RowsAt.take {L : Lay α} {w : World} {a : Option Addr} {xs : List α} (h : RowsAt L w a xs) (k : Nat) : RowsAt L w a (xs.take k) := h.of_prefix (List.take_prefix _ _)
theorem RowsAt.drop {L : Lay α} {w : World} {b off : Nat} {xs : List α} (h : RowsAt L w (some ⟨b, off, none⟩) xs) (k : Nat) : RowsAt L w (some ⟨b, off + k * L.sz, none⟩) (xs.drop k) := by
  intro j x hj
  rw [List.getElem?_drop] at hj
  obtain ⟨b', off', e, hlt, hc⟩ := h _ _ hj
  cases e
  refine ⟨b, off + k * L.sz, rfl, hlt, fun f v hf => ?_⟩
  have := hc f v hf
  rwa [show off + (k + j) * L.sz + f = off + k * L.sz + j * L.sz + f by rw [Nat.add_mul]; omega] at this

/-- What the call itself appends to: the slice v is xs. -/
def OwnRows (L : Lay α) (w : World) (base : Nat) (e : TypeId) (v : Value) (xs : List α) : Prop := w.ownsRow base e L.sz v xs.length (flat L xs)
theorem OwnRows.nil (L : Lay α) (w : World) (base : Nat) (e : TypeId) : OwnRows L w base e (.slice none 0 0) [] := World.ownsRow_nil _ _ _ _
theorem OwnRows.below {L : Lay α} {w w' : World} {base : Nat} {e : TypeId} {v : Value} {xs : List α} (h : OwnRows L w base e v xs) (hb : Below w.heap.size w w') : OwnRows L w' base e v xs := by
  refine ⟨h.1, ?_⟩
  rcases h.2 with hn | ⟨g, cap, cur, rfl, hg, hgg, rest⟩
  · exact .inl hn
  · refine .inr ⟨g, cap, cur, rfl, hg, ?_, rest⟩
    rw [hb.block g (Array.getElem?_eq_some_iff.1 hgg).1]
    exact hgg
theorem OwnRows.kept {L : Lay α} {w w' : World} {base : Nat} {e : TypeId} {v : Value} {xs : List α} {row : Option Nat} (h : OwnRows L w base e v xs) (hg : w.grownBy w' row) (hne : v.ownBlock = none ∨ v.ownBlock ≠ row) : OwnRows L w' base e v xs := World.ownsRow.kept h hg hne
theorem OwnRows.alloc {L : Lay α} {w : World} {base : Nat} {e : TypeId} {v : Value} {xs : List α} (h : OwnRows L w base e v xs) (o : Obj) : OwnRows L (w.alloc o) base e v xs := World.ownsRow.alloc h o
theorem OwnRows.lt {L : Lay α} {w : World} {base : Nat} {e : TypeId} {v : Value} {xs : List α} (h : OwnRows L w base e v xs) {k : Nat} (hk : v.ownBlock = some k) : base ≤ k ∧ k < w.heap.size := World.ownsRow.lt h k hk
theorem OwnRows.lower {L : Lay α} {w : World} {base base' : Nat} {e : TypeId} {v : Value} {xs : List α} (h : OwnRows L w base e v xs) (hb : base' ≤ base) : OwnRows L w base' e v xs := by
  refine ⟨h.1, ?_⟩
  rcases h.2 with hn | ⟨g, cap, cur, rfl, hg, rest⟩
  · exact .inl hn
  · exact .inr ⟨g, cap, cur, rfl, Nat.le_trans hb hg, rest⟩
/-- As a slice that is read. -/
theorem OwnRows.read {L : Lay α} {w : World} {base : Nat} {e : TypeId} {v : Value} {xs : List α} (h : OwnRows L w base e v xs) : ∃ a cap, v = .slice a xs.length cap ∧ RowsAt L w a xs ∧ xs.length ≤ cap := by
  rcases h.2 with ⟨rfl, hx⟩ | ⟨g, cap, cur, rfl, hg, hgg, hcap, rest⟩
  · have : xs = [] := List.length_eq_zero_iff.1 (by simpa using hx)
    subst this
    exact ⟨none, 0, rfl, RowsAt.nil _ _ _, Nat.le_refl _⟩
  · refine ⟨some ⟨g, 0, none⟩, cap, rfl, fun j x hj => ⟨g, 0, rfl, (World.ownsRow.lt h g rfl).2, fun f v hf => ?_⟩, hcap⟩
    have := World.ownsRow.cells h (g := g) rfl (j * L.sz + f) v (flat_at L xs j x hj f v hf)
    have e : ((⟨g, 0, none⟩ : Addr).add (j * L.sz + f)) = ⟨g, 0 + j * L.sz + f, none⟩ := by
      unfold Addr.add
      split
      · simp only [Addr.mk.injEq, true_and, and_true]; omega
      · simp only [Addr.mk.injEq, true_and, and_true]; omega
    rwa [e] at this
theorem OwnRows.read_nil {L : Lay α} {w : World} {base : Nat} {e : TypeId} {v : Value} {xs : List α} (h : OwnRows L w base e v xs) : ∃ a cap, v = .slice a xs.length cap ∧ RowsAt L w a xs ∧ xs.length ≤ cap ∧ (a = none → cap = 0) ∧ cap ≤ maxLen := by
  obtain ⟨a, cap, rfl, h1, h2⟩ := h.read
  refine ⟨a, cap, rfl, h1, h2, ?_⟩
  rcases h.2 with ⟨h3, _⟩ | ⟨g, cap', cur, h3, _, _, _, h4, _⟩
  · injection h3 with _ _ h5
    exact ⟨fun _ => h5, by rw [h5]; exact Nat.zero_le _⟩
  · injection h3 with h4' _ h5
    exact ⟨fun h => (by rw [h] at h4'; cases h4'), by rw [h5]; exact h4⟩
/-- A map's block and a row's are never one. -/
theorem OwnRows.ne_map {L : Lay α} {w : World} {base : Nat} {e : TypeId} {v : Value} {xs : List α} (h : OwnRows L w base e v xs) {κ : Type} {inj : κ → Value} {b n : Nat} {g : κ → Option Value} (hm : MapOf inj w b n g) : some b ≠ v.ownBlock := by
  intro he
  rcases h.2 with ⟨rfl, _⟩ | ⟨q, cap, cur, rfl, hq, hqq, _⟩
  · cases he
  · simp only [Value.ownBlock, Option.some.injEq] at he
    subst he
    obtain ⟨es, clock, hb, _⟩ := hm
    rw [hqq] at hb
    cases hb

/-- Cells in a block that has just been laid. -/
theorem cells_new (w : World) (cs : Array Value) (t : TypeId) : ∀ j u, cs.toList[j]? = some u → (w.alloc (.cells cs t)).cell? ((⟨w.heap.size, 0, none⟩ : Addr).add j) = some u := by
  intro j u hj
  have hc : cs[j]? = some u := by simpa using hj
  unfold Addr.add
  split
  · rename_i h0; subst h0; simpa using hc
  · simpa using hc
end

theorem cells_new_at (w : World) (b : Nat) (cs : Array Value) (t : TypeId) (hb : b = w.heap.size) : ∀ j u, cs.toList[j]? = some u → (w.alloc (.cells cs t)).cell? ((⟨b, 0, none⟩ : Addr).add j) = some u := by
  subst hb; exact cells_new w cs t
/-- A slice that has just been laid. -/
theorem rows_new {α : Type} (L : Lay α) (w : World) (b : Nat) (cs : Array Value) (t : TypeId) (xs : List α) (hb : b = w.heap.size) (hcs : cs.toList = flat L xs) : RowsAt L (w.alloc (.cells cs t)) (some ⟨b, 0, none⟩) xs := by
  subst hb
  intro j x hj
  refine ⟨_, 0, rfl, by simp, fun f v hf => ?_⟩
  have := flat_at L xs j x hj f v hf
  rw [← hcs] at this
  have := cells_new w cs t _ v this
  have e : ((⟨w.heap.size, 0, none⟩ : Addr).add (j * L.sz + f)) = ⟨w.heap.size, 0 + j * L.sz + f, none⟩ := by
    unfold Addr.add
    split
    · simp only [Addr.mk.injEq, true_and, and_true]; omega
    · simp only [Addr.mk.injEq, true_and, and_true]; omega
  rwa [e] at this
/-- Behind a call, a block that was laid just ahead of it. -/
theorem after_box {w w1 : World} {o : Obj} (hb : Below (w.alloc o).heap.size (w.alloc o) w1) : (∀ i, w1.cell? ⟨w.heap.size, i, none⟩ = (w.alloc o).cell? ⟨w.heap.size, i, none⟩) ∧ (∀ i, w1.frozen? ⟨w.heap.size, i, none⟩ = (w.alloc o).frozen? ⟨w.heap.size, i, none⟩) ∧ w.heap.size < w1.heap.size :=
  ⟨fun i => hb.cell (p := ⟨w.heap.size, i, none⟩) (by simp), fun i => hb.frozen (p := ⟨w.heap.size, i, none⟩) (by simp), by have := hb.size; simp at this; omega⟩
theorem below_box {w w1 : World} {o : Obj} (hb : Below (w.alloc o).heap.size (w.alloc o) w1) : Below w.heap.size w w1 :=
  ((Below.refl _ _).alloc (Nat.le_refl _) _).trans (hb.mono (by simp))

section
variable {α : Type} {P : Program} (w : World)
/-- 'out = append(out, x)', at the operation. -/
theorem wpList_append_rows {ops : Array Oper} {rest : List Oper} {o : Oper} {a : Act} {Q : Exit → Act → World → Prop} (hgd : o.guard = none) (s x : Operand) (t : TypeId)
    (ho : o.op = .call { callee := .builtin .append, args := #[s, x], argTypes := #[t, t] })
    (L : Lay α) (base : Nat) (e : TypeId) (i : TypeInfo) (z : Value) (bytes : Nat) (ht : P.underlying t = some (.slice e)) (hi : P.info? e = some i) (hz : i.zero = some z)
    (hsize : i.size = L.sz) (hby : i.bytes = bytes) (hzs : z.cells.size = L.sz) (hsz : 0 < L.sz)
    (v : Value) (xs : List α) (hs : a.eval s = v) (hown : OwnRows L w base e v xs)
    (ad : Addr) (c : Nat) (y : α) (hx : a.eval x = .slice (some ad) 1 c) (hnews : ∀ j u, (L.cells y)[j]? = some u → w.cell? (ad.add j) = some u)
    (h63 : xs.length + 1 ≤ maxLen) (hbytes : (xs.length + 1) * bytes ≤ 140737488355328) (hbase : base ≤ w.heap.size)
    (h : ∀ v' w', OwnRows L w' base e v' (xs ++ [y]) → w.grownBy w' v.ownBlock → (v'.ownBlock = v.ownBlock ∨ v'.ownBlock = some w.heap.size) → wpList P ops Q rest (a.put o.dst v') w') :
    wpList P ops Q (o :: rest) a w := by
  refine wpList_append_own_at (w := w) hgd s x t ho base e i z L.sz bytes ht hi hz hsize hby hzs hsz v xs.length (flat L xs) hs hown ad 1 c (L.cells y) hx (by rw [L.len]; omega) hnews (L.one y) h63 hbytes hbase ?_
  intro v' w' h1 h2 _ h4
  refine h v' w' ?_ h2 h4
  unfold OwnRows
  rw [flat_snoc, List.length_append]
  exact h1
end
end Go.Proofs.YtgglheelhbfgiaaGreatDoor

