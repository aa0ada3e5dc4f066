/-
  A map that the call itself made, as a plain function from keys to values: the laws at make, look-up and store, for keys of any type whose look-ups are decided. Of no program.
-/
import Derived.Maps.Own
import Derived.Maps.OwnOps
import Derived.WalkSmall
namespace Go.Proofs.YtgglheelhbfgiaaGreatDoor
open Go Go.MapKept Go.RowKit

theorem nodup_at {α : Type} {l : List α} (h : l.Nodup) {i j : Nat} {a : α} (hi : l[i]? = some a) (hj : l[j]? = some a) : i = j := by
  have h' := List.pairwise_iff_getElem.1 h
  obtain ⟨hi2, hi3⟩ := List.getElem?_eq_some_iff.1 hi
  obtain ⟨hj2, hj3⟩ := List.getElem?_eq_some_iff.1 hj
  rcases Nat.lt_trichotomy i j with a | a | a
  · exact absurd (hi3.trans hj3.symm) (h' i j hi2 hj2 a)
  · exact a
  · exact absurd (hj3.trans hi3.symm) (h' j i hj2 hi2 a)

/-- What a key type must give. -/
structure KeyOps (P : Program) (k : TypeId) {κ : Type} (inj : κ → Value) : Prop where
  one : ∀ a b, inj a = inj b → a = b
  check : ∀ w em c, (Instr.checkKey em 10000 k (inj c)).run P w = .ok () w
  find : ∀ w c (es : List MapEntry), (∀ x ∈ es, ∃ c', x.key = inj c') →
    ((Instr.findKey k (inj c) es).run P w = .ok none w ∧ ∀ x ∈ es, x.key ≠ inj c) ∨ ∃ j e0, (Instr.findKey k (inj c) es).run P w = .ok (some (j, e0.val)) w ∧ es[j]? = some e0 ∧ e0.key = inj c
  stays : ∀ w c, (Instr.keyThatStays (inj c) (inj c)).run P w = .ok (inj c) w

theorem keyOps_of_isKey {P : Program} {k : TypeId} {d : TypeDesc} {κ : Type} {inj : κ → Value} (hk : P.underlying k = some d) (hi : ∀ a b, inj a = inj b → a = b) (hd : ∀ c, IsKey d (inj c)) : KeyOps P k inj where
  one := hi
  check := fun _ em c => run_checkKey hk (hd c) em 9999
  find := fun w c es hes => by
    have hks : ∀ y ∈ es, IsKey d y.key := fun y hy => by
      obtain ⟨c', e⟩ := hes y hy
      rw [e]; exact hd c'
    rcases findNow_spec (hd c) es 0 hks with ⟨h1, h2⟩ | ⟨j, e0, h1, h2, h3⟩
    · exact .inl ⟨run_findKey hk h1, h2⟩
    · exact .inr ⟨j, e0, by simpa using run_findKey hk h1, h2, h3⟩
  stays := fun _ c => run_keyThatStays (hd c)

theorem keyOps_string {P : Program} {k : TypeId} (hk : P.underlying k = some .string) : KeyOps P k Value.string :=
  keyOps_of_isKey hk (fun _ _ h => by cases h; rfl) (fun _ => trivial)
theorem keyOps_int {P : Program} {k : TypeId} {q : IntKind} (hk : P.underlying k = some (.int q)) : KeyOps P k (Value.int q) :=
  keyOps_of_isKey hk (fun _ _ h => by cases h; rfl) (fun _ => rfl)

section
variable {P : Program} {κ : Type} [DecidableEq κ] {inj : κ → Value} {w : World} {b : Nat} {g : κ → Option Value}

/-- Block b of w is a map that holds g, and nothing else; it has at most n entries. -/
def MapOf (inj : κ → Value) (w : World) (b n : Nat) (g : κ → Option Value) : Prop :=
  ∃ es clock, w.heap[b]? = some (.map es clock) ∧ es.size ≤ n ∧ (∀ x ∈ es.toList, ∃ c, x.key = inj c) ∧ (es.toList.map (·.key)).Nodup ∧ ∀ c v, g c = some v ↔ ∃ x ∈ es.toList, x.key = inj c ∧ x.val = v

omit [DecidableEq κ] in
theorem MapOf.lt {n : Nat} (h : MapOf inj w b n g) : b < w.heap.size := by
  obtain ⟨es, clock, hb, _⟩ := h
  exact (Array.getElem?_eq_some_iff.1 hb).1
omit [DecidableEq κ] in
theorem MapOf.made (w : World) : MapOf inj (w.alloc (.map #[] 0)) w.heap.size 0 (fun _ => none) :=
  ⟨#[], 0, (MapKept.heap_alloc w _).1, Nat.le_refl _, by simp, by simp, by simp⟩
omit [DecidableEq κ] in
theorem MapOf.of_block {w' : World} {n : Nat} (h : MapOf inj w b n g) (hb : w'.heap[b]? = w.heap[b]?) : MapOf inj w' b n g := by
  obtain ⟨es, clock, h1, r⟩ := h
  exact ⟨es, clock, hb.trans h1, r⟩
omit [DecidableEq κ] in
theorem MapOf.below {w' : World} {B n : Nat} (h : MapOf inj w b n g) (hb : Below B w w') (hlt : b < B) : MapOf inj w' b n g := h.of_block (hb.block b hlt)
omit [DecidableEq κ] in
theorem MapOf.grown {w' : World} {row : Option Nat} {n : Nat} (h : MapOf inj w b n g) (hg : w.grownBy w' row) (hne : some b ≠ row) : MapOf inj w' b n g := h.of_block (hg.block b h.lt hne)
omit [DecidableEq κ] in
theorem MapOf.alloc {n : Nat} (h : MapOf inj w b n g) (o : Obj) : MapOf inj (w.alloc o) b n g := h.grown (World.grownBy_alloc w o none) (by simp)
omit [DecidableEq κ] in
theorem MapOf.drewN {n : Nat} (h : MapOf inj w b n g) (k : Nat) : MapOf inj (w.drewN k) b n g := h.of_block rfl
omit [DecidableEq κ] in
theorem MapOf.congr {n : Nat} {g' : κ → Option Value} (h : MapOf inj w b n g) (e : ∀ c, g' c = g c) : MapOf inj w b n g' := by
  obtain rfl : g' = g := funext e
  exact h
omit [DecidableEq κ] in
theorem MapOf.mono {n n' : Nat} (h : MapOf inj w b n g) (hn : n ≤ n') : MapOf inj w b n' g := by
  obtain ⟨es, clock, h1, h2, r⟩ := h
  exact ⟨es, clock, h1, Nat.le_trans h2 hn, r⟩

omit [DecidableEq κ] in
theorem MapOf.find {k : TypeId} (K : KeyOps P k inj) {n : Nat} (h : MapOf inj w b n g) (c : κ) : ∃ es clock, w.heap[b]? = some (.map es clock) ∧
    ((g c = none ∧ (Instr.findKey k (inj c) es.toList).run P w = .ok none w) ∨ ∃ j v, g c = some v ∧ (Instr.findKey k (inj c) es.toList).run P w = .ok (some (j, v)) w) := by
  obtain ⟨es, clock, hb, _, hk, _, hg⟩ := h
  refine ⟨es, clock, hb, ?_⟩
  rcases K.find w c es.toList hk with ⟨h1, h2⟩ | ⟨j, e0, h1, h2, h3⟩
  · refine .inl ⟨?_, h1⟩
    cases hc : g c with
    | none => rfl
    | some v =>
      obtain ⟨x, hx, he, _⟩ := (hg c v).1 hc
      exact absurd he (h2 x hx)
  · exact .inr ⟨j, e0.val, (hg c e0.val).2 ⟨e0, List.mem_of_getElem? h2, h3, rfl⟩, h1⟩

omit [DecidableEq κ] in
/-- 'm[k]'. -/
theorem MapOf.lookup {t k e : TypeId} {n : Nat} (K : KeyOps P k inj) (ht : P.underlying t = some (.map k e)) (h : MapOf inj w b n g) (c : κ) {z : Value} (hz : (zeroValue e).run P w = .ok z w) :
    (Instr.lookup t (.map (some b)) (inj c) false).run P w = .ok ((g c).getD z) w := by
  obtain ⟨es, clock, hb, h⟩ := h.find K c
  rcases h with ⟨h1, h2⟩ | ⟨j, v, h1, h2⟩
  · simp [Instr.lookup, run_underlying ht, MapKept.run_getObj_map hb, K.check, h2, hz, h1, Result.andThen]
  · simp [Instr.lookup, run_underlying ht, MapKept.run_getObj_map hb, K.check, h2, h1, Result.andThen]
omit [DecidableEq κ] in
/-- 'v, ok := m[k]'. -/
theorem MapOf.lookup_ok {t k e : TypeId} {n : Nat} (K : KeyOps P k inj) (ht : P.underlying t = some (.map k e)) (h : MapOf inj w b n g) (c : κ) {z : Value} (hz : (zeroValue e).run P w = .ok z w) :
    (Instr.lookup t (.map (some b)) (inj c) true).run P w = .ok (.tuple #[(g c).getD z, .bool (g c).isSome]) w := by
  obtain ⟨es, clock, hb, h⟩ := h.find K c
  rcases h with ⟨h1, h2⟩ | ⟨j, v, h1, h2⟩
  · simp [Instr.lookup, run_underlying ht, MapKept.run_getObj_map hb, K.check, h2, hz, h1, Result.andThen]
  · simp [Instr.lookup, run_underlying ht, MapKept.run_getObj_map hb, K.check, h2, h1, Result.andThen]

/-- g, with v at c. -/
def putAt (g : κ → Option Value) (c : κ) (v : Value) : κ → Option Value := fun x => if x = c then some v else g x

/-- 'm[k] = v'. -/
theorem MapOf.update {t k e : TypeId} {n : Nat} (K : KeyOps P k inj) (ht : P.underlying t = some (.map k e)) (h : MapOf inj w b n g) (c : κ) (v : Value) :
    ∃ w', (Instr.mapUpdate t (.map (some b)) (inj c) v).run P w = .ok () w' ∧ MapOf inj w' b (n + 1) (putAt g c v) ∧ w.grownBy w' (some b) := by
  obtain ⟨es, clock, hb, hn, hk, hnd, hg⟩ := h
  have hsz : ∀ o : Obj, w.grownBy { w with heap := w.heap.setIfInBounds b o } (some b) := fun o =>
    ⟨rfl, rfl, rfl, by simp, fun i _ hi => (heap_set hb).2 i (fun e => hi (by rw [e]))⟩
  rcases K.find w c es.toList hk with ⟨h1, h2⟩ | ⟨j, e0, h1, h2, h3⟩
  · refine ⟨{ w with heap := w.heap.setIfInBounds b (.map (es.push { key := inj c, val := v, born := clock }) (clock + 1)) }, ?_, ?_, hsz _⟩
    · simp [Instr.mapUpdate, run_underlying ht, MapKept.run_getObj_map hb, K.check, h1, MapKept.run_setObj_map _ hb, Result.andThen]
    · refine ⟨_, _, (heap_set hb).1, by simp; omega, ?_, ?_, ?_⟩
      · intro x hx
        simp only [Array.toList_push, List.mem_append, List.mem_singleton] at hx
        rcases hx with hx | rfl
        · exact hk x hx
        · exact ⟨c, rfl⟩
      · simp only [Array.toList_push, List.map_append, List.map_cons, List.map_nil]
        rw [List.nodup_append]
        refine ⟨hnd, by simp, fun a ha b hb => ?_⟩
        simp only [List.mem_singleton] at hb
        obtain ⟨x, hx, rfl⟩ := List.mem_map.1 ha
        rw [hb]
        exact h2 x hx
      · intro c' v'
        simp only [putAt, Array.toList_push, List.mem_append, List.mem_singleton]
        by_cases e : c' = c
        · subst e
          rw [if_pos rfl]
          constructor
          · intro h; cases h; exact ⟨_, .inr rfl, rfl, rfl⟩
          · rintro ⟨x, hx | rfl, hx2, hx3⟩
            · exact absurd hx2 (h2 x hx)
            · rw [← hx3]
        · rw [if_neg e, hg]
          constructor
          · rintro ⟨x, hx, r⟩; exact ⟨x, .inl hx, r⟩
          · rintro ⟨x, hx | rfl, hx2, hx3⟩
            · exact ⟨x, hx, hx2, hx3⟩
            · exact absurd (K.one _ _ hx2).symm e
  · have hj : es[j]? = some e0 := by simpa using h2
    obtain ⟨hlt, hj'⟩ := Array.getElem?_eq_some_iff.1 hj
    refine ⟨{ w with heap := w.heap.setIfInBounds b (.map (es.modify j fun e => { e with key := inj c, val := v }) clock) }, ?_, ?_, hsz _⟩
    · simp [Instr.mapUpdate, run_underlying ht, MapKept.run_getObj_map hb, K.check, h1, hj, h3, K.stays, MapKept.run_setObj_map _ hb, Result.andThen]
    · have hl : (es.modify j fun e => { e with key := inj c, val := v }).toList = es.toList.set j { e0 with key := inj c, val := v } := by
        apply List.ext_getElem?
        intro i
        simp only [Array.getElem?_toList, Array.getElem?_modify, List.getElem?_set, Array.length_toList]
        by_cases e : j = i
        · subst e; simp [hlt, hj']
        · simp [e]
      have hkeys : (es.toList.set j { e0 with key := inj c, val := v }).map (·.key) = es.toList.map (·.key) := by
        rw [List.map_set]
        apply List.ext_getElem?
        intro i
        rw [List.getElem?_set]
        split
        · rename_i e; subst e
          simp [hj, h3]; exact hlt
        · rfl
      refine ⟨_, _, (heap_set hb).1, by simp; omega, ?_, ?_, ?_⟩
      · rw [hl]
        intro x hx
        have : x.key ∈ (es.toList.set j { e0 with key := inj c, val := v }).map (·.key) := List.mem_map.2 ⟨x, hx, rfl⟩
        rw [hkeys] at this
        obtain ⟨y, hy, e⟩ := List.mem_map.1 this
        rw [← e]; exact hk y hy
      · rw [hl, hkeys]; exact hnd
      · intro c' v'
        rw [hl]
        have huniq : ∀ x ∈ es.toList, x.key = inj c → x = e0 := by
          intro x hx hxk
          obtain ⟨i, hi⟩ := List.getElem?_of_mem hx
          have hi1 : (es.toList.map (·.key))[i]? = some (inj c) := by rw [List.getElem?_map, hi]; simp [hxk]
          have hj1 : (es.toList.map (·.key))[j]? = some (inj c) := by rw [List.getElem?_map, h2]; simp [h3]
          have : i = j := nodup_at hnd hi1 hj1
          subst this
          rw [hi] at h2
          exact Option.some.inj h2
        simp only [putAt]
        by_cases e : c' = c
        · subst e
          rw [if_pos rfl]
          constructor
          · intro h; cases h
            exact ⟨_, List.mem_set (by simpa using hlt) _, rfl, rfl⟩
          · rintro ⟨x, hx, hx2, hx3⟩
            rcases List.mem_or_eq_of_mem_set hx with hm | rfl
            · have := huniq x hm hx2
              subst this
              obtain ⟨i, hi⟩ := List.getElem?_of_mem hx
              by_cases hij : i = j
              · subst hij
                rw [List.getElem?_set_self (by simpa using hlt)] at hi
                have := Option.some.inj hi
                rw [← hx3, ← this]
              · have hi' : es.toList[i]? = some x := by rwa [List.getElem?_set_ne (Ne.symm hij)] at hi
                have hi1 : (es.toList.map (·.key))[i]? = some (inj c') := by rw [List.getElem?_map, hi']; simp [hx2]
                have hj1 : (es.toList.map (·.key))[j]? = some (inj c') := by rw [List.getElem?_map, h2]; simp [h3]
                exact absurd (nodup_at hnd hi1 hj1) hij
            · rw [← hx3]
        · rw [if_neg e, hg]
          constructor
          · rintro ⟨x, hx, hx2, hx3⟩
            obtain ⟨i, hi⟩ := List.getElem?_of_mem hx
            have hij : i ≠ j := by
              intro hij; subst hij
              rw [hi] at h2
              cases h2
              exact e (K.one _ _ (hx2.symm.trans h3))
            exact ⟨x, List.mem_of_getElem? (i := i) (by rwa [List.getElem?_set_ne (Ne.symm hij)]), hx2, hx3⟩
          · rintro ⟨x, hx, hx2, hx3⟩
            rcases List.mem_or_eq_of_mem_set hx with hm | rfl
            · exact ⟨x, hm, hx2, hx3⟩
            · exact absurd (K.one _ _ hx2).symm e

omit [DecidableEq κ] in
theorem wpList_lookup_of {ops : Array Oper} {rest : List Oper} {o : Oper} {a : Act} {Q : Exit → Act → World → Prop} (hg : o.guard = none) (m x : Operand) (t : TypeId) (hop : o.op = Op.lookup t m x false)
    (k e : TypeId) (K : KeyOps P k inj) (ht : P.underlying t = some (.map k e)) {z : Value} (hz : (zeroValue e).run P w = .ok z w) {n : Nat}
    (hm : a.eval m = .map (some b)) (hown : MapOf inj w b n g) (c : κ) (hx : a.eval x = inj c)
    (hK : wpList P ops Q rest (a.put o.dst ((g c).getD z)) w) : wpList P ops Q (o :: rest) a w := by
  refine wpList_plain hg fun K' hK' => ?_
  have hrun := hown.lookup K ht c hz
  unfold Oper.wp
  simp [execOp, hop, hm, hx, hrun, Result.andThen]
  exact hK' _ _ hK
omit [DecidableEq κ] in
theorem wpList_lookup_ok_of {ops : Array Oper} {rest : List Oper} {o : Oper} {a : Act} {Q : Exit → Act → World → Prop} (hg : o.guard = none) (m x : Operand) (t : TypeId) (hop : o.op = Op.lookup t m x true)
    (k e : TypeId) (K : KeyOps P k inj) (ht : P.underlying t = some (.map k e)) {z : Value} (hz : (zeroValue e).run P w = .ok z w) {n : Nat}
    (hm : a.eval m = .map (some b)) (hown : MapOf inj w b n g) (c : κ) (hx : a.eval x = inj c)
    (hK : wpList P ops Q rest (a.put o.dst (.tuple #[(g c).getD z, .bool (g c).isSome])) w) : wpList P ops Q (o :: rest) a w := by
  refine wpList_plain hg fun K' hK' => ?_
  have hrun := hown.lookup_ok K ht c hz
  unfold Oper.wp
  simp [execOp, hop, hm, hx, hrun, Result.andThen]
  exact hK' _ _ hK
theorem wpList_mapUpdate_of {ops : Array Oper} {rest : List Oper} {o : Oper} {a : Act} {Q : Exit → Act → World → Prop} (hg : o.guard = none) (m x v : Operand) (t : TypeId) (hop : o.op = Op.mapUpdate t m x v)
    (k e : TypeId) (K : KeyOps P k inj) (ht : P.underlying t = some (.map k e)) {n : Nat}
    (hm : a.eval m = .map (some b)) (hown : MapOf inj w b n g) (c : κ) (hx : a.eval x = inj c) (val : Value) (hv : a.eval v = val)
    (hK : ∀ w', MapOf inj w' b (n + 1) (putAt g c val) → w.grownBy w' (some b) → wpList P ops Q rest (a.put o.dst undef) w') : wpList P ops Q (o :: rest) a w := by
  refine wpList_plain hg fun K' hK' => ?_
  obtain ⟨w', hrun, r1, r2⟩ := hown.update K ht c val
  unfold Oper.wp
  simp [execOp, hop, hm, hx, hv, hrun, Result.andThen]
  exact hK' _ _ (hK w' r1 r2)
end
end Go.Proofs.YtgglheelhbfgiaaGreatDoor
