/-
  A list of lists of texts that came in: opened. Of no program. What a law keeps of a disk, a log and its own lists from call to call. oplog.Open.
-/
import Derived.Test.YtgglheelhbfgiaaGreatDoorMg3
import Derived.Test.YtgglheelhbfgiaaGreatDoorMg9
import Derived.Test.YtgglheelhbfgiaaGreatDoorMg23
import Derived.Deep.CutRange
namespace Go.Proofs.YtgglheelhbfgiaaGreatDoor
open Go Go.RowKit Go.ChangeShapes Go.WideShapes Go.ChangeAt Go.Deep
section
variable {H : Type} {enc : TypeId × Value → H} {P : Program} {w : World} {base : Nat} {spare : Nat → Bool} {held : Bool}
/-- A slice that is read as a datum, wherever it lies. -/
theorem rows_of_trodS {α : Type} {L : Lay α} {W : World} {t e : TypeId} {lv : List (Nat × TypeId)} {v : Value} {x : DataW H × List MemPlace} {fuel : Nat} (hL : 0 < L.sz)
    (ht : P.underlying t = some (.slice e)) (hlv : leaves P 4 e = lv) (hC : P.cellsOf e = L.sz)
    (dec : ∀ g : Nat → Value, (∀ q ∈ lv, ∃ n x, DataW.trod enc P W 0 (fun _ => true) true n q.2 [g q.1] = some x) → ∃ x, ∀ f v, (L.cells x)[f]? = some v → g f = v)
    (hf : DataW.trod enc P W 0 (fun _ => true) true fuel t [v] = some x) (hlt : ∀ z ∈ x.2, z.block < W.heap.size) (hin : ∀ q ∈ lv, q.1 < L.sz) :
    ∃ (a : Option Addr) (cap : Nat) (xs : List α), v = .slice a xs.length cap ∧ RowsAt L W a xs ∧ xs.length ≤ cap ∧ (a = none → cap = 0) := by
  rcases open_slice ht hf with ⟨hcs, hx⟩ | ⟨a, len', cap', m, n, D, Pl, hcs, _, hl, hm, hmm, hx, hi⟩
  · cases hcs
    exact ⟨none, 0, [], rfl, RowsAt.nil _ _ _, Nat.le_refl _, fun _ => rfl⟩
  · cases hcs
    simp only [if_true] at hmm
    obtain rfl := hmm.symm
    subst hx
    simp only at hlt
    rw [hC] at hlt
    obtain ⟨xs, hxl, hxs⟩ := list_of_choice (α := α) len' (fun i x => ∀ f v, (L.cells x)[f]? = some v → W.cell? (a.add (i * L.sz + f)) = some v) (by
      intro i hil
      obtain ⟨cs', hc, htr⟩ := hi i (by omega)
      rw [hC] at hc
      obtain ⟨_, hcl, hat⟩ := World.cells?_some hc
      obtain ⟨x, hx⟩ := dec (fun k => cs'.getD k default) (by
        intro q hq
        obtain ⟨n', y, hy⟩ := trod_leaf 4 e n cs' _ (by rw [hcl, hC]) htr q (by rw [hlv]; exact hq)
        have hq1 := hin q hq
        refine ⟨n', y, ?_⟩
        have e1 : (cs'.drop q.1).take 1 = [cs'.getD q.1 default] := by
          rw [List.drop_eq_getElem_cons (by omega)]
          rw [List.getD_eq_getElem?_getD, List.getElem?_eq_getElem (show q.1 < cs'.length by omega)]
          rfl
        rw [← e1]
        exact hy)
      refine ⟨x, fun f v hv => ?_⟩
      have hfl : f < L.sz := by rw [← L.len x]; exact (List.getElem?_eq_some_iff.1 hv).1
      have hcell := hat f hfl
      have := hx f v hv
      rw [List.getD_eq_getElem?_getD, List.getElem?_eq_getElem (by omega), Option.getD_some] at this
      rw [← Go.Deep.add_add, hcell, List.getElem?_eq_getElem (by omega), this])
    refine ⟨some a, _, xs, by rw [hxl], ?_, by omega, fun h => by cases h⟩
    intro k x hk
    have hkl := (List.getElem?_eq_some_iff.1 hk).1
    have h0 := hxs k x hk
    obtain ⟨x0, hx0⟩ : ∃ x0, xs[0]? = some x0 := ⟨_, List.getElem?_eq_getElem (by omega)⟩
    have hc0 : (L.cells x0)[0]? = some ((L.cells x0)[0]'(by rw [L.len]; omega)) := List.getElem?_eq_getElem (by rw [L.len]; omega)
    have hc0' := hxs 0 x0 hx0 0 _ hc0
    have hspot : a.spot = none := by
      cases hsp : a.spot with
      | none => rfl
      | some q =>
        exfalso
        have hq : (a.add (0 * L.sz + 0)).spot = some q := by unfold Addr.add; rw [if_pos (by omega)]; exact hsp
        generalize a.add (0 * L.sz + 0) = z at hc0' hq
        unfold World.cell? at hc0'
        rw [hq] at hc0'
        revert hc0'
        split <;> simp
    obtain ⟨b, off, sp⟩ := a
    simp only at hspot
    subst hspot
    refine ⟨b, off, rfl, ?_, fun f v hv => ?_⟩
    · have hin : MemPlace.cell b off ∈ MemPlace.row (⟨b, off, none⟩ : Addr) (cap' * L.sz) ++ (List.range cap').flatMap Pl := by
        refine List.mem_append_left _ ?_
        simp only [MemPlace.row, List.mem_map, List.mem_range]
        refine ⟨0, ?_, by simp⟩
        exact Nat.mul_pos (by omega) hL
      exact hlt _ hin
    · have := h0 f v hv
      have e : ((⟨b, off, none⟩ : Addr).add (k * L.sz + f)) = ⟨b, off + k * L.sz + f, none⟩ := by
        unfold Addr.add
        split <;> simp_all <;> omega
      rwa [e] at this
theorem dec_strS {W : World} {s : TypeId} (hus : P.underlying s = some .string) (g : Nat → Value) (hg : ∀ q ∈ [(0, s)], ∃ n x, DataW.trod enc P W 0 (fun _ => true) true n q.2 [g q.1] = some x) :
    ∃ x, ∀ f v, (strLay.cells x)[f]? = some v → g f = v := by
  obtain ⟨n0, x0, h0⟩ := hg (0, s) (by simp)
  obtain ⟨s0, e0, _⟩ := DataW.trod_string hus h0
  simp only [List.cons.injEq, and_true] at e0
  refine ⟨s0, fun f v hv => ?_⟩
  match f, hv with
  | 0, hv => rw [e0]; exact Option.some.inj hv
/-- A list of texts as one value. -/
structure PutV where
  a : Option Addr
  cap : Nat
  rs : List ByteArray
def putLay : Lay PutV := { sz := 1, cells := fun x => [.slice x.a x.rs.length x.cap], len := fun _ => rfl, one := fun x v hv => by simp only [List.mem_cons, List.mem_nil_iff, or_false] at hv; rw [hv]; rfl }
theorem put_at {w : World} {a : Option Addr} {xs : List PutV} (h : RowsAt putLay w a xs) {k : Nat} {x : PutV} (hk : xs[k]? = some x) : ∃ b off, a = some ⟨b, off, none⟩ ∧ b < w.heap.size ∧ w.cell? ⟨b, off + k, none⟩ = some (.slice x.a x.rs.length x.cap) := by
  obtain ⟨b, off, e, hlt, hc⟩ := h k x hk
  have := hc 0 _ rfl
  refine ⟨b, off, e, hlt, ?_⟩
  simpa [putLay] using this
theorem arg_strss {W : World} {ts : List TypeId} {ds : List (DataW H)} {j : Nat} {t e s : TypeId} {v : Value} {d : DataW H} {p : List MemPlace}
    (ht : P.underlying t = some (.slice e)) (hC : P.cellsOf e = 1) (he : P.underlying e = some (.slice s)) (hus : P.underlying s = some .string) (hvs : leaves P 4 s = [(0, s)]) (hcs : P.cellsOf s = 1)
    (hv : Value.okWide P W .any base t v) (h : DataW.Trod enc P W 0 (fun _ => true) true t v d p) (hlt : ∀ x ∈ p, x.block < W.heap.size) (hsz : (DataW.weightsEach P ts ds).all (· ≤ reachBytes) = true) (h1 : ts[j]? = some t) (h2 : ds[j]? = some d) :
    ∃ (a : Option Addr) (cap : Nat) (xs : List PutV), v = .slice a xs.length cap ∧ (RowsAt putLay W a xs ∧ ∀ x ∈ xs, RowsAt strLay W x.a x.rs ∧ (x.a = none → x.cap = 0)) ∧ xs.length * P.bytesOf e ≤ 140737488351232 := by
  obtain ⟨a0, len, cap, rfl⟩ := okWide_slice ht hv
  obtain ⟨fuel, hf⟩ := h
  rcases open_slice ht hf with ⟨hcs', hx⟩ | ⟨a, len', cap', m, n, D, Pl, hcs', _, hl, hm, hmm, hx, hi⟩
  · have hcs'' : Value.slice a0 len cap = .slice none 0 0 := by simpa [Value.cells] using hcs'
    cases hcs''
    exact ⟨none, 0, [], rfl, ⟨RowsAt.nil _ _ _, fun x hx => by cases hx⟩, by simp⟩
  · have hcs'' : Value.slice a0 len cap = .slice (some a) len' cap' := by simpa [Value.cells] using hcs'
    cases hcs''
    simp only [if_true] at hmm
    obtain rfl := hmm.symm
    obtain ⟨rfl, hp⟩ := Prod.mk.inj hx
    have hs := sized_slice hsz h1 h2 ht
    simp only [List.length_map, List.length_range, reachBytes] at hs
    rw [hC] at hp
    obtain ⟨xs, hxl, hxs⟩ := list_of_choice (α := PutV) len (fun i x => W.cell? (a.add (i * 1)) = some (.slice x.a x.rs.length x.cap) ∧ RowsAt strLay W x.a x.rs ∧ (x.a = none → x.cap = 0)) (by
      intro i hil
      obtain ⟨cs1, hc, htr⟩ := hi i (by omega)
      rw [hC] at hc
      obtain ⟨_, hcl, hat⟩ := World.cells?_some hc
      obtain ⟨u, rfl⟩ : ∃ u, cs1 = [u] := by
        match cs1, hcl with
        | [u], _ => exact ⟨u, rfl⟩
      obtain ⟨ai, ci, rs, rfl, hr, _, hnil⟩ := rows_of_trodS (L := strLay) (by decide) he hvs hcs (dec_strS hus) htr (fun z hz => hlt z (by
        rw [hp]
        exact List.mem_append_right _ (List.mem_flatMap.2 ⟨i, List.mem_range.2 (by omega), hz⟩))) (by simp [strLay])
      refine ⟨⟨ai, ci, rs⟩, ?_, hr, hnil⟩
      have := hat 0 (by omega)
      rw [Go.Deep.add_add] at this
      simpa using this)
    refine ⟨some a, _, xs, by rw [hxl], ⟨?_, fun x hx => ?_⟩, ?_⟩
    · intro k x hk
      have h0 := (hxs k x hk).1
      have hkl := (List.getElem?_eq_some_iff.1 hk).1
      have hspot : a.spot = none := by
        cases hsp : a.spot with
        | none => rfl
        | some q =>
          exfalso
          obtain ⟨x0, hx0⟩ : ∃ x0, xs[0]? = some x0 := ⟨_, List.getElem?_eq_getElem (by omega)⟩
          have hc0' := (hxs 0 x0 hx0).1
          have hq : (a.add (0 * 1)).spot = some q := by unfold Addr.add; rw [if_pos (by omega)]; exact hsp
          generalize a.add (0 * 1) = z at hc0' hq
          unfold World.cell? at hc0'
          rw [hq] at hc0'
          revert hc0'
          split <;> simp
      obtain ⟨b, off, sp⟩ := a
      simp only at hspot
      subst hspot
      refine ⟨b, off, rfl, ?_, fun f v hv => ?_⟩
      · have hin : MemPlace.cell b off ∈ p := by
          rw [hp]
          refine List.mem_append_left _ ?_
          simp only [MemPlace.row, List.mem_map, List.mem_range]
          exact ⟨0, by omega, by simp⟩
        exact hlt _ hin
      · match f, hv with
        | 0, hv =>
          cases hv
          have e : ((⟨b, off, none⟩ : Addr).add (k * 1)) = ⟨b, off + k * putLay.sz + 0, none⟩ := by
            unfold Addr.add
            split <;> simp_all [putLay]
          rwa [e] at h0
    · obtain ⟨i, hi'⟩ := List.getElem?_of_mem hx
      exact (hxs i x hi').2
    · rw [hxl]
      exact Nat.le_trans (Nat.mul_le_mul_right _ (Nat.le_add_right _ _)) hs
end
end Go.Proofs.YtgglheelhbfgiaaGreatDoor

namespace Go.Proofs.YtgglheelhbfgiaaGreatDoor
open Go Go.RowKit Go.Lib
/-- From w to w' only the disk's blocks and the log's have turned; what is the disk's behind that was, or is new. -/
structure SStp (w w' : World) (T T' : Nat → Prop) (lb : Nat) : Prop where
  turned : Turned (fun k => T k ∨ k = lb) w.heap.size w w'
  grow : ∀ k, T' k → T k ∨ w.heap.size ≤ k
theorem SStp.of_below {w w' : World} {T : Nat → Prop} {lb : Nat} (hb : Below w.heap.size w w') : SStp w w' T T lb := ⟨Turned.of_below hb (Nat.le_refl _), fun _ h => .inl h⟩
theorem LIn.go {w0 w w' : World} {db lb : Nat} {T : Nat → Prop} {d d' : Dk} {l : Lg} (h : LIn w0 w db lb T d l) (hg : DGo w db T d' w') : ∃ T', LIn w0 w' db lb T' d' l ∧ SStp w w' T T' lb := by
  obtain ⟨h1, h2⟩ := hg
  have hlb : ¬ GrowS T w w' lb := fun hh => by
    rcases hh with hh | hh
    · exact h.lbT hh
    · have := h.log.1
      omega
  refine ⟨_, ⟨h1, h.log.same (h2.block lb h.log.1 h.lbT) h2.size, fun k hk => ?_, hlb, h.lbo, below_turned h.below h2 h.old⟩, ⟨h2.mono (Nat.le_refl _) fun _ _ h => .inl h, fun k hk => hk.imp id And.left⟩⟩
  rcases hk with hk | hk
  · exact h.old k hk
  · exact Nat.le_trans h.below.size hk.1
theorem LIn.stp_app {w0 w w' : World} {db lb : Nat} {T : Nat → Prop} {d : Dk} {l : Lg} {r : Lg × Dk × Int} {e : Ending} (h : LIn w0 w db lb T d l) (ha : AppIs w db lb T r e w') : e = .returned (.int .i64 r.2.2) ∧ ∃ T', LIn w0 w' db lb T' r.2.1 r.1 ∧ SStp w w' T T' lb := by
  obtain ⟨h1, T', h2, h3, h4⟩ := h.app ha
  exact ⟨h1, T', h2, h4, h3⟩
/-- A list of the law's own. -/
structure RowIn (w0 w : World) (T : Nat → Prop) (lb : Nat) (v : Value) (xs : List ByteArray) : Prop where
  row : OwnRows strLay w w0.heap.size 9 v xs
  out : ∀ j, v.ownBlock = some j → ¬ T j ∧ j ≠ lb
theorem RowIn.step {w0 w w' : World} {T T' : Nat → Prop} {lb : Nat} {v : Value} {xs : List ByteArray} (h : RowIn w0 w T lb v xs) (hs : SStp w w' T T' lb) : RowIn w0 w' T' lb v xs := by
  refine ⟨h.row.turnedOther hs.turned fun k hk hh => ?_, fun j hj => ⟨fun hT => ?_, (h.out j hj).2⟩⟩
  · rcases hh with hh | hh
    · exact (h.out k hk).1 hh
    · exact (h.out k hk).2 hh
  · rcases hs.grow j hT with hh | hh
    · exact (h.out j hj).1 hh
    · have := (h.row.lt hj).2
      omega
theorem RowIn.nil (w0 w : World) (T : Nat → Prop) (lb : Nat) : RowIn w0 w T lb (.slice none 0 0) [] := ⟨OwnRows.nil _ _ _ _, fun j hj => by cases hj⟩
theorem OpenIs.one {w w' : World} {db : Nat} {S : Nat → Prop} {o : OpenR} {e : Ending} (h : OpenIs w db S o e w') : ∃ T po v, DOk w' db T o.d ∧ (∀ k, T k → S k ∨ w.heap.size ≤ k) ∧ Turned S w.heap.size w w' ∧ e = .returned (.tuple #[.pointer po, v, .int .i64 o.err]) ∧
    ∀ l, o.log = some l → ∃ lb, po = some ⟨lb, 0, Option.none⟩ ∧ LAt w' lb db l ∧ w.heap.size ≤ lb ∧ ¬ T lb ∧ OwnRows strLay w' w.heap.size 9 v o.out ∧ ∀ k, v.ownBlock = some k → ¬ T k ∧ k ≠ lb := by
  obtain ⟨T, h1, h2, h3, ⟨h4, _, rfl⟩ | ⟨l, lb, v, h4, rfl, h5⟩⟩ := h
  · exact ⟨T, _, _, h1, h2, h3, rfl, fun l hl => by rw [h4] at hl; cases hl⟩
  · exact ⟨T, _, v, h1, h2, h3, rfl, fun l' hl => by
      rw [h4] at hl
      cases hl
      exact ⟨lb, rfl, h5⟩⟩
/-- Behind an opening the old log stands as it stood. -/
theorem LIn.opened {w0 w w' : World} {db lb : Nat} {T T' : Nat → Prop} {d d' : Dk} {l : Lg} (h : LIn w0 w db lb T d l) (h1 : DOk w' db T' d') (h2 : ∀ k, T' k → T k ∨ w.heap.size ≤ k) (h3 : Turned T w.heap.size w w') : LIn w0 w' db lb T' d' l ∧ SStp w w' T T' lb :=
  ⟨⟨h1, h.log.same (h3.block lb h.log.1 h.lbT) h3.size, fun k hk => (h2 k hk).elim (h.old k) fun hk => Nat.le_trans h.below.size hk, notT h2 h.lbT h.log.1, h.lbo, below_turned h.below h3 h.old⟩, ⟨h3.mono (Nat.le_refl _) fun _ _ h => .inl h, h2⟩⟩
/-- A list that came from an opening. -/
theorem RowIn.opened {w0 w w' : World} {T : Nat → Prop} {lb : Nat} {v : Value} {xs : List ByteArray} (hb : w0.heap.size ≤ w.heap.size) (h : OwnRows strLay w' w.heap.size 9 v xs) (h2 : ∀ k, v.ownBlock = some k → ¬ T k ∧ k ≠ lb) : RowIn w0 w' T lb v xs := ⟨h.lower hb, h2⟩
/-- A list of the law's own, at another log that is newer. -/
theorem RowIn.lb {w0 w : World} {T : Nat → Prop} {lb lb2 : Nat} {v : Value} {xs : List ByteArray} (h : RowIn w0 w T lb v xs) (hn : ∀ j, v.ownBlock = some j → j ≠ lb2) : RowIn w0 w T lb2 v xs := ⟨h.row, fun j hj => ⟨(h.out j hj).1, hn j hj⟩⟩
/-- Behind an opening: the new log. -/
theorem LIn.fresh {w0 w w' : World} {db lb lb2 : Nat} {T T' : Nat → Prop} {d d' : Dk} {l l2 : Lg} (h : LIn w0 w db lb T d l) (h1 : DOk w' db T' d') (h2 : ∀ k, T' k → T k ∨ w.heap.size ≤ k) (h3 : Turned T w.heap.size w w') (hL : LAt w' lb2 db l2) (hlb : w.heap.size ≤ lb2) (hT : ¬ T' lb2) : LIn w0 w' db lb2 T' d' l2 :=
  ⟨h1, hL, (h.opened h1 h2 h3).1.old, hT, Nat.le_trans h.below.size hlb, (h.opened h1 h2 h3).1.below⟩
theorem RowIn.fresh {w0 w w' : World} {T T' : Nat → Prop} {lb lb2 : Nat} {v : Value} {xs : List ByteArray} (h : RowIn w0 w T lb v xs) (hs : SStp w w' T T' lb) (hlb : w.heap.size ≤ lb2) : RowIn w0 w' T' lb2 v xs :=
  (h.step hs).lb fun j hj => by
    have := (h.row.lt hj).2
    omega
end Go.Proofs.YtgglheelhbfgiaaGreatDoor

namespace Go.Proofs.YtgglheelhbfgiaaGreatDoor
open Go Go.RowKit Go.Lib
/-- An oplog in the world, since w0. -/
structure OlIn (w0 w : World) (db ob lb : Nat) (T : Nat → Prop) (d : Dk) (o : Ol) : Prop where
  lin : LIn w0 w db lb T d o.log
  st : ∃ a vp, StAt w ob w0.heap.size [.pointer (some ⟨lb, 0, none⟩), .bool o.dead] a vp o.st ∧ (∀ ad, a = some ad → w0.heap.size ≤ ad.block ∧ ¬ T ad.block ∧ ad.block ≠ lb) ∧ (∀ k, vp.ownBlock = some k → ¬ T k ∧ k ≠ lb)
  obo : w0.heap.size ≤ ob
  obT : ¬ T ob
  oblb : ob ≠ lb
/-- What an opening answers. -/
def OpenOIs (w0 w : World) (db : Nat) (S : Nat → Prop) (o : OpenO) (e : Ending) (w' : World) : Prop :=
  ∃ T, DOk w' db T o.d ∧ (∀ k, T k → S k ∨ w.heap.size ≤ k) ∧ Turned S w.heap.size w w' ∧
    ((o.ol = none ∧ e = .returned (.tuple #[.pointer none, .int .i64 o.err])) ∨
     ∃ ol ob lb, o.ol = some ol ∧ e = .returned (.tuple #[.pointer (some ⟨ob, 0, none⟩), .int .i64 o.err]) ∧ OlIn w0 w' db ob lb T o.d ol ∧ w.heap.size ≤ ob ∧ w.heap.size ≤ lb)
theorem openO_none {d : Dk} (h : (openD d).log = none) : openO d = ⟨none, (openD d).err, (openD d).d⟩ := by
  unfold openO
  rw [h]
theorem openO_bad {d : Dk} (l : Lg) (h : (openD d).log = some l) (hr : replaysS noSt (openD d).out = none) : openO d = ⟨none, 43, (openD d).d⟩ := by
  unfold openO
  simp only [h, hr]
theorem openO_good {d : Dk} (l : Lg) (s : StO) (h : (openD d).log = some l) (hr : replaysS noSt (openD d).out = some s) : openO d = ⟨some ⟨s, l, false⟩, 0, (openD d).d⟩ := by
  unfold openO
  simp only [h, hr]
theorem addO_len2 (l : List Opr) (x : Opr) : (addO l x).1.length ≤ l.length + 1 := by
  unfold addO
  split
  · exact Nat.zero_le _
  · split
    · exact Nat.le_succ _
    · split
      · exact Nat.zero_le _
      · split
        · exact Nat.zero_le _
        · simp [insO]
          omega
theorem putP_len (l : List ByteArray) (p : ByteArray) : (putP l p).length ≤ l.length + 1 := by
  unfold putP
  split
  · exact Nat.le_succ _
  · simp
theorem replayS_len (s : StO) (r : ByteArray) : (replayS s r).1.ops.length ≤ s.ops.length + 1 ∧ (replayS s r).1.pcs.length ≤ s.pcs.length + 1 := by
  have h1 := addO_len2 s.ops (decO (restB r).data.toList).1
  have h2 := putP_len s.pcs (restB r)
  unfold replayS
  split
  · split
    · split
      · exact ⟨h1, Nat.le_succ _⟩
      · exact ⟨Nat.le_succ _, Nat.le_succ _⟩
    · exact ⟨Nat.le_succ _, Nat.le_succ _⟩
  · split
    · exact ⟨Nat.le_succ _, h2⟩
    · exact ⟨Nat.le_succ _, Nat.le_succ _⟩
theorem replays_go {s : StO} {r : ByteArray} {rs : List ByteArray} (h : (replayS s r).2 = true) : replaysS s (r :: rs) = replaysS (replayS s r).1 rs := if_pos h
theorem replays_stop {s : StO} {r : ByteArray} {rs : List ByteArray} (h : (replayS s r).2 = false) : replaysS s (r :: rs) = none := by
  show (if (replayS s r).2 = true then _ else none) = none
  rw [h]
  rfl
set_option maxRecDepth 100000 in
set_option maxHeartbeats 6400000 in
theorem oopen_any {w0 w : World} {db : Nat} {S : Nat → Prop} {d : Dk} (h : DOk w db S d) (hl : d.now.length ≤ 100000) (hal : d.acts.length ≤ 900000000) (ht : TabD w0) (hb0 : Below w0.heap.size w0 w) (hS : ∀ k, S k → w0.heap.size ≤ k) (ho : (openD d).out.length ≤ 10000) (hr : ∀ r ∈ (openD d).out, 0 < r.size ∧ r.size ≤ 100000) (he : ∀ l, (openD d).log = some l → (openD d).err = 0) (hen : (openD d).log = none → (openD d).err ≠ 0) :
    Calls Tryz.prog 35 #[.pointer (some ⟨db, 0, none⟩)] w fun e w' => OpenOIs w0 w db S (openO d) e w' := by
  have HO := Lib.hid (sopen_any h hl hal ⟨w0, rfl, ht, hb0⟩ hS)
  have Hn := Lib.hid (openO_none (d := d))
  have Hbad := Lib.hid fun l => openO_bad (d := d) l
  have Hgood := Lib.hid fun l s => openO_good (d := d) l s
  have Ho := Lib.hid ho
  have Hr := Lib.hid hr
  have He := Lib.hid he
  have Hen := Lib.hid hen
  have HS := Lib.hid hS
  have HB0 := Lib.hid hb0
  clear h hl hal ht ho hr he hen hS hb0
  generalize openD d = R at *
  generalize openO d = RO at *
  go_enter Tryz.func35, Tryz.ntmps35
  go_wp2_with fail
  refine HO.out.mono ?_
  rintro e w1 ⟨T, hD, hT, hTu, hcase⟩
  rcases hcase with ⟨hl0, hout, rfl⟩ | ⟨l, lb, v, hl0, rfl, hL, hlb, hlbT, hown, hvT⟩
  · have hRO := Hn.out hl0
    have e1 : (R.err != 0) = true := by rw [bne_iff_ne]; exact Hen.out hl0
    go_wp2_with fail
    go_ret2
    exact ⟨T, by rw [hRO]; exact hD, hT, hTu, .inl ⟨by rw [hRO], by rw [hRO]; rfl⟩⟩
  · have e1 : (R.err != 0) = false := by rw [He.out l hl0]; rfl
    obtain ⟨ra, rc, rfl, hrow, _⟩ := hown.read
    have hB : Below w1.heap.size w1 (w1.alloc (.cells #[.slice none 0 0, .slice none 0 0, .pointer (some ⟨lb, 0, none⟩), .bool false] 130)) := (Below.refl _ _).alloc (Nat.le_refl _) _
    have hV := VarAt.new w1 #[.slice none 0 0, .slice none 0 0, .pointer (some ⟨lb, 0, none⟩), .bool false] 130
    have hb1 : w.heap.size ≤ w1.heap.size := hTu.size
    have hSt : StAt (w1.alloc (.cells #[.slice none 0 0, .slice none 0 0, .pointer (some ⟨lb, 0, none⟩), .bool false] 130)) w1.heap.size w0.heap.size [.pointer (some ⟨lb, 0, none⟩), .bool false] none (.slice none 0 0) noSt :=
      ⟨⟨0, hV, RowsAt.nil _ _ _, fun _ => rfl, Nat.le_refl _⟩, OwnRows.nil _ _ _ _, fun _ e => (by cases e), fun e => (by cases e), fun _ e => (by cases e), fun _ e => (by cases e)⟩
    have hg0 := hSt.go (Below.refl _ _)
    have hzb : w0.heap.size ≤ (w1.alloc (.cells #[.slice none 0 0, .slice none 0 0, .pointer (some ⟨lb, 0, none⟩), .bool false] 130)).heap.size := Nat.le_trans HB0.out.size (Nat.le_trans hb1 hB.size)
    have hsz : (w1.alloc (.cells #[.slice none 0 0, .slice none 0 0, .pointer (some ⟨lb, 0, none⟩), .bool false] 130)).heap.size = w1.heap.size + 1 := by simp
    clear hV hSt
    go_wp2_with fail
    obtain ⟨W2, hW2⟩ : ∃ W2, w1.alloc (.cells #[.slice none 0 0, .slice none 0 0, .pointer (some ⟨lb, 0, none⟩), .bool false] 130) = W2 := ⟨_, rfl⟩
    rw [hW2] at hB hg0 hzb hsz ⊢
    clear hW2
    have hbT : ∀ {wr : World} {s : StO}, StGo W2 w1.heap.size w0.heap.size [.pointer (some ⟨lb, 0, none⟩), .bool false] none (.slice none 0 0) s wr → Below w1.heap.size w1 wr := fun {wr s} hg => by
      obtain ⟨_, _, _, _, _, hT⟩ := hg
      exact hB.trans (hT.below (by omega) fun k hk h => by
        rcases h with h | h
        · omega
        · cases h)
    have HbT := Lib.hid (fun (wr : World) (s : StO) (hg : StGo W2 w1.heap.size w0.heap.size [.pointer (some ⟨lb, 0, none⟩), .bool false] none (.slice none 0 0) s wr) => hbT hg)
    clear hbT
    have Hl0 := Lib.hid hl0
    go_loopw [9, 24] (fun _ i wr => ∃ (k : Nat) (s : StO), k ≤ R.out.length ∧ i = .int .i64 k ∧ StGo W2 w1.heap.size w0.heap.size [.pointer (some ⟨lb, 0, none⟩), .bool false] none (.slice none 0 0) s wr ∧ Hid (replaysS noSt R.out = replaysS s (R.out.drop k)) ∧ s.ops.length ≤ k ∧ s.pcs.length ≤ k) (fun _ i _ => R.out.length - (RowKit.intOf i).toNat)
    case atStart => exact ⟨0, noSt, Nat.zero_le _, rfl, hg0, Lib.hid rfl, Nat.le_refl _, Nat.le_refl _⟩
    case round =>
      obtain ⟨k, s, hk, rfl, hg, Hc, hso, hsp⟩ := hrel
      have hbw := HbT.out wr s hg
      by_cases hlt : k < R.out.length
      · obtain ⟨x, hx⟩ := at_some hlt
        have hxx := Hr.out x (List.mem_of_getElem? hx)
        rw [drop_at hx] at Hc
        obtain ⟨bx, off, hae, hbl, hc⟩ := (hrow.keeps hbw) k _ hx
        have hc0 : wr.cell? ⟨bx, off + k, none⟩ = some (.string x) := by
          have := hc 0 _ rfl
          rwa [show off + k * strLay.sz + 0 = off + k by show off + k * 1 + 0 = _; omega] at this
        have hlti : (k : Int) < (R.out.length : Int) := by omega
        subst hae
        obtain ⟨a', vp', hst, ha1, hv1, hT1⟩ := hg
        have ho := Ho.out
        have HRp := Lib.hid (replay_go x hst (Nat.le_trans hzb hT1.size) (by omega) (by omega) hxx.1 hxx.2)
        have hln := replayS_len s x
        have Hgo := Lib.hid fun h => Hc.out.trans (replays_go (s := s) (r := x) (rs := R.out.drop (k + 1)) h)
        have Hstop := Lib.hid fun h => Hc.out.trans (replays_stop (s := s) (r := x) (rs := R.out.drop (k + 1)) h)
        have Hst := Lib.hid hst
        have HT1 := Lib.hid hT1
        clear hst hc hx hrow Hc hT1
        generalize replayS s x = RP at *
        obtain ⟨s2, ok⟩ := RP
        dsimp only at *
        go_wp2_with fail
        refine HRp.out.mono ?_
        rintro e w2 ⟨rfl, hg2⟩
        have hg3 : StGo W2 w1.heap.size w0.heap.size [.pointer (some ⟨lb, 0, none⟩), .bool false] none (.slice none 0 0) s2 w2 := StGo.trans ⟨a', vp', ha1, hv1, HT1.out, hg2⟩
        clear hg2
        cases ok with
        | false =>
          have hRO := Hbad.out l Hl0.out (Hstop.out rfl)
          have hbw2 := HbT.out w2 s2 hg3
          clear hg3
          go_wp2_with fail
          go_ret2
          exact ⟨T, by rw [hRO]; exact hD.below hbw2, hT, hTu.trans (Turned.of_below hbw2 hb1), .inl ⟨by rw [hRO], by rw [hRO]; rfl⟩⟩
        | true =>
          have Hg := Lib.hid (Hgo.out rfl)
          go_wp2_with fail
          go_roundw
          case rel => exact ⟨k + 1, s2, hlt, by go_num, hg3, Hg, by omega, by omega⟩
          case measure => (show R.out.length - (k + 1) < R.out.length - k; omega)
      · have hke : k = R.out.length := by omega
        subst hke
        rw [List.drop_length] at Hc
        have hRO := Hgood.out l s Hl0.out Hc.out
        have Hg := Lib.hid hg
        clear hg Hc
        go_wp2_with fail
        go_ret2
        obtain ⟨a', vp', hst, ha1, hv1, hT1⟩ := Hg.out
        have hlbl := hL.1
        have hnew : ∀ k, W2.heap.size ≤ k → ¬ T k ∧ k ≠ lb := fun k hk => ⟨fun h => (by have := hD.slt k h; omega), fun h => (by omega)⟩
        refine ⟨T, by rw [hRO]; exact hD.below hbw, hT, hTu.trans (Turned.of_below hbw hb1), .inr ⟨_, w1.heap.size, lb, by rw [hRO], by rw [hRO]; rfl, ?_, hb1, hlb⟩⟩
        have hB0 := HB0.out.size
        rw [hRO]
        refine ⟨⟨hD.below hbw, hL.keeps hbw hL.1, fun k hk => ?_, hlbT, Nat.le_trans hB0 hlb, below_turned HB0.out (hTu.trans (Turned.of_below hbw hb1)) HS.out⟩, ⟨a', vp', hst, fun ad e => ?_, fun j e => ?_⟩, Nat.le_trans hB0 hb1, fun h => ?_, fun h => ?_⟩
        · rcases hT k hk with h | h
          · exact HS.out k h
          · exact Nat.le_trans hB0 h
        · rcases ha1 with h | h
          · rw [h] at e
            cases e
          · have h3 := h ad e
            exact ⟨Nat.le_trans hzb h3, hnew _ h3⟩
        · rcases hv1 with h | h
          · rw [h] at e
            cases e
          · exact hnew _ (h j e)
        · exact Nat.lt_irrefl _ (hD.slt _ h)
        · omega
end Go.Proofs.YtgglheelhbfgiaaGreatDoor

