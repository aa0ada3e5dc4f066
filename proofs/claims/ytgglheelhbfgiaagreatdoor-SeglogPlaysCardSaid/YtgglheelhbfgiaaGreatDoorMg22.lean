/-
  Arguments that are slices of structs which hold slices: opened, leaf by leaf. Of no program. SeglogPlays: the calls that come in; what the law keeps of a disk, its reference and their logs.
-/
import Derived.Test.YtgglheelhbfgiaaGreatDoorMg21
import Derived.Test.YtgglheelhbfgiaaGreatDoorMg6
import Derived.Test.YtgglheelhbfgiaaGreatDoorMg19
namespace Go.Proofs.YtgglheelhbfgiaaGreatDoor
open Go Go.RowKit Go.ChangeShapes Go.WideShapes Go.ChangeAt Go.Deep
section
variable {H : Type} {enc : TypeId × Value → H} {P : Program} {w : World} {base : Nat} {spare : Nat → Bool} {held : Bool}
/-- A leaf's places are the whole's. -/
theorem leaf_in : ∀ (d : Nat) (t : TypeId) (fuel : Nat) (cs : List Value) (x : DataW H × List MemPlace), cs.length = P.cellsOf t → DataW.trod enc P w base spare held fuel t cs = some x →
    ∀ q ∈ leaves P d t, ∃ n y, DataW.trod enc P w base spare held n q.2 ((cs.drop q.1).take 1) = some y ∧ ∀ z ∈ y.2, z ∈ x.2 := by
  intro d
  induction d with
  | zero => intro t fuel cs x _ _ q hq; simp [leaves] at hq
  | succ d ih =>
    intro t fuel cs x hlen h q hq
    unfold leaves at hq
    split at hq
    · rename_i fs hfs
      obtain ⟨ys, n, _, hy, hl, hyl, hf⟩ := DataW.trod_struct hfs h
      simp only [List.mem_flatMap, List.mem_map, List.mem_filter, decide_eq_true_eq] at hq
      obtain ⟨f, hfm, q', ⟨hq', hlt, hfit⟩, rfl⟩ := hq
      obtain ⟨i, hi⟩ := List.getElem?_of_mem hfm
      have hi' : fs[i]? = some f := by simpa using hi
      have hil : i < ys.length := by rw [hyl]; exact (Array.getElem?_eq_some_iff.1 hi').1
      have h1 := hf i f hi'
      rw [List.getElem?_eq_getElem hil] at h1
      obtain ⟨n', y, hy', hin⟩ := ih f.type n _ _ (by rw [List.length_take, List.length_drop]; omega) h1 q' hq'
      refine ⟨n', y, ?_, fun z hz => ?_⟩
      · rw [List.drop_take, List.take_take, List.drop_drop, Nat.min_eq_left (by omega)] at hy'
        exact hy'
      · rw [hy]
        exact List.mem_flatMap.2 ⟨_, List.getElem_mem hil, hin z hz⟩
    · split at hq
      · rename_i h1
        simp only [List.mem_singleton] at hq
        subst hq
        refine ⟨fuel, x, ?_, fun z hz => hz⟩
        rw [h1] at hlen
        rw [List.drop_zero, List.take_of_length_le (by omega)]
        exact h
      · simp at hq
/-- Structs that came in, of slices and strings: what each leaf reads as, and what is known of it, is the caller's to say (dec). -/
theorem arg_leavesQ {α : Type} {L : Lay α} {Q : α → Prop} {W : World} {ts : List TypeId} {ds : List (DataW H)} {j : Nat} {t e : TypeId} {lv : List (Nat × TypeId)} {v : Value} {d : DataW H} {p : List MemPlace} (hL : 0 < L.sz)
    (ht : P.underlying t = some (.slice e)) (hlv : leaves P 4 e = lv) (hC : P.cellsOf e = L.sz)
    (dec : ∀ g : Nat → Value, (∀ q ∈ lv, ∃ n x, DataW.trod enc P W 0 (fun _ => true) true n q.2 [g q.1] = some x ∧ ∀ z ∈ x.2, z.block < W.heap.size) → ∃ x, Q x ∧ ∀ f v, (L.cells x)[f]? = some v → g f = v)
    (hv : Value.okWide P W .any base t v) (h : DataW.Trod enc P W 0 (fun _ => true) true t v d p) (hlt : ∀ x ∈ p, x.block < W.heap.size) (hsz : (DataW.weightsEach P ts ds).all (· ≤ reachBytes) = true) (h1 : ts[j]? = some t) (h2 : ds[j]? = some d) (hin : ∀ q ∈ lv, q.1 < L.sz) :
    ∃ (a : Option Addr) (cap : Nat) (xs : List α), v = .slice a xs.length cap ∧ RowsAt L W a xs ∧ (∀ x ∈ xs, Q x) ∧ xs.length ≤ cap ∧ xs.length * P.bytesOf e ≤ 140737488351232 ∧ (a = none → cap = 0) := by
  obtain ⟨a0, len, cap, rfl⟩ := okWide_slice ht hv
  obtain ⟨fuel, hf⟩ := h
  rcases open_slice ht hf with ⟨hcs, hx⟩ | ⟨a, len', cap', m, n, D, Pl, hcs, _, hl, hm, hmm, hx, hi⟩
  · have hcs' : Value.slice a0 len cap = .slice none 0 0 := by simpa [Value.cells] using hcs
    cases hcs'
    exact ⟨none, 0, [], rfl, RowsAt.nil _ _ _, fun x hx => (by cases hx), Nat.le_refl _, by simp, fun _ => rfl⟩
  · have hcs' : Value.slice a0 len cap = .slice (some a) len' cap' := by simpa [Value.cells] using hcs
    cases hcs'
    simp only [if_true] at hmm
    obtain rfl := hmm.symm
    obtain ⟨rfl, hp⟩ := Prod.mk.inj hx
    have hs := sized_slice hsz h1 h2 ht
    simp only [List.length_map, List.length_range, reachBytes] at hs
    rw [hC] at hp
    obtain ⟨xs, hxl, hxs⟩ := list_of_choice (α := α) len (fun i x => Q x ∧ ∀ f v, (L.cells x)[f]? = some v → W.cell? (a.add (i * L.sz + f)) = some v) (by
      intro i hil
      obtain ⟨cs', hc, htr⟩ := hi i (by omega)
      rw [hC] at hc
      obtain ⟨_, hcl, hat⟩ := World.cells?_some hc
      obtain ⟨x, hQ, hx⟩ := dec (fun k => cs'.getD k default) (by
        intro q hq
        obtain ⟨n', y, hy, hz⟩ := leaf_in 4 e n cs' _ (by rw [hcl, hC]) htr q (by rw [hlv]; exact hq)
        have hq1 := hin q hq
        refine ⟨n', y, ?_, fun z h => hlt z (by
          rw [hp]
          exact List.mem_append_right _ (List.mem_flatMap.2 ⟨i, List.mem_range.2 (by omega), hz z h⟩))⟩
        have e1 : (cs'.drop q.1).take 1 = [cs'.getD q.1 default] := by
          rw [List.drop_eq_getElem_cons (by omega)]
          rw [List.getD_eq_getElem?_getD, List.getElem?_eq_getElem (show q.1 < cs'.length by omega)]
          rfl
        rw [← e1]
        exact hy)
      refine ⟨x, hQ, fun f v hv => ?_⟩
      have hfl : f < L.sz := by rw [← L.len x]; exact (List.getElem?_eq_some_iff.1 hv).1
      have hcell := hat f hfl
      have := hx f v hv
      rw [List.getD_eq_getElem?_getD, List.getElem?_eq_getElem (by omega), Option.getD_some] at this
      rw [← Go.Deep.add_add, hcell, List.getElem?_eq_getElem (by omega), this])
    refine ⟨some a, _, xs, by rw [hxl], ?_, fun x hx => ?_, by omega, ?_, fun h => by cases h⟩
    · intro k x hk
      have hkl := (List.getElem?_eq_some_iff.1 hk).1
      have h0 := (hxs k x hk).2
      obtain ⟨x0, hx0⟩ : ∃ x0, xs[0]? = some x0 := ⟨_, List.getElem?_eq_getElem (by omega)⟩
      have hc0 : (L.cells x0)[0]? = some ((L.cells x0)[0]'(by rw [L.len]; omega)) := List.getElem?_eq_getElem (by rw [L.len]; omega)
      have hc0' := (hxs 0 x0 hx0).2 0 _ hc0
      have hspot : a.spot = none := by
        cases hsp : a.spot with
        | none => rfl
        | some q =>
          exfalso
          have hq : (a.add (0 * L.sz + 0)).spot = some q := by unfold Addr.add; rw [if_pos (by omega)]; exact hsp
          generalize a.add (0 * L.sz + 0) = z at hc0' hq
          unfold World.cell? at hc0'
          rw [hq] at hc0'
          revert hc0'
          split <;> simp
      obtain ⟨b, off, sp⟩ := a
      simp only at hspot
      subst hspot
      refine ⟨b, off, rfl, ?_, fun f v hv => ?_⟩
      · have hin : MemPlace.cell b off ∈ p := by
          rw [hp]
          refine List.mem_append_left _ ?_
          simp only [MemPlace.row, List.mem_map, List.mem_range]
          refine ⟨0, ?_, by simp⟩
          exact Nat.mul_pos (by omega) hL
        exact hlt _ hin
      · have := h0 f v hv
        have e : ((⟨b, off, none⟩ : Addr).add (k * L.sz + f)) = ⟨b, off + k * L.sz + f, none⟩ := by
          unfold Addr.add
          split <;> simp_all <;> omega
        rwa [e] at this
    · obtain ⟨i, hi'⟩ := List.getElem?_of_mem hx
      exact (hxs i x hi').1
    · rw [hxl]
      exact Nat.le_trans (Nat.mul_le_mul_right _ (Nat.le_add_right _ _)) hs
end
end Go.Proofs.YtgglheelhbfgiaaGreatDoor

namespace Go.Proofs.YtgglheelhbfgiaaGreatDoor
open Go Go.RowKit Go.Lib Go.ChangeShapes Go.WideShapes Go.ChangeAt Go.Deep
/-- A call that comes in. -/
structure OpV where
  ask : Int
  ra : Option Addr
  rc : Nat
  rs : List ByteArray
  n : Int
  torn : Bool
  tq : ByteArray
def OpV.cells (x : OpV) : List Value := [.int .i64 x.ask, .slice x.ra x.rs.length x.rc, .int .i64 x.n, .bool x.torn, .string x.tq]
theorem OpV.one (x : OpV) (v : Value) (hv : v ∈ x.cells) : v.oneCell' = true := by
  simp only [OpV.cells, List.mem_cons, List.mem_nil_iff, or_false] at hv
  rcases hv with rfl | rfl | rfl | rfl | rfl <;> rfl
def opvLay : Lay OpV := { sz := 5, cells := OpV.cells, len := fun _ => rfl, one := OpV.one }
theorem opv_at {w : World} {a : Option Addr} {xs : List OpV} (h : RowsAt opvLay w a xs) {k : Nat} {x : OpV} (hk : xs[k]? = some x) : ∃ b off, a = some ⟨b, off, none⟩ ∧ b < w.heap.size ∧
    w.cell? ⟨b, off + k * 5, none⟩ = some (.int .i64 x.ask) ∧ w.cell? ⟨b, off + k * 5 + 1, none⟩ = some (.slice x.ra x.rs.length x.rc) ∧ w.cell? ⟨b, off + k * 5 + 2, none⟩ = some (.int .i64 x.n) ∧ w.cell? ⟨b, off + k * 5 + 3, none⟩ = some (.bool x.torn) ∧ w.cell? ⟨b, off + k * 5 + 4, none⟩ = some (.string x.tq) := by
  obtain ⟨b, off, e, hlt, hc⟩ := h k x hk
  exact ⟨b, off, e, hlt, hc 0 _ rfl, hc 1 _ rfl, hc 2 _ rfl, hc 3 _ rfl, hc 4 _ rfl⟩
section
variable {H : Type} {enc : TypeId × Value → H} {P : Program}
theorem arg_opvs {W : World} {base : Nat} {ts : List TypeId} {ds : List (DataW H)} {j : Nat} {t e i b s ls : TypeId} {v : Value} {d : DataW H} {p : List MemPlace}
    (ht : P.underlying t = some (.slice e)) (hlv : leaves P 4 e = [(0, i), (1, ls), (2, i), (3, b), (4, s)]) (hC : P.cellsOf e = 5)
    (hus : P.underlying s = some .string) (hui : P.underlying i = some (.int .i64)) (hub : P.underlying b = some .bool) (hls : P.underlying ls = some (.slice s)) (hvs : leaves P 4 s = [(0, s)]) (hcs : P.cellsOf s = 1)
    (hv : Value.okWide P W .any base t v) (h : DataW.Trod enc P W 0 (fun _ => true) true t v d p) (hlt : ∀ x ∈ p, x.block < W.heap.size) (hsz : (DataW.weightsEach P ts ds).all (· ≤ reachBytes) = true) (h1 : ts[j]? = some t) (h2 : ds[j]? = some d) :
    ∃ (a : Option Addr) (cap : Nat) (xs : List OpV), v = .slice a xs.length cap ∧ RowsAt opvLay W a xs ∧ (∀ x ∈ xs, RowsAt strLay W x.ra x.rs) ∧ xs.length ≤ cap ∧ xs.length * P.bytesOf e ≤ 140737488351232 ∧ (a = none → cap = 0) := by
  refine arg_leavesQ (L := opvLay) (Q := fun x => RowsAt strLay W x.ra x.rs) (by decide) ht hlv hC ?_ hv h hlt hsz h1 h2 (by simp [opvLay])
  intro g hg
  obtain ⟨n0, y0, h0, _⟩ := hg (0, i) (by simp)
  obtain ⟨n1, y1, h1, z1⟩ := hg (1, ls) (by simp)
  obtain ⟨n2, y2, h2, _⟩ := hg (2, i) (by simp)
  obtain ⟨n3, y3, h3, _⟩ := hg (3, b) (by simp)
  obtain ⟨n4, y4, h4, _⟩ := hg (4, s) (by simp)
  obtain ⟨v0, e0, _⟩ := DataW.trod_int hui h0
  obtain ⟨ra, rc, rs, e1, r1, _, _⟩ := rows_of_trodS (L := strLay) (by decide) hls hvs hcs (dec_strS hus) h1 z1 (by simp [strLay])
  obtain ⟨v2, e2, _⟩ := DataW.trod_int hui h2
  obtain ⟨v3, e3, _⟩ := DataW.trod_bool hub h3
  obtain ⟨v4, e4, _⟩ := DataW.trod_string hus h4
  refine ⟨⟨v0, ra, rc, rs, v2, v3, v4⟩, r1, fun f v hv => ?_⟩
  simp only [List.cons.injEq, and_true] at e0 e2 e3 e4
  match f, hv with
  | 0, hv => rw [e0]; exact Option.some.inj hv
  | 1, hv => exact e1.trans (Option.some.inj hv)
  | 2, hv => rw [e2]; exact Option.some.inj hv
  | 3, hv => rw [e3]; exact Option.some.inj hv
  | 4, hv => rw [e4]; exact Option.some.inj hv
end
/-- The logs: none, or one of each. -/
def LogsAt (w0 w : World) (db rb : Nat) (T R : Nat → Prop) (pl pm : Option Addr) (lo : Option Lg) : Prop :=
  (lo = none ∧ pl = none ∧ pm = none) ∨ ∃ l lb mb, lo = some l ∧ pl = some ⟨lb, 0, none⟩ ∧ pm = some ⟨mb, 0, none⟩ ∧ LAt w lb db l ∧ LAt w mb rb l ∧ w0.heap.size ≤ lb ∧ w0.heap.size ≤ mb ∧ ¬ T lb ∧ ¬ R lb ∧ ¬ T mb ∧ ¬ R mb ∧ lb ≠ mb ∧ l.many ≤ 800
structure PlayIn (w0 w : World) (db rb : Nat) (T R : Nat → Prop) (pl pm : Option Addr) (d : Dk) (lo : Option Lg) (n : Nat) : Prop where
  disk : DOk w db T d
  ref : ROk w rb R d
  told : ∀ k, T k → w0.heap.size ≤ k
  rold : ∀ k, R k → w0.heap.size ≤ k
  apart : ∀ k, T k → ¬ R k
  kept : Kept n d
  logs : LogsAt w0 w db rb T R pl pm lo
  below : Below w0.heap.size w0 w
theorem LogsAt.turned {w0 w w' : World} {db rb : Nat} {T R S : Nat → Prop} {pl pm : Option Addr} {lo : Option Lg} (h : LogsAt w0 w db rb T R pl pm lo) (ht : Turned S w.heap.size w w') (hS : ∀ k, S k → T k ∨ R k) : LogsAt w0 w' db rb T R pl pm lo := by
  rcases h with h | ⟨l, lb, mb, h1, h2, h3, h4, h5, h6, h7, h8, h9, h10, h11, h12⟩
  · exact .inl h
  · exact .inr ⟨l, lb, mb, h1, h2, h3, VarAt.same h4 (ht.block lb h4.1 fun e => (hS _ e).elim h8 h9) ht.size, VarAt.same h5 (ht.block mb h5.1 fun e => (hS _ e).elim h10 h11) ht.size, h6, h7, h8, h9, h10, h11, h12⟩
theorem LogsAt.wider {w0 w : World} {db rb : Nat} {T R T' R' : Nat → Prop} {pl pm : Option Addr} {lo : Option Lg} (h : LogsAt w0 w db rb T R pl pm lo) {B : Nat} (hB : ∀ k, k < B → (T' k → T k) ∧ (R' k → R k)) (hl : ∀ l lb mb, lo = some l → pl = some ⟨lb, 0, none⟩ → pm = some ⟨mb, 0, none⟩ → lb < B ∧ mb < B) : LogsAt w0 w db rb T' R' pl pm lo := by
  rcases h with h | ⟨l, lb, mb, h1, h2, h3, h4, h5, h6, h7, h8, h9, h10, h11, h12⟩
  · exact .inl h
  · obtain ⟨q1, q2⟩ := hl l lb mb h1 h2 h3
    exact .inr ⟨l, lb, mb, h1, h2, h3, h4, h5, h6, h7, fun e => h8 ((hB lb q1).1 e), fun e => h9 ((hB lb q1).2 e), fun e => h10 ((hB mb q2).1 e), fun e => h11 ((hB mb q2).2 e), h12⟩
theorem LogsAt.lt {w0 w : World} {db rb : Nat} {T R : Nat → Prop} {pl pm : Option Addr} {lo : Option Lg} (h : LogsAt w0 w db rb T R pl pm lo) : ∀ l lb mb, lo = some l → pl = some ⟨lb, 0, none⟩ → pm = some ⟨mb, 0, none⟩ → lb < w.heap.size ∧ mb < w.heap.size := by
  intro l lb mb e1 e2 e3
  rcases h with h | ⟨l', lb', mb', h1, h2, h3, h4, h5, _⟩
  · rw [h.1] at e1
    cases e1
  · rw [h2] at e2
    rw [h3] at e3
    cases e2
    cases e3
    exact ⟨h4.1, h5.1⟩
theorem PlayIn.keeps {w0 w w' : World} {db rb : Nat} {T R : Nat → Prop} {pl pm : Option Addr} {d : Dk} {lo : Option Lg} {n : Nat} (h : PlayIn w0 w db rb T R pl pm d lo n) (hb : Below w.heap.size w w') : PlayIn w0 w' db rb T R pl pm d lo n :=
  ⟨h.disk.below hb, h.ref.below hb, h.told, h.rold, h.apart, h.kept, h.logs.turned (S := fun _ => False) (Turned.of_below hb (Nat.le_refl _)) (fun _ e => e.elim), h.below.trans (hb.mono h.below.size)⟩
/-- The disk has turned; its reference stands as it stood. -/
theorem PlayIn.ref1 {w0 w w1 : World} {db rb : Nat} {T R : Nat → Prop} {pl pm : Option Addr} {d d' : Dk} {lo : Option Lg} {n : Nat} (h : PlayIn w0 w db rb T R pl pm d lo n) (hg : DGo w db T d' w1) : ROk w1 rb R d := h.ref.foreign hg.2 h.apart
theorem PlayIn.both {w0 w w1 w2 : World} {db rb : Nat} {T R : Nat → Prop} {pl pm : Option Addr} {d d' : Dk} {lo : Option Lg} {n m : Nat} (h : PlayIn w0 w db rb T R pl pm d lo n) (h1 : DGo w db T d' w1) (h2 : RGo w1 rb R d' w2) (hk : Kept m d') : PlayIn w0 w2 db rb (GrowS T w w1) (GrowS R w1 w2) pl pm d' lo m := by
  have hs1 := h1.2.size
  have hs2 := h2.2.size
  have hs0 := h.below.size
  have hTl := h.disk.slt
  have hRl := h.ref.2
  have hno : ∀ k, R k → ¬ GrowS T w w1 k := fun k hk e => by
    rcases e with e | e
    · exact h.apart k e hk
    · have := hRl k hk
      omega
  refine ⟨h1.1.foreign h2.2 hno, h2.1, fun k hk => ?_, fun k hk => ?_, fun k hk e => ?_, hk, ?_, ?_⟩
  · rcases hk with hk | hk
    · exact h.told k hk
    · omega
  · rcases hk with hk | hk
    · exact h.rold k hk
    · omega
  · rcases e with e | e
    · exact hno k e hk
    · rcases hk with hk | hk
      · have := hTl k hk
        omega
      · omega
  · refine (((h.logs.turned h1.2 fun k e => .inl e).turned h2.2 fun k e => .inr e).wider (B := w.heap.size) (fun k hk => ⟨fun e => e.elim id fun e => (by omega), fun e => e.elim id fun e => (by omega)⟩) ?_)
    exact h.logs.lt
  · have q1 : Below w0.heap.size w w1 := h1.2.below hs0 fun k hk e => by have := h.told k e; omega
    have q2 : Below w0.heap.size w1 w2 := h2.2.below (Nat.le_trans hs0 hs1) fun k hk e => by have := h.rold k e; omega
    exact (h.below.trans q1).trans q2
theorem ROk.slt {w : World} {rb : Nat} {R : Nat → Prop} {d : Dk} (h : ROk w rb R d) : ∀ k, R k → k < w.heap.size := h.2
/-- Both logs were appended to. -/
theorem PlayIn.apped {w0 w w1 w2 : World} {db rb lb mb : Nat} {T R : Nat → Prop} {d : Dk} {l : Lg} {n m : Nat} {rs : List ByteArray} {e1 e2 : Ending} (h : PlayIn w0 w db rb T R (some ⟨lb, 0, none⟩) (some ⟨mb, 0, none⟩) d (some l) n) (h1 : AppIs w db lb T (appendD l rs d) e1 w1) (h2 : RAppIs w1 rb mb R (appendD l rs d) e2 w2) (hk : DkOK (appendD l rs d).2.1 → Kept m (appendD l rs d).2.1) :
    ∃ T' R', PlayIn w0 w2 db rb T' R' (some ⟨lb, 0, none⟩) (some ⟨mb, 0, none⟩) (appendD l rs d).2.1 (some (appendD l rs d).1) m := by
  obtain ⟨-, hL1, T', hD, hT1, hT2, hT3⟩ := h1
  obtain ⟨-, hL2, hok, R', hR, hR1, hR2, hR3⟩ := h2
  have hl : ∃ l', some l = some l' ∧ LAt w lb db l' ∧ LAt w mb rb l' ∧ w0.heap.size ≤ lb ∧ w0.heap.size ≤ mb ∧ ¬ T lb ∧ ¬ R lb ∧ ¬ T mb ∧ ¬ R mb ∧ lb ≠ mb ∧ l'.many ≤ 800 := by
    rcases h.logs with q | ⟨l', lb', mb', q1, q2, q3, q4, q5, q⟩
    · cases q.2.1
    · cases q2
      cases q3
      exact ⟨l', q1, q4, q5, q⟩
  obtain ⟨l', hl', q4, q5, q6, q7, q8, q9, q10, q11, q12, q13⟩ := hl
  cases hl'
  have hs1 := hT3.size
  have hs2 := hR3.size
  have hs0 := h.below.size
  have hTl := h.disk.slt
  have hRl := h.ref.2
  have hlb := q4.1
  have hmb := q5.1
  have hTR : ∀ k, T' k → ¬ R k := fun k hk e => by
    rcases hT1 k hk with hk | hk
    · exact h.apart k hk e
    · have := hRl k e
      omega
  have hTm : ¬ T' mb := fun e => by
    rcases hT1 _ e with e | e
    · exact q10 e
    · omega
  have hRb : ¬ R' lb := fun e => by
    rcases hR1 _ e with e | e
    · exact q9 e
    · omega
  have q1 : Below w0.heap.size w w1 := hT3.below hs0 fun k hk e => by
    rcases e with e | e
    · have := h.told k e
      omega
    · omega
  have q2 : Below w0.heap.size w1 w2 := hR3.below (Nat.le_trans hs0 hs1) fun k hk e => by
    rcases e with e | e
    · have := h.rold k e
      omega
    · omega
  refine ⟨T', R', ⟨hD.foreign hR3 fun k e hk => ?_, hR, fun k hk => ?_, fun k hk => ?_, fun k hk e => ?_, hk hok, .inr ⟨_, lb, mb, rfl, rfl, rfl, VarAt.same hL1 (hR3.block lb hL1.1 fun e => ?_) hs2, hL2, q6, q7, hT2, hRb, hTm, hR2, q12, append_many q13⟩, (h.below.trans q1).trans q2⟩⟩
  · rcases e with e | e
    · exact hTR k hk e
    · rw [e] at hk
      exact hTm hk
  · rcases hT1 k hk with hk | hk
    · exact h.told k hk
    · omega
  · rcases hR1 k hk with hk | hk
    · exact h.rold k hk
    · omega
  · rcases hR1 k e with e | e
    · exact hTR k hk e
    · have := hD.slt k hk
      omega
  · rcases e with e | e
    · exact q9 e
    · exact q12 e
/-- Both logs were opened. -/
theorem PlayIn.opens {w0 w w1 w2 : World} {db rb : Nat} {T R : Nat → Prop} {pl pm : Option Addr} {d : Dk} {lo : Option Lg} {n m : Nat} {e1 e2 : Ending} (h : PlayIn w0 w db rb T R pl pm d lo n) (h1 : OpenIs w db T (openD d) e1 w1) (h2 : ROpenIs w1 rb R (openD d) e2 w2) (hk : DkOK (openD d).d → Kept m (openD d).d) :
    ∃ T' R' pl' pm' u v, e1 = .returned (.tuple #[.pointer pl', u, .int .i64 (openD d).err]) ∧ e2 = .returned (.tuple #[.pointer pm', v, .int .i64 (openD d).err]) ∧ PlayIn w0 w2 db rb T' R' pl' pm' (openD d).d (openD d).log m ∧
      ∃ a c a' c', u = .slice a (openD d).out.length c ∧ v = .slice a' (openD d).out.length c' ∧ RowsAt strLay w2 a (openD d).out ∧ RowsAt strLay w2 a' (openD d).out := by
  obtain ⟨T', hD, hT1, hT2, hO1⟩ := h1
  obtain ⟨R', hR, hok, hR1, hR2, hO2⟩ := h2
  have hs1 := hT2.size
  have hs2 := hR2.size
  have hs0 := h.below.size
  have hTl := h.disk.slt
  have hRl := h.ref.2
  have hTR : ∀ k, T' k → ¬ R k := fun k hk e => by
    rcases hT1 k hk with hk | hk
    · exact h.apart k hk e
    · have := hRl k e
      omega
  have q1 : Below w0.heap.size w w1 := hT2.below hs0 fun k hk e => by have := h.told k e; omega
  have q2 : Below w0.heap.size w1 w2 := hR2.below (Nat.le_trans hs0 hs1) fun k hk e => by have := h.rold k e; omega
  have hbase : ∀ pl' pm' lo', LogsAt w0 w2 db rb T' R' pl' pm' lo' → PlayIn w0 w2 db rb T' R' pl' pm' (openD d).d lo' m := fun pl' pm' lo' hL => by
    refine ⟨hD.foreign hR2 fun k e hk => hTR k hk e, hR, fun k hk => ?_, fun k hk => ?_, fun k hk e => ?_, hk hok, hL, (h.below.trans q1).trans q2⟩
    · rcases hT1 k hk with hk | hk
      · exact h.told k hk
      · omega
    · rcases hR1 k hk with hk | hk
      · exact h.rold k hk
      · omega
    · rcases hR1 k e with e | e
      · exact hTR k hk e
      · have := hD.slt k hk
        omega
  rcases hO1 with ⟨a1, a2, rfl⟩ | ⟨l, lb, u, a1, rfl, a2, a3, a4, a5, a6⟩
  · rcases hO2 with ⟨b1, b2, rfl⟩ | ⟨l', mb, v, b1, _⟩
    · exact ⟨T', R', _, _, _, _, rfl, rfl, hbase _ _ _ (.inl ⟨a1, rfl, rfl⟩), none, 0, none, 0, by rw [a2]; rfl, by rw [a2]; rfl, by rw [a2]; exact RowsAt.nil _ _ _, by rw [a2]; exact RowsAt.nil _ _ _⟩
    · rw [a1] at b1
      cases b1
  · rcases hO2 with ⟨b1, b2, rfl⟩ | ⟨l', mb, v, b1, rfl, b2, b3, b4, b5, b6⟩
    · rw [a1] at b1
      cases b1
    · rw [a1] at b1
      cases b1
      have hlb := a2.1
      have hRlb : ¬ R lb := fun e => by
        have := hRl lb e
        omega
      have a5' := a5.turnedOther hR2 fun k hk e => by
        have := (a5.lt hk).1
        have := hRl k e
        omega
      obtain ⟨ua, uc, rfl, hur, _⟩ := a5'.read
      obtain ⟨wa, wc, rfl, hvr, _⟩ := b5.read
      refine ⟨T', R', _, _, _, _, rfl, rfl, hbase _ _ _ (.inr ⟨l, lb, mb, a1, rfl, rfl, VarAt.same a2 (hR2.block lb a2.1 hRlb) hs2, b2, by omega, by omega, a4, fun e => ?_, fun e => ?_, b4, by omega, open_many a1⟩), ua, uc, wa, wc, rfl, rfl, hur, hvr⟩
      · rcases hR1 lb e with e | e
        · exact hRlb e
        · omega
      · have := hD.slt mb e
        omega
theorem OpenIs.shape {w w' : World} {db : Nat} {S : Nat → Prop} {o : OpenR} {e : Ending} (h : OpenIs w db S o e w') : ∃ po v, e = .returned (.tuple #[.pointer po, v, .int .i64 o.err]) := by
  obtain ⟨T, _, _, _, ⟨_, _, rfl⟩ | ⟨l, lb, v, _, rfl, _⟩⟩ := h
  · exact ⟨_, _, rfl⟩
  · exact ⟨_, _, rfl⟩
theorem ROpenIs.shape {w w' : World} {db : Nat} {S : Nat → Prop} {o : OpenR} {e : Ending} (h : ROpenIs w db S o e w') : ∃ po v, e = .returned (.tuple #[.pointer po, v, .int .i64 o.err]) := by
  obtain ⟨T, _, _, _, _, ⟨_, _, rfl⟩ | ⟨l, lb, v, _, rfl, _⟩⟩ := h
  · exact ⟨_, _, rfl⟩
  · exact ⟨_, _, rfl⟩
theorem PlayIn.opens2 {w0 w w1 w2 : World} {db rb : Nat} {T R : Nat → Prop} {pl pm pl' pm' : Option Addr} {u v : Value} {d : Dk} {lo : Option Lg} {n m : Nat} (h : PlayIn w0 w db rb T R pl pm d lo n) (h1 : OpenIs w db T (openD d) (.returned (.tuple #[.pointer pl', u, .int .i64 (openD d).err])) w1) (h2 : ROpenIs w1 rb R (openD d) (.returned (.tuple #[.pointer pm', v, .int .i64 (openD d).err])) w2) (hk : DkOK (openD d).d → Kept m (openD d).d) :
    ∃ T' R', PlayIn w0 w2 db rb T' R' pl' pm' (openD d).d (openD d).log m ∧ ∃ a c a' c', u = .slice a (openD d).out.length c ∧ v = .slice a' (openD d).out.length c' ∧ RowsAt strLay w2 a (openD d).out ∧ RowsAt strLay w2 a' (openD d).out := by
  obtain ⟨T', R', pl2, pm2, u2, v2, e1, e2, h3, h4⟩ := h.opens h1 h2 hk
  simp only [Ending.returned.injEq, Value.tuple.injEq, Array.mk.injEq, List.cons.injEq, Value.pointer.injEq, and_true] at e1 e2
  obtain ⟨rfl, rfl⟩ := e1
  obtain ⟨rfl, rfl⟩ := e2
  exact ⟨T', R', h3, h4⟩
theorem PlayIn.refO {w0 w w1 : World} {db rb : Nat} {T R : Nat → Prop} {pl pm : Option Addr} {d : Dk} {lo : Option Lg} {n : Nat} {o : OpenR} {e : Ending} (h : PlayIn w0 w db rb T R pl pm d lo n) (h1 : OpenIs w db T o e w1) : ROk w1 rb R d := by
  obtain ⟨T', hD, hT1, hT2, _⟩ := h1
  exact h.ref.foreign hT2 h.apart
theorem PlayIn.logs1 {w0 w : World} {db rb lb : Nat} {T R : Nat → Prop} {pm : Option Addr} {d : Dk} {lo : Option Lg} {n : Nat} (h : PlayIn w0 w db rb T R (some ⟨lb, 0, none⟩) pm d lo n) : ∃ l mb, lo = some l ∧ pm = some ⟨mb, 0, none⟩ ∧ LAt w lb db l ∧ LAt w mb rb l ∧ w0.heap.size ≤ lb ∧ w0.heap.size ≤ mb ∧ ¬ T lb ∧ ¬ R lb ∧ ¬ T mb ∧ ¬ R mb ∧ lb ≠ mb ∧ l.many ≤ 800 := by
  rcases h.logs with q | ⟨l', lb', mb', q1, q2, q3, q4, q5, q⟩
  · cases q.2.1
  · cases q2
    exact ⟨l', mb', q1, q3, q4, q5, q⟩
theorem PlayIn.refA {w0 w w1 : World} {db rb lb : Nat} {T R : Nat → Prop} {pm : Option Addr} {d : Dk} {lo : Option Lg} {n : Nat} {o : Lg × Dk × Int} {e : Ending} (h : PlayIn w0 w db rb T R (some ⟨lb, 0, none⟩) pm d lo n) (h1 : AppIs w db lb T o e w1) : ROk w1 rb R d := by
  obtain ⟨l, mb, _, _, _, _, _, _, _, q, _⟩ := h.logs1
  obtain ⟨-, _, T', hD, hT1, hT2, hT3⟩ := h1
  exact h.ref.foreign hT3 fun k hk e => by
    rcases hk with hk | hk
    · exact h.apart k hk e
    · rw [hk] at e
      exact q e
theorem PlayIn.le {w0 w : World} {db rb : Nat} {T R : Nat → Prop} {pl pm : Option Addr} {d : Dk} {lo : Option Lg} {n m : Nat} (h : PlayIn w0 w db rb T R pl pm d lo n) (hm : n ≤ m) : PlayIn w0 w db rb T R pl pm d lo m := ⟨h.disk, h.ref, h.told, h.rold, h.apart, h.kept.le hm, h.logs, h.below⟩
theorem turned_drew {S : Nat → Prop} {w w' : World} (h : Turned S w.drew.heap.size w.drew w') : Turned S w.heap.size w w' := (Turned.of_below (Below.refl w.heap.size w).drew (Nat.le_refl _)).trans h
theorem DGo.undrew {w w' : World} {db : Nat} {T : Nat → Prop} {d : Dk} (h : DGo w.drew db T d w') : DGo w db T d w' := ⟨h.1, turned_drew h.2⟩
theorem RGo.undrew {w w' : World} {rb : Nat} {T : Nat → Prop} {d : Dk} (h : RGo w.drew rb T d w') : RGo w rb T d w' := ⟨h.1, turned_drew h.2⟩
theorem AppIs.older {w w' : World} {db lb bx : Nat} {T : Nat → Prop} {o : Lg × Dk × Int} {e : Ending} (h : AppIs w db lb T o e w') (hT : ∀ k, T k → k < bx) (hl : lb < bx) : Turned (fun k => k < bx) w.heap.size w w' := by
  obtain ⟨-, _, T', hD, hT1, hT2, hT3⟩ := h
  exact hT3.mono (Nat.le_refl _) fun k _ e => e.elim (hT k) fun e => e ▸ hl
end Go.Proofs.YtgglheelhbfgiaaGreatDoor

