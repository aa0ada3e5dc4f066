/-
  Items by rising paths: one order alone (plain law). What view.View computes. What view.View computes. A slice of items behind the sort: memory. slices.SortStableFunc at a slice of none. What view.View computes. Items put into their places: plain law.
-/
import Derived.Test.YtfbdbjookkogjaaDoorViewW2
import Derived.Test.YtfbdbjookkogjaaDoorStabS
import Derived.Maps.OwnSet
import Derived.Maps.Ext
import Derived.Sort.KeysCollected
import Derived.Test.YtfbdbjookkogjaaDoorViewW4
import Derived.Laws.EntriesVeiled
namespace Go.Proofs.YtfbdbjookkogjaaDoor
open Go Go.RowKit Go.Maps
theorem beforeV_lt : ∀ x y : List UInt8, bytesBefore x y = decide (x < y)
  | [], [] => by simp [bytesBefore]
  | _ :: _, [] => by simp [bytesBefore]
  | [], _ :: _ => by simp [bytesBefore]
  | a :: x, b :: y => by
    rw [bytesBefore, beforeV_lt x y]
    simp only [List.cons_lt_cons_iff]
    by_cases h1 : a < b <;> by_cases h2 : a = b <;> by_cases h3 : x < y <;> simp [h1, h2, h3]
theorem lessV_before : ∀ x y : List UInt8, Op.bytesLess x y = bytesBefore x y
  | [], [] => rfl
  | _ :: _, [] => rfl
  | [], _ :: _ => rfl
  | a :: x, b :: y => by rw [Op.bytesLess, bytesBefore, lessV_before x y]
theorem ltI_irr (x : Itm) : ltI x x = false := by
  unfold ltI
  rw [beforeV_lt]
  exact decide_eq_false (List.lt_irrefl _)
theorem ltI_trans {x y z : Itm} (h1 : ltI x y = true) (h2 : ltI y z = true) : ltI x z = true := by
  unfold ltI at *
  rw [beforeV_lt] at *
  exact decide_eq_true (List.lt_trans (of_decide_eq_true h1) (of_decide_eq_true h2))
theorem ltI_total {x y : Itm} (h : pI x ≠ pI y) : ltI x y = true ∨ ltI y x = true := by
  unfold ltI
  rw [beforeV_lt, beforeV_lt]
  unfold pI at h
  rcases Classical.em (x.path.data.toList < y.path.data.toList) with h1 | h1
  · exact .inl (decide_eq_true h1)
  · rcases Classical.em (y.path.data.toList < x.path.data.toList) with h2 | h2
    · exact .inr (decide_eq_true h2)
    · exact absurd (List.le_antisymm (List.not_lt.1 h2) (List.not_lt.1 h1)) h
theorem ltI_eq {x y z : Itm} (h : pI x = pI y) : ltI x z = ltI y z ∧ ltI z x = ltI z y := by
  unfold ltI
  unfold pI at h
  rw [h]
  exact ⟨rfl, rfl⟩
theorem ltOf_cmpI (x y : Itm) : Go.Proofs.ltOf cmpI x y = ltI x y := by
  unfold Go.Proofs.ltOf cmpI cmpB ltI
  rw [← lessV_before, ByteArray.toList_eq, ByteArray.toList_eq]
  cases Op.bytesLess x.path.data.toList y.path.data.toList with
  | true => rfl
  | false =>
    rw [if_neg (by simp)]
    split <;> rfl
theorem swoI : Go.Sort.SWO (Go.Proofs.ltOf cmpI) where
  irrefl x := by rw [ltOf_cmpI]; exact ltI_irr x
  trans x y z h1 h2 := by
    rw [ltOf_cmpI] at *
    exact ltI_trans h1 h2
  ntrans x y z h1 h2 := by
    rw [ltOf_cmpI] at *
    cases h : ltI x z with
    | false => rfl
    | true =>
      by_cases e : pI x = pI y
      · rw [(ltI_eq e).1] at h
        rw [h] at h2
        cases h2
      · rcases ltI_total e with h3 | h3
        · rw [h3] at h1
          cases h1
        · rw [ltI_trans h3 h] at h2
          cases h2
def RisI (l : List Itm) : Prop := l.Pairwise fun x y => ltI x y = true
theorem insI_ris {x : Itm} : ∀ {l}, RisI l → (∀ y ∈ l, pI y ≠ pI x) → RisI (insI x l)
  | [], _, _ => List.pairwise_singleton _ _
  | y :: r, h, hx => by
    unfold insI
    split
    · rename_i hb
      refine List.pairwise_cons.2 ⟨fun z hz => ?_, h⟩
      rcases List.mem_cons.1 hz with rfl | hz
      · exact hb
      · exact ltI_trans hb ((List.pairwise_cons.1 h).1 z hz)
    · rename_i hb
      have hyx : ltI y x = true := (ltI_total (hx y List.mem_cons_self)).resolve_right hb
      refine List.pairwise_cons.2 ⟨fun z hz => ?_, insI_ris (List.pairwise_cons.1 h).2 (fun z hz => hx z (List.mem_cons_of_mem _ hz))⟩
      rcases mem_insI.1 hz with rfl | hz
      · exact hyx
      · exact (List.pairwise_cons.1 h).1 z hz
theorem insI_perm (x : Itm) : ∀ l, (insI x l).Perm (x :: l)
  | [] => List.Perm.refl _
  | y :: r => by
    unfold insI
    split
    · exact List.Perm.refl _
    · exact ((insI_perm x r).cons y).trans (List.Perm.swap x y r)
theorem sortI_does : ∀ (l s : List Itm), RisI s → (s ++ l).Pairwise (fun x y => pI x ≠ pI y) → RisI (l.foldl (fun s x => insI x s) s) ∧ (l.foldl (fun s x => insI x s) s).Perm (s ++ l)
  | [], s, h, _ => ⟨h, by simp⟩
  | x :: l, s, h, hp => by
    have hp1 := List.pairwise_append.1 hp
    have hi := insI_perm x s
    have h2 : (s ++ x :: l).Perm (insI x s ++ l) := List.perm_middle.trans (hi.symm.append_right l)
    have hp2 : (insI x s ++ l).Pairwise (fun x y => pI x ≠ pI y) := (h2.pairwise_iff (fun h => Ne.symm h)).1 hp
    obtain ⟨r1, r2⟩ := sortI_does l (insI x s) (insI_ris h fun y hy => hp1.2.2 y hy x List.mem_cons_self) hp2
    exact ⟨r1, r2.trans h2.symm⟩
/-- The one list by rising paths. -/
theorem sortI_one {l l' : List Itm} (hp : l.Pairwise fun x y => pI x ≠ pI y) (h : l'.Perm l) (hs : ∀ (i j : Nat) (x y : Itm), l'[i]? = some x → l'[j]? = some y → i < j → ltI y x = false) : l' = sortI l := by
  obtain ⟨r1, r2⟩ := sortI_does l [] List.Pairwise.nil (by simpa using hp)
  rw [List.nil_append] at r2
  have hp2 : l'.Pairwise (fun x y => pI x ≠ pI y) := (h.symm.pairwise_iff (fun h => Ne.symm h)).1 hp
  have hr : RisI l' := by
    unfold RisI
    rw [List.pairwise_iff_getElem] at hp2 ⊢
    intro i j hi hj hij
    refine (ltI_total (hp2 i j hi hj hij)).resolve_right fun h2 => ?_
    rw [hs i j _ _ (List.getElem?_eq_getElem hi) (List.getElem?_eq_getElem hj) hij] at h2
    cases h2
  exact List.Perm.eq_of_pairwise (le := fun x y => ltI x y = true) (fun (x y : Itm) _ _ (h1 : ltI x y = true) (h2 : ltI y x = true) => by have h3 := ltI_trans h1 h2; rw [ltI_irr] at h3; cases h3) hr r1 (h.trans r2.symm)
end Go.Proofs.YtfbdbjookkogjaaDoor

namespace Go.Proofs.YtfbdbjookkogjaaDoor
open Go Go.RowKit Go.Lib
section
variable {wE : World} {n0 mb vb ob db B : Nat} {av : Option Addr} {cv : Nat} {nodes : List Nd}
theorem down_any (hk : BlkOK n0 mb vb ob db B) (hn0 : n0 = wE.heap.size) (hT : Tab wE) (hr : RowsAt ndLay wE av nodes) (hok : NdsOK nodes) : ∀ (f dp : Nat) (c q : Int) (ahead : ByteArray) (out : List Itm) (v : Value) (W : World), dp + f = 16 → ahead.size + 30 * (f + 1) ≤ 1000000 → VSt wE n0 mb vb ob db B av cv nodes W out v → OutOK nodes out →
    Calls Tryd.prog 28 #[.agg #[.int .i64 c, .int .i64 q], .string ahead, .int .i64 dp, .pointer (some ⟨n0, 0, none⟩), .pointer (some ⟨vb, 0, none⟩), .pointer (some ⟨ob, 0, none⟩), .pointer (some ⟨db, 0, none⟩)] W (DownP wE n0 mb vb ob db B av cv nodes W v (downV nodes f c q ahead out))
  | 0, dp, c, q, ahead, out, v, W, hdf, _, hst, hout => by
    obtain rfl : dp = 16 := by omega
    exact down_zero hk hn0 hT hr hok c q ahead out v W hst hout
  | f + 1, dp, c, q, ahead, out, v, W, hdf, hah, hst, hout =>
    down_succ f hk hn0 hT hr hok (down_any hk hn0 hT hr hok f) dp c q ahead out v W hdf hah hst hout
end
end Go.Proofs.YtfbdbjookkogjaaDoor

namespace Go.Proofs.YtfbdbjookkogjaaDoor
open Go Go.RowKit Go.Lib
/-- The memory in which view.View calls its closure first. -/
theorem view_vars (w : World) (s : Value) (t1 t2 t3 t4 : TypeId) (W5 : World) (h5 : W5 = ((((w.alloc (.cells #[s] t1)).alloc (.map #[] 0)).alloc (.cells #[.map (some (w.heap.size + 1))] t2)).alloc (.cells #[.slice none 0 0] t3)).alloc (.cells #[.nilFunc] t4)) :
    VarAt W5 w.heap.size [s] ∧ MapOf Pr.val W5 (w.heap.size + 1) 0 (fun _ => none) ∧ VarAt W5 (w.heap.size + 1 + 1) [.map (some (w.heap.size + 1))] ∧ VarAt W5 (w.heap.size + 1 + 1 + 1) [.slice none 0 0] ∧ VarAt W5 (w.heap.size + 1 + 1 + 1 + 1) [.nilFunc] ∧ W5.heap.size = w.heap.size + 5 ∧ Below w.heap.size w W5 := by
  obtain ⟨w1, e1⟩ : ∃ w1, w1 = w.alloc (.cells #[s] t1) := ⟨_, rfl⟩
  rw [← e1] at h5
  have z1 : w1.heap.size = w.heap.size + 1 := by rw [e1]; simp
  have a1 : VarAt w1 w.heap.size [s] := e1 ▸ VarAt.new w #[s] t1
  have b1 : Below w.heap.size w w1 := e1 ▸ (Below.refl _ _).alloc (Nat.le_refl _) _
  clear e1
  obtain ⟨w2, e2⟩ : ∃ w2, w2 = w1.alloc (.map #[] 0) := ⟨_, rfl⟩
  rw [← e2] at h5
  have z2 : w2.heap.size = w.heap.size + 2 := by rw [e2]; simp [z1]
  have m2 : MapOf Pr.val w2 w1.heap.size 0 (fun _ => none) := e2 ▸ MapOf.made w1
  have b2 : Below w1.heap.size w1 w2 := e2 ▸ (Below.refl _ _).alloc (Nat.le_refl _) _
  clear e2
  obtain ⟨w3, e3⟩ : ∃ w3, w3 = w2.alloc (.cells #[.map (some (w.heap.size + 1))] t2) := ⟨_, rfl⟩
  rw [← e3] at h5
  have z3 : w3.heap.size = w.heap.size + 3 := by rw [e3]; simp [z2]
  have a3 : VarAt w3 w2.heap.size [.map (some (w.heap.size + 1))] := e3 ▸ VarAt.new w2 #[.map (some (w.heap.size + 1))] t2
  have b3 : Below w2.heap.size w2 w3 := e3 ▸ (Below.refl _ _).alloc (Nat.le_refl _) _
  clear e3
  obtain ⟨w4, e4⟩ : ∃ w4, w4 = w3.alloc (.cells #[.slice none 0 0] t3) := ⟨_, rfl⟩
  rw [← e4] at h5
  have z4 : w4.heap.size = w.heap.size + 4 := by rw [e4]; simp [z3]
  have a4 : VarAt w4 w3.heap.size [.slice none 0 0] := e4 ▸ VarAt.new w3 #[.slice none 0 0] t3
  have b4 : Below w3.heap.size w3 w4 := e4 ▸ (Below.refl _ _).alloc (Nat.le_refl _) _
  clear e4
  have z5 : W5.heap.size = w.heap.size + 5 := by rw [h5]; simp [z4]
  have a5 : VarAt W5 w4.heap.size [.nilFunc] := h5 ▸ VarAt.new w4 #[.nilFunc] t4
  have b5 : Below w4.heap.size w4 W5 := h5 ▸ (Below.refl _ _).alloc (Nat.le_refl _) _
  clear h5
  rw [z1] at m2
  rw [z2] at a3
  rw [z3] at a4
  rw [z4] at a5
  have b45 := b4.trans (b5.mono (by omega))
  have b35 := b3.trans (b45.mono (by omega))
  have b25 := b2.trans (b35.mono (by omega))
  exact ⟨a1.keeps b25 (by omega), m2.below b35 (by omega), a3.keeps b45 (by omega), a4.keeps b5 (by omega), a5, z5, b1.trans (b25.mono (by omega))⟩
theorem view_vst (w : World) (av : Option Addr) (cv : Nat) (nodes : List Nd) (W5 : World) (h : VarAt W5 w.heap.size [.slice av nodes.length cv] ∧ MapOf Pr.val W5 (w.heap.size + 1) 0 (fun _ => none) ∧ VarAt W5 (w.heap.size + 1 + 1) [.map (some (w.heap.size + 1))] ∧ VarAt W5 (w.heap.size + 1 + 1 + 1) [.slice none 0 0] ∧ VarAt W5 (w.heap.size + 1 + 1 + 1 + 1) [.nilFunc] ∧ W5.heap.size = w.heap.size + 5 ∧ Below w.heap.size w W5) :
    VSt w w.heap.size (w.heap.size + 1) (w.heap.size + 1 + 1) (w.heap.size + 1 + 1 + 1) (w.heap.size + 1 + 1 + 1 + 1) (w.heap.size + 5) av cv nodes (W5.setCell ⟨w.heap.size + 1 + 1 + 1 + 1, 0, none⟩ (downF w.heap.size (w.heap.size + 1 + 1) (w.heap.size + 1 + 1 + 1) (w.heap.size + 1 + 1 + 1 + 1))) [] (.slice none 0 0) := by
  obtain ⟨h1, h2, h3, h4, h5, h6, h7⟩ := h
  refine ⟨h7.setCell (by show _ ≤ w.heap.size + 1 + 1 + 1 + 1; omega) _, (h1.other _ (by omega)).2.2 0 _ rfl, (h3.other _ (by omega)).2.2 0 _ rfl, ⟨0, (h2.of_block (heap_other W5 _ (by omega))).congr fun p => rfl⟩, h4.other _ (by omega), (h5.set 0 _ (by simp)).2.2 0 _ rfl, OwnRows.nil _ _ _ _, by simp; omega⟩
theorem view_blk (n : Nat) : BlkOK n (n + 1) (n + 1 + 1) (n + 1 + 1 + 1) (n + 1 + 1 + 1 + 1) (n + 5) := ⟨by omega, by omega, by omega, by omega, by omega⟩
end Go.Proofs.YtfbdbjookkogjaaDoor

namespace Go.Proofs
open Go Go.Shelf Go.RowKit Go.Lib Go.Sort
theorem swk_below {α : Type} [Inhabited α] {enc : α → List Value} {k B blk off : Nat} {w0 W : World} {dk : Array α} (h : SWK enc k w0 blk off dk W) (hB : B ≤ blk) (hw : B ≤ w0.heap.size) : Go.RowKit.Below B w0 W := by
  obtain ⟨n, os, rfl⟩ := h
  refine ⟨rfl, rfl, rfl, ?_, fun j hj => ?_⟩
  · unfold sortWorldK putRowK
    rw [size_grow, size_putRow]
    exact Nat.le_add_right _ _
  · unfold sortWorldK putRowK «Sort».grow «Sort».putRow «Sort».mapBlock
    show ((«Sort».ahead w0 n).heap.modify _ _ ++ os)[j]? = _
    rw [Array.getElem?_append_left (by simp; omega), Array.getElem?_modify, if_neg (by omega)]
    rfl
end Go.Proofs
namespace Go.Proofs.YtfbdbjookkogjaaDoor
open Go Go.RowKit Go.Lib Go.Shelf
theorem holds_of_own {w : World} {base g cap : Nat} {e : TypeId} {xs : List Itm} (h : OwnRows itmLay w base e (.slice (some ⟨g, 0, none⟩) xs.length cap) xs) : Go.Sort.HoldsK Itm.cells 6 w g 0 xs.toArray := by
  obtain ⟨a, c, e1, hr, _⟩ := h.read
  obtain ⟨_, ⟨h2, _⟩ | ⟨g', cap', cur, he, _, hheap, _⟩⟩ := h
  · cases h2
  · cases he
    cases e1
    intro j hj
    rw [Go.Sort.size_flatK] at hj
    rw [Go.Sort.get_flatK _ _ _ _ hj]
    have hj' : j < xs.length * 6 := by simpa using hj
    obtain ⟨x, hx⟩ := at_some (show j / 6 < xs.length by omega)
    have hd : xs.toArray[j / 6]! = x := by
      rw [List.getElem!_toArray, List.getElem!_eq_getElem?_getD, hx]
      rfl
    rw [hd]
    have hl : j % 6 < (Itm.cells x).length := Nat.mod_lt _ (by decide)
    obtain ⟨b, off, e2, _, hc⟩ := hr (j / 6) x hx
    cases e2
    refine ⟨?_, ?_⟩
    · have h3 := hc (j % 6) _ (List.getElem?_eq_getElem hl)
      rw [show 0 + j / 6 * itmLay.sz + j % 6 = 0 + j by show 0 + j / 6 * 6 + j % 6 = 0 + j; omega] at h3
      rw [h3, List.getElem!_eq_getElem?_getD, List.getElem?_eq_getElem hl]
      rfl
    · simp [World.frozen?, hheap]
theorem rows_of_holds {w : World} {g : Nat} {d : Array Itm} (hg : g < w.heap.size) (h : Go.Sort.HoldsK Itm.cells 6 w g 0 d) : RowsAt itmLay w (some ⟨g, 0, none⟩) d.toList := by
  intro k x hk
  refine ⟨g, 0, rfl, hg, fun c v hv => ?_⟩
  have hkl : k < d.size := by simpa using (List.getElem?_eq_some_iff.1 hk).1
  have h1 := HoldsK.cells h (fun _ => rfl) hkl c v (by
    have : d[k]! = x := by
      rw [getElem!_pos d k hkl]
      have := (List.getElem?_eq_some_iff.1 hk).2
      simpa using this
    rw [this]
    exact hv)
  show w.cell? ⟨g, 0 + k * 6 + c, none⟩ = some v
  by_cases hc : c = 0
  · subst hc
    simpa [Addr.add] using h1
  · simpa [Addr.add, hc] using h1
end Go.Proofs.YtfbdbjookkogjaaDoor

namespace Go.Proofs.YtfbdbjookkogjaaDoor
open Go Go.RowKit Go.Lib
set_option maxRecDepth 100000 in
set_option maxHeartbeats 1600000 in
theorem ins_nil (w : World) : Calls Tryd.prog 65 #[.slice none 0 0, .int .i64 0, .int .i64 0, .func (.func 31) #[] #[]] w fun e w' => e = .returned (.tuple #[]) ∧ w' = w := by
  go_enter Tryd.func65, Tryd.ntmps65
  go_wp2_with fail
  go_loopw [8] (fun i wr => i = .int .i64 1 ∧ wr = w) (fun _ _ => 0)
  case atStart => exact ⟨rfl, rfl⟩
  case round =>
    obtain ⟨rfl, hw⟩ := hrel
    rw [hw]
    clear hw
    go_wp2_with fail
    go_end0
    exact ⟨rfl, rfl⟩
set_option maxRecDepth 100000 in
set_option maxHeartbeats 1600000 in
theorem stable_nil (w : World) : Calls Tryd.prog 44 #[.slice none 0 0, .int .i64 0, .func (.func 31) #[] #[]] w fun e w' => e = .returned (.tuple #[]) ∧ w' = w := by
  have HI := Lib.hid (ins_nil w)
  go_enter Tryd.func44, Tryd.ntmps44
  go_wp2_with fail
  go_loopw [7, 8] (fun i j wr => i = .int .i64 0 ∧ j = .int .i64 20 ∧ wr = w) (fun _ _ _ => 0)
  case atStart => exact ⟨rfl, rfl, rfl⟩
  case round =>
    obtain ⟨rfl, rfl, hw⟩ := hrel
    rw [hw]
    clear hw
    go_wp2_with fail
    refine HI.out.mono ?_
    rintro e w2 ⟨rfl, hw2⟩
    rw [hw2]
    clear hw2
    go_wp2_with fail
    go_loopw [6, 7, 8, 9] (fun s _ _ _ wr => s = .int .i64 20 ∧ wr = w) (fun _ _ _ _ _ => 0)
    case atStart => exact ⟨rfl, rfl⟩
    case round =>
      obtain ⟨rfl, hw⟩ := hrel
      rw [hw]
      clear hw
      go_wp2_with fail
      go_end0
      exact ⟨rfl, rfl⟩
set_option maxRecDepth 100000 in
set_option maxHeartbeats 1600000 in
theorem sort_nil (w : World) : Calls Tryd.prog 30 #[.slice none 0 0, .func (.func 31) #[] #[]] w fun e w' => e = .returned (.tuple #[]) ∧ w' = w := by
  have HS := Lib.hid (stable_nil w)
  go_enter Tryd.func30, Tryd.ntmps30
  go_wp2_with fail
  refine HS.out.mono ?_
  rintro e w2 ⟨rfl, hw2⟩
  rw [hw2]
  clear hw2
  go_wp2_with fail
  go_end0
  exact ⟨rfl, rfl⟩
end Go.Proofs.YtfbdbjookkogjaaDoor

namespace Go.Proofs.YtfbdbjookkogjaaDoor
open Go Go.RowKit Go.Lib
set_option maxRecDepth 100000 in
set_option maxHeartbeats 6400000 in
theorem view_any (av : Option Addr) (cv : Nat) (nodes : List Nd) (w : World) (hT : Tab w) (hr : RowsAt ndLay w av nodes) (hok : NdsOK nodes) :
    Calls Tryd.prog 11 #[.slice av nodes.length cv] w fun e w' => ∃ (a : Option Addr) (cap : Nat), e = .returned (.tuple #[.slice a (viewF nodes).1.length cap, .int .i64 (viewF nodes).2]) ∧ RowsAt itmLay w' a (viewF nodes).1 ∧ Below w.heap.size w w' ∧ ∀ ad, a = some ad → w.heap.size ≤ ad.block := by
  have hmm := @run_makeMap Tryd.prog
  obtain ⟨W5, h5⟩ : ∃ W5, W5 = ((((w.alloc (.cells #[.slice av nodes.length cv] 22)).alloc (.map #[] 0)).alloc (.cells #[.map (some (w.heap.size + 1))] 61)).alloc (.cells #[.slice none 0 0] 25)).alloc (.cells #[.nilFunc] 62) := ⟨_, rfl⟩
  have hV := view_vars w _ _ _ _ _ W5 h5
  have hS := view_vst w av cv nodes W5 hV
  have HV := Lib.hid hV
  have HB := Lib.hid (view_blk w.heap.size)
  have HD := Lib.hid (down_any HB.out rfl hT hr hok 16 0 0 0 ⟨#[]⟩ [] (.slice none 0 0) _ rfl (by decide) hS ⟨fun x hx => absurd hx (by simp), List.Pairwise.nil⟩)
  have hz5 := hV.2.2.2.2.2.1
  have hb5 := hV.2.2.2.2.2.2
  have hvd := hV.2.2.2.2.1
  obtain ⟨db, hdb⟩ : ∃ db, db = w.heap.size + 1 + 1 + 1 + 1 := ⟨_, rfl⟩
  obtain ⟨ob, hob⟩ : ∃ ob, ob = w.heap.size + 1 + 1 + 1 := ⟨_, rfl⟩
  obtain ⟨vb, hvb⟩ : ∃ vb, vb = w.heap.size + 1 + 1 := ⟨_, rfl⟩
  obtain ⟨mb, hmb⟩ : ∃ mb, mb = w.heap.size + 1 := ⟨_, rfl⟩
  rw [← hdb, ← hob, ← hvb, ← hmb] at HD hS HB
  rw [← hdb] at hvd
  have q1 := hvd.2.2 0 _ rfl
  have q2 := hvd.2.1 0
  have hdv := hS.dv
  unfold downF at hdv HD
  have Hdb := Lib.hid hdb
  have Hob := Lib.hid hob
  have Hvb := Lib.hid hvb
  have Hmb := Lib.hid hmb
  clear hT hr hV hS hvd hdb hob hvb hmb HV
  have H5 := Lib.hid h5
  clear h5
  go_enter Tryd.func11, Tryd.ntmps11
  go_upto_region 4 with fail
  rw [← H5.out, ← Hdb.out, ← Hob.out, ← Hvb.out, ← Hmb.out]
  go_wp2_with fail
  refine HD.out.mono ?_
  rintro e w6 ⟨rfl, v7, hst7, hout7, hv7, ht7⟩
  have HA := Lib.hid (down_adds nodes 16 0 0 ⟨#[]⟩ [])
  have Hf := Lib.hid (show viewF nodes = if (downV nodes 16 0 0 ⟨#[]⟩ []).2 = 0 then (sortI (downV nodes 16 0 0 ⟨#[]⟩ []).1, 0) else ([], (downV nodes 16 0 0 ⟨#[]⟩ []).2) from rfl)
  obtain ⟨r, hr⟩ : ∃ r, downV nodes 16 0 0 ⟨#[]⟩ [] = r := ⟨_, rfl⟩
  rw [hr] at hst7 hout7 HA Hf ⊢
  obtain ⟨ro, re⟩ := r
  dsimp only at hst7 hout7 HA Hf
  clear hr HD hdv q1 q2 ht7 hv7 H5 hb5
  by_cases hre : re = 0
  · subst hre
    have HF := Lib.hid (show viewF nodes = (sortI ro, 0) by rw [Hf.out, if_pos rfl])
    have Hun := Lib.hid (show ro.Pairwise fun x y => pI x ≠ pI y by
      obtain ⟨new, h1, _, h3⟩ := HA.out rfl
      rw [List.nil_append] at h1
      have h4 : ro = new := h1
      rw [h4]
      exact h3)
    have hbel := hst7.bel
    have hov := hst7.ov.2.2 0 _ rfl
    have hrows := hst7.rows
    have hlen := out_len hout7
    have hl2 := hok.len
    clear hst7 hout7 HA Hf
    obtain ⟨a7, c7, rfl, hr7, _⟩ := hrows.read
    cases a7 with
    | none =>
      obtain ⟨hl0, hc0⟩ : ro.length = 0 ∧ c7 = 0 := by
        obtain ⟨_, ⟨h2, _⟩ | ⟨g', cap', cur, he, _⟩⟩ := hrows
        · injection h2 with _ e1 e2
          exact ⟨e1, e2⟩
        · cases he
      obtain rfl : ro = [] := List.length_eq_zero_iff.1 hl0
      subst hc0
      have HSN := Lib.hid (sort_nil w6)
      rw [List.length_nil] at hov
      clear hl0 hrows hr7 hlen
      go_wp2_with fail
      refine HSN.out.mono ?_
      rintro e w8 ⟨rfl, hw8⟩
      rw [hw8]
      clear hw8
      go_wp2_with fail
      go_ret2
      rw [HF.out]
      exact ⟨none, 0, rfl, fun k x hk => by simp [sortI] at hk, hbel, fun ad e => by cases e⟩
    | some ad =>
      obtain ⟨g7, rfl⟩ : ∃ g, ad = ⟨g, 0, none⟩ := by
        obtain ⟨_, ⟨h2, _⟩ | ⟨g', cap', cur, he, _⟩⟩ := hrows
        · cases h2
        · cases he
          exact ⟨_, rfl⟩
      obtain ⟨hg1, hg2⟩ := hrows.lt (k := g7) rfl
      have hH := holds_of_own hrows
      have HSS := Lib.hid (sortStable_any cmpI swoI g7 0 c7 ro.toArray w6 (fun m os dk _ x y => byPath2_any x y _) hH hg2 (by simp; omega))
      rw [List.size_toArray] at HSS
      have HH := Lib.hid hH
      clear hH hrows hr7
      go_wp2_with fail
      refine HSS.out.mono ?_
      rintro e w8 ⟨rfl, d8, hp8, hs8, hw8⟩
      have hov8 := (Go.Proofs.swk_below hw8 (B := w.heap.size + 5) hg1 (by omega)).cell (p := ⟨ob, 0, none⟩) (by show ob < _; rw [Hob.out]; omega)
      have hov9 := hov8.trans hov
      have hb8 := hbel.trans (Go.Proofs.swk_below hw8 (B := w.heap.size) (by omega) (by have := hbel.size; omega))
      have hH8 := Go.Proofs.SWK.holds hw8 hg2 HH.out hp8.1
      have hr8 := rows_of_holds (Go.Proofs.SWK.lt hw8 hg2) hH8
      have hz8 : d8.size = ro.length := by simpa using hp8.1
      have hone : d8.toList = sortI ro := sortI_one Hun.out (by
        have h1 := hp8.2.2
        simp only [List.extract_toArray, Array.toList_extract, List.extract_eq_take_drop, List.drop_zero, Nat.sub_zero] at h1
        rw [List.take_of_length_le (by simp [hz8]), List.take_of_length_le (Nat.le_refl _)] at h1
        exact h1) (fun i j x y hx hy hij => by
        have hj : j < d8.size := by simpa using (List.getElem?_eq_some_iff.1 hy).1
        have h1 := hs8 i j (Nat.zero_le _) hij (by rw [← hz8]; exact hj)
        rw [ltOf_cmpI, getElem!_pos d8 i (by omega), getElem!_pos d8 j hj] at h1
        have h2 := (List.getElem?_eq_some_iff.1 hx).2
        have h3 := (List.getElem?_eq_some_iff.1 hy).2
        rw [Array.getElem_toList] at h2 h3
        rw [h2, h3] at h1
        exact h1)
      rw [hone] at hr8
      have hlen8 : (sortI ro).length = ro.length := by
        rw [← hone]
        simpa using hz8
      clear hov hov8 hw8 hs8 hp8 hH8 hone
      go_wp2_with fail
      go_ret2
      rw [HF.out]
      exact ⟨some ⟨g7, 0, none⟩, c7, by rw [hlen8]; rfl, hr8, hb8, fun ad e => by
        obtain rfl := Option.some.inj e
        show w.heap.size ≤ g7
        omega⟩
  · have HF := Lib.hid (show viewF nodes = ([], re) by rw [Hf.out, if_neg hre])
    have hq : (re != 0) = true := bne_iff_ne.2 hre
    have hbel := hst7.bel
    clear hst7 hout7 HA Hf
    go_wp2_with fail
    go_ret2
    rw [HF.out]
    exact ⟨none, 0, rfl, fun k x hk => by simp at hk, hbel, fun ad e => by cases e⟩
end Go.Proofs.YtfbdbjookkogjaaDoor

namespace Go.Proofs.YtfbdbjookkogjaaDoor
open Go Go.RowKit
theorem insI_at (x : Itm) : ∀ (l : List Itm) (t : Nat), t ≤ l.length → (∀ j y, j < t → l[j]? = some y → ltI x y = false) → (∀ y, l[t]? = some y → ltI x y = true) → insI x l = l.take t ++ x :: l.drop t
  | [], t, ht, _, _ => by
    obtain rfl : t = 0 := Nat.le_zero.1 ht
    rfl
  | y :: r, 0, _, _, h2 => by
    unfold insI
    rw [if_pos (h2 y rfl)]
    rfl
  | y :: r, t + 1, ht, h1, h2 => by
    unfold insI
    rw [if_neg (by rw [h1 0 y (Nat.succ_pos _) rfl]; simp), insI_at x r t (Nat.le_of_succ_le_succ ht) (fun j z hj hz => h1 (j + 1) z (by omega) hz) (fun z hz => h2 z hz)]
    rfl
/-- No later one is below. -/
def SrtI (l : List Itm) : Prop := l.Pairwise fun x y => ltI y x = false
theorem insI_srt {x : Itm} : ∀ {l}, SrtI l → SrtI (insI x l)
  | [], _ => List.pairwise_singleton _ _
  | y :: r, h => by
    obtain ⟨h1, h2⟩ := List.pairwise_cons.1 h
    unfold insI
    split
    · rename_i hb
      have hba : ∀ z, ltI z y = false → ltI z x = false := fun z hz => by
        cases hzx : ltI z x with
        | false => rfl
        | true =>
          rw [ltI_trans hzx hb] at hz
          cases hz
      refine List.pairwise_cons.2 ⟨fun z hz => ?_, h⟩
      rcases List.mem_cons.1 hz with rfl | hz
      · exact hba _ (ltI_irr _)
      · exact hba _ (h1 z hz)
    · rename_i hb
      refine List.pairwise_cons.2 ⟨fun z hz => ?_, insI_srt h2⟩
      rcases mem_insI.1 hz with rfl | hz
      · simpa using hb
      · exact h1 z hz
theorem sortI_from : ∀ (l s : List Itm), SrtI s → SrtI (l.foldl (fun s x => insI x s) s)
  | [], _, h => h
  | _ :: l, _, h => sortI_from l _ (insI_srt h)
theorem sortI_srt (l : List Itm) : SrtI (sortI l) := sortI_from l [] List.Pairwise.nil
theorem sortI_snoc (l : List Itm) (x : Itm) : sortI (l ++ [x]) = insI x (sortI l) := by
  unfold sortI
  rw [List.foldl_append]
  rfl
theorem sortI_length : ∀ (l s : List Itm), (l.foldl (fun s x => insI x s) s).length = s.length + l.length
  | [], s => rfl
  | x :: l, s => by
    rw [List.foldl_cons, sortI_length l (insI x s), (insI_perm x s).length_eq, List.length_cons, List.length_cons]
    omega
end Go.Proofs.YtfbdbjookkogjaaDoor

