/-
  Two filters that both have a path show the same there: the plain law. Two filters that both have a path show the same there: the law. A With rule more shows no less: the plain law. A With rule more shows no less: the law. How the items of a tree stand below one another: plain law. What a filter shows stands in directories that are shown: the plain law. What a filter shows: its directories, what makes a ghost, how many are real (plain law).
-/
import Derived.Test.YtfbdbjookkogjaaDoorShownG
import Derived.Test.YtfbdbjookkogjaaDoorViewF2
import Derived.Lib.QuietBelow
import Derived.BigQuiet
import Derived.Test.YtfbdbjookkogjaaDoorViewPure
namespace Go.Proofs.YtfbdbjookkogjaaDoor
open Go Go.RowKit
theorem sortI_perm {l : List Itm} (h : l.Pairwise fun x y => pI x ≠ pI y) : (sortI l).Perm l := by
  have h1 := (sortI_does l [] List.Pairwise.nil (by simpa using h)).2
  rw [List.nil_append] at h1
  exact h1
theorem viewF_unlike (nodes : List Nd) : (viewF nodes).1.Pairwise fun x y => pI x ≠ pI y := by
  unfold viewF
  split
  · rename_i h
    obtain ⟨new, e, _, hp⟩ := down_adds nodes 16 0 0 ⟨#[]⟩ [] h
    rw [List.nil_append] at e
    have hp2 : (downV nodes 16 0 0 ⟨#[]⟩ []).1.Pairwise fun x y => pI x ≠ pI y := by rw [e]; exact hp
    exact ((sortI_perm hp2).symm.pairwise_iff (fun h => Ne.symm h)).1 hp2
  · exact List.Pairwise.nil
theorem show_path {l : List Rul} {xs : List Itm} {x y : Itm} (h : showG l xs x = some y) : y.path = x.path ∧ y.cnt = x.cnt ∧ y.who = x.who ∧ y.dir = x.dir := by
  unfold showG at h
  split at h
  · cases h
    exact ⟨rfl, rfl, rfl, rfl⟩
  · split at h
    · cases h
      exact ⟨rfl, rfl, rfl, rfl⟩
    · cases h
theorem isPath_iff {s : ByteArray} {x : Itm} : isPath s x = true ↔ pI x = s.data.toList := by
  unfold isPath pI
  rw [beq_iff_eq, ByteArray.toList_eq, ByteArray.toList_eq]
theorem find_show {f : Itm → Option Itm} (hf : ∀ x y, f x = some y → y.path = x.path) : ∀ (xs : List Itm), (xs.Pairwise fun x y => pI x ≠ pI y) → ∀ x y, x ∈ xs → f x = some y → findI (isPath x.path) (xs.filterMap f) = (y, true)
  | [], _, x, y, hx, _ => by simp at hx
  | z :: r, hp, x, y, hx, hy => by
    obtain ⟨h1, h2⟩ := List.pairwise_cons.1 hp
    rw [List.filterMap_cons]
    rcases List.mem_cons.1 hx with rfl | hx
    · rw [hy]
      unfold findI
      have : isPath x.path y = true := isPath_iff.2 (by unfold pI; rw [hf x y hy])
      dsimp only
      rw [List.find?_cons_of_pos this]
    · have ih := find_show hf r h2 x y hx hy
      cases hz : f z with
      | none => exact ih
      | some z' =>
        have hne : ¬ isPath x.path z' = true := fun e => by
          have e2 := isPath_iff.1 e
          have e3 : pI z' = pI z := by unfold pI; rw [hf z z' hz]
          exact h1 x hx (e3.symm.trans e2)
        unfold findI at ih ⊢
        dsimp only
        rw [List.find?_cons_of_neg hne]
        exact ih
theorem find_proj {l : List Rul} {xs : List Itm} (hp : xs.Pairwise fun x y => pI x ≠ pI y) {x y : Itm} (hx : x ∈ xs) (hy : showG l xs x = some y) : findI (isPath x.path) (projG l xs xs.length) = (y, true) := by
  unfold projG
  rw [List.take_length]
  exact find_show (fun x y h => (show_path h).1) xs hp x y hx hy
theorem show_has {l : List Rul} {xs : List Itm} {x : Itm} (hg : GoodI x) (h : matchG l x.path x.dir = true) : showG l xs x = some x := by
  unfold showG inG
  rw [if_pos h]
  have := hg.1
  obtain ⟨a, b, c, d, e, f⟩ := x
  dsimp only at this
  subst this
  rfl
end Go.Proofs.YtfbdbjookkogjaaDoor

namespace Go.Proofs.YtfbdbjookkogjaaDoor
open Go Go.RowKit Go.Lib
def OKR (w : World) (b : Option Addr) (r : List Rul) (x : Itm) (m : Bool) : Prop := (∀ W, Below w.heap.size w W → RowsAt rulLay W b r) ∧ r.length ≤ 30 ∧ (∀ y ∈ r, y.text.size ≤ 500) ∧ matchG r x.path x.dir = m
theorem okr_match {w wr : World} {b : Option Addr} {d : Nat} {r : List Rul} {x : Itm} {m : Bool} (h : OKR w b r x m) (hw : Below w.heap.size w wr) (hp : x.path.size ≤ 1000) (dq : Nat) (osq : Array Obj) :
    Calls Tryd.prog 77 #[.slice b r.length d, .string x.path, .bool x.dir] («Sort».grow (redrawn wr dq) osq) fun e w' => e = .returned (.bool m) ∧ Below («Sort».grow (redrawn wr dq) osq).heap.size («Sort».grow (redrawn wr dq) osq) w' := by
  obtain ⟨h1, h2, h3, h4⟩ := h
  rw [← h4]
  exact match_any b d r x.path x.dir _ (fun y hy => by have := h3 y hy; omega) (by omega) (by omega) (h1 _ (hw.trans ((below_regrown wr dq osq).mono hw.size)))
theorem shown_ok {ops : List Opr} {rules : List Rul} {l p : List Itm} (h : shownF ops rules = (l, p, true)) : l = (viewF (foldT ops)).1 ∧ p = projG rules l l.length ∧ ops.length ≤ 60 ∧ rules.length ≤ 30 ∧ ∀ x ∈ rules, x.text.size ≤ 500 := by
  unfold shownF at h
  split at h
  · rename_i h1
    rw [Bool.and_eq_true] at h1
    have h2 := h1.1
    unfold okOps at h2
    rw [Bool.and_eq_true] at h2
    obtain ⟨e1, e2⟩ := Prod.mk.inj h
    obtain ⟨e2, _⟩ := Prod.mk.inj e2
    subst e1
    exact ⟨rfl, e2.symm, of_decide_eq_true h2.1, (fewP_parts h1.2).2.1, (fewP_parts h1.2).2.2.2⟩
  · cases h
end Go.Proofs.YtfbdbjookkogjaaDoor

namespace Go.Proofs.YtfbdbjookkogjaaDoor
open Go Go.RowKit
def AllWith (l : List Rul) : Prop := ∀ x ∈ l, x.kind = 1
theorem best_with {p : ByteArray} {l : List Rul} (h : AllWith l) : ∀ k, (bestG p l k).isSome = (l.take k).any fun x => withinG p x.text
  | 0 => rfl
  | k + 1 => by
    cases hx : l[k]? with
    | none =>
      have hk : l.length ≤ k := by
        rw [List.getElem?_eq_none_iff] at hx
        exact hx
      have e1 : bestG p l (k + 1) = bestG p l k := by simp only [bestG, hx]
      rw [e1, best_with h k, List.take_of_length_le hk, List.take_of_length_le (by omega)]
    | some x =>
      rw [bestG_step hx, List.take_add_one, hx, Option.toList_some, List.any_append, ← best_with h k]
      have hk := h x (List.mem_of_getElem? hx)
      have hs : saysG p x = withinG p x.text := by
        unfold saysG
        rw [hk]
        rfl
      rw [hs]
      cases hw : withinG p x.text with
      | false => simp [hw]
      | true =>
        cases hb : bestG p l k with
        | none => simp [hw, betterG]
        | some y =>
          cases betterG (some y) x <;> simp [hw]
theorem match_with {p : ByteArray} {d : Bool} {l : List Rul} (h : AllWith l) : matchG l p d = l.any fun x => withinG p x.text := by
  have h1 := best_with (p := p) h l.length
  rw [List.take_length] at h1
  rw [← h1]
  unfold matchG
  cases hb : bestG p l l.length with
  | none => rfl
  | some y =>
    have hy := h y (bestG_says p l l.length y hb).2
    have ht : (l.any fun x => x.kind == 3) = false := by
      rw [List.any_eq_false]
      intro x hx
      rw [h x hx]
      decide
    simp [hy, ht]
theorem match_more {p : ByteArray} {d : Bool} {l : List Rul} {r : Rul} (h : AllWith l) (hr : r.kind = 1) (hm : matchG l p d = true) : matchG (l ++ [r]) p d = true := by
  have h2 : AllWith (l ++ [r]) := fun x hx => by
    rcases List.mem_append.1 hx with hx | hx
    · exact h x hx
    · rw [List.mem_singleton.1 hx]
      exact hr
  rw [match_with h2, List.any_append, ← match_with (d := d) h, hm, Bool.true_or]
theorem overG_more {l : List Rul} {r : Rul} {xs : List Itm} {d : ByteArray} (h : AllWith l) (hr : r.kind = 1) (ho : overG l xs xs.length d = true) : overG (l ++ [r]) xs xs.length d = true := by
  rw [overG_all] at ho ⊢
  obtain ⟨y, hy, h2⟩ := List.any_eq_true.1 ho
  rw [Bool.and_eq_true] at h2
  refine List.any_eq_true.2 ⟨y, hy, ?_⟩
  rw [Bool.and_eq_true]
  exact ⟨match_more h hr h2.1, h2.2⟩
/-- What is shown is shown by the more rules: it is a ghost only if it was one. -/
theorem show_more {l : List Rul} {r : Rul} {xs : List Itm} {z y : Itm} (h : AllWith l) (hr : r.kind = 1) (hy : showG l xs z = some y) : ∃ y', showG (l ++ [r]) xs z = some y' ∧ (y'.ghost = true → y.ghost = true) ∧ y'.cnt = y.cnt ∧ y'.who = y.who := by
  have hp := show_path hy
  by_cases h1 : inG l z = true
  · have e1 : showG (l ++ [r]) xs z = some { z with ghost := false } := by
      unfold showG
      rw [if_pos (show inG (l ++ [r]) z = true from match_more h hr h1)]
    exact ⟨{ z with ghost := false }, e1, fun (e : false = true) => (by cases e), hp.2.1.symm, hp.2.2.1.symm⟩
  · unfold showG at hy
    rw [if_neg h1] at hy
    split at hy
    · rename_i h2
      rw [Bool.and_eq_true] at h2
      have hg : y.ghost = true := by
        cases hy
        rfl
      by_cases h3 : inG (l ++ [r]) z = true
      · refine ⟨{ z with ghost := false }, by unfold showG; rw [if_pos h3], fun _ => hg, hp.2.1.symm, hp.2.2.1.symm⟩
      · refine ⟨{ z with ghost := true, man := ⟨#[]⟩ }, ?_, fun _ => hg, hp.2.1.symm, hp.2.2.1.symm⟩
        unfold showG
        rw [if_neg h3, if_pos (by rw [h2.1, overG_more h hr h2.2]; rfl)]
    · cases hy
theorem proj_from {l : List Rul} {xs : List Itm} {y : Itm} (h : y ∈ projG l xs xs.length) : ∃ z ∈ xs, showG l xs z = some y := by
  unfold projG at h
  rw [List.take_length, List.mem_filterMap] at h
  exact h
theorem find_more {l : List Rul} {r : Rul} {xs : List Itm} {y : Itm} (hp : xs.Pairwise fun x y => pI x ≠ pI y) (h : AllWith l) (hr : r.kind = 1) (hy : y ∈ projG l xs xs.length) : ∃ y', findI (isPath y.path) (projG (l ++ [r]) xs xs.length) = (y', true) ∧ (y'.ghost = true → y.ghost = true) ∧ y'.cnt = y.cnt ∧ y'.who = y.who := by
  obtain ⟨z, hz, hs⟩ := proj_from hy
  obtain ⟨y', h1, h2, h3, h4⟩ := show_more h hr hs
  refine ⟨y', ?_, h2, h3, h4⟩
  rw [(show_path hs).1]
  exact find_proj hp hz h1
end Go.Proofs.YtfbdbjookkogjaaDoor

namespace Go.Proofs.YtfbdbjookkogjaaDoor
open Go Go.RowKit Go.Lib
theorem wrInfo : (Tryd.prog.info? 59).map (fun i => (i.zero, i.size, i.bytes)) = some (some (.agg #[.int .i64 0, .string ⟨#[]⟩]), 2, 24) := by kernel_rfl
end Go.Proofs.YtfbdbjookkogjaaDoor

namespace Go.Proofs.YtfbdbjookkogjaaDoor
open Go Go.RowKit Go.Lib
/-- The node that an item is of. -/
def ofNd (n : Nd) (x : Itm) : Prop := n.cnt = x.cnt ∧ n.who = x.who ∧ n.dir = x.dir ∧ n.man = x.man
/-- An item's directory: y, of the stamp that is its node's parent. -/
def under (n : Nd) (x y : Itm) (g : List UInt8) : Prop := y.dir = true ∧ y.cnt = n.pc ∧ y.who = n.pw ∧ pI x = pI y ++ 47 :: g
def Rel (nodes : List Nd) (c w : Int) (ahead : List UInt8) (new : List Itm) : Prop :=
  ∀ x ∈ new, ∃ n ∈ nodes, ofNd n x ∧ ∃ g : List UInt8, g ≠ [] ∧ (47 : UInt8) ∉ g ∧ ((n.pc = c ∧ n.pw = w ∧ pI x = ahead ++ g) ∨ ∃ y ∈ new, under n x y g)
def RelSub (nodes : List Nd) (ahead : List UInt8) (l : List (Nd × ByteArray)) (new : List Itm) : Prop :=
  ∀ x ∈ new, ∃ n ∈ nodes, ofNd n x ∧ ∃ g : List UInt8, g ≠ [] ∧ (47 : UInt8) ∉ g ∧ ((∃ p ∈ l, p.1.dir = true ∧ p.1.cnt = n.pc ∧ p.1.who = n.pw ∧ pI x = ahead ++ (p.2.data.toList ++ 47 :: g)) ∨ ∃ y ∈ new, under n x y g)
theorem subV_rel {nodes : List Nd} {down : Int → Int → ByteArray → List Itm → List Itm × Int} (hd : ∀ c w a o, (down c w a o).2 = 0 → ∃ new, (down c w a o).1 = o ++ new ∧ Rel nodes c w a.data.toList new) (ahead : ByteArray) : ∀ (l : List (Nd × ByteArray)) (out : List Itm), (subV down ahead l out).2 = 0 → ∃ new, (subV down ahead l out).1 = out ++ new ∧ RelSub nodes ahead.data.toList l new
  | [], out, _ => ⟨[], by simp [subV], fun x hx => by simp at hx⟩
  | (n, g) :: r, out, h => by
    have up : ∀ new, RelSub nodes ahead.data.toList r new → RelSub nodes ahead.data.toList ((n, g) :: r) new := fun new hr x hx => by
      obtain ⟨m, hm, ho, q, h1, h2, h3⟩ := hr x hx
      refine ⟨m, hm, ho, q, h1, h2, ?_⟩
      rcases h3 with ⟨p, hp, h4⟩ | h3
      · exact .inl ⟨p, List.mem_cons_of_mem _ hp, h4⟩
      · exact .inr h3
    unfold subV at h ⊢
    by_cases hdir : n.dir = true
    · rw [if_pos hdir] at h ⊢
      by_cases h0 : (down n.cnt n.who (ahead ++ g ++ slashB) out).2 = 0
      · rw [if_pos h0] at h ⊢
        obtain ⟨new1, e1, r1⟩ := hd n.cnt n.who (ahead ++ g ++ slashB) out h0
        obtain ⟨new2, e2, r2⟩ := subV_rel hd ahead r _ h
        refine ⟨new1 ++ new2, by rw [e2, e1, List.append_assoc], fun x hx => ?_⟩
        rcases List.mem_append.1 hx with hx | hx
        · obtain ⟨m, hm, ho, q, h1, h2, h3⟩ := r1 x hx
          refine ⟨m, hm, ho, q, h1, h2, ?_⟩
          rcases h3 with ⟨h4, h5, h6⟩ | ⟨y, hy, h4⟩
          · exact .inl ⟨(n, g), List.mem_cons_self, hdir, h4.symm, h5.symm, by rw [h6, sub_list]⟩
          · exact .inr ⟨y, List.mem_append_left _ hy, h4⟩
        · obtain ⟨m, hm, ho, q, h1, h2, h3⟩ := up new2 r2 x hx
          refine ⟨m, hm, ho, q, h1, h2, ?_⟩
          rcases h3 with h3 | ⟨y, hy, h4⟩
          · exact .inl h3
          · exact .inr ⟨y, List.mem_append_right _ hy, h4⟩
      · rw [if_neg h0] at h
        exact absurd h h0
    · rw [if_neg hdir] at h ⊢
      obtain ⟨new, e, hr⟩ := subV_rel hd ahead r out h
      exact ⟨new, e, up new hr⟩
theorem given_nd {nodes : List Nd} {c w : Int} : ∀ p ∈ given nodes c w, p.1 ∈ nodes ∧ p.1.pc = c ∧ p.1.pw = w := fun p hp => by
  obtain ⟨h1, h2⟩ := List.mem_filter.1 (List.of_mem_zip hp).1
  exact ⟨h1, of_decide_eq_true h2⟩
theorem added_rel {nodes : List Nd} {c w : Int} (ahead : ByteArray) (hu : uniqueN ((childF nodes c w).map (·.name)) = 0) : Rel nodes c w ahead.data.toList ((given nodes c w).map fun p => itmOf ahead p.2 p.1) := fun x hx => by
  obtain ⟨p, hp, rfl⟩ := List.mem_map.1 hx
  obtain ⟨h1, h2⟩ := given_nd p hp
  obtain ⟨h3, h4⟩ := (given_ok nodes c w hu).1 p hp
  exact ⟨p.1, h1, ⟨rfl, rfl, rfl, rfl⟩, p.2.data.toList, h3, h4, .inl ⟨h2.1, h2.2, pI_of _ _ _⟩⟩
theorem downV_rel (nodes : List Nd) : ∀ (f : Nat) (c w : Int) (ahead : ByteArray) (out : List Itm), (downV nodes f c w ahead out).2 = 0 → ∃ new, (downV nodes f c w ahead out).1 = out ++ new ∧ Rel nodes c w ahead.data.toList new
  | 0, c, w, ahead, out, h => by
    unfold downV at h ⊢
    split at h
    · rename_i h1
      exact absurd h h1
    · rename_i h1
      rw [if_neg h1, addV_does _ _ _ _ h]
      exact ⟨_, rfl, added_rel ahead (Classical.not_not.1 h1)⟩
  | f + 1, c, w, ahead, out, h => by
    unfold downV at h ⊢
    split at h
    · rename_i h1
      exact absurd h h1
    · rename_i h1
      have hu := Classical.not_not.1 h1
      have ha := added_rel (nodes := nodes) (c := c) (w := w) ahead hu
      rw [if_neg h1]
      split at h
      · rename_i h2
        rw [if_pos h2]
        rw [addV_does _ _ _ _ h2] at h ⊢
        obtain ⟨new, e, hr⟩ := subV_rel (downV_rel nodes f) ahead _ _ h
        refine ⟨_, by rw [e, List.append_assoc], fun x hx => ?_⟩
        rcases List.mem_append.1 hx with hx | hx
        · obtain ⟨m, hm, ho, q, h3, h4, h5⟩ := ha x hx
          refine ⟨m, hm, ho, q, h3, h4, ?_⟩
          rcases h5 with h5 | ⟨y, hy, h6⟩
          · exact .inl h5
          · exact .inr ⟨y, List.mem_append_left _ hy, h6⟩
        · obtain ⟨m, hm, ho, q, h3, h4, h5⟩ := hr x hx
          refine ⟨m, hm, ho, q, h3, h4, .inr ?_⟩
          rcases h5 with ⟨p, hp, h6, h7, h8, h9⟩ | ⟨y, hy, h6⟩
          · refine ⟨itmOf ahead p.2 p.1, List.mem_append_left _ (List.mem_map.2 ⟨p, hp, rfl⟩), h6, h7, h8, ?_⟩
            rw [h9, pI_of, List.append_assoc]
          · exact ⟨y, List.mem_append_right _ hy, h6⟩
      · rename_i h2
        exact absurd h h2
/-- What is ahead of a '/' of a path is a directory's path. -/
theorem rel_dirs {nodes : List Nd} {new : List Itm} (h : Rel nodes 0 0 [] new) : ∀ (m : Nat) (x : Itm), x ∈ new → (pI x).length ≤ m → ∀ u v : List UInt8, pI x = u ++ 47 :: v → ∃ y ∈ new, pI y = u ∧ y.dir = true
  | 0, x, hx, hl, u, v, e => by
    rw [e, List.length_append, List.length_cons] at hl
    omega
  | m + 1, x, hx, hl, u, v, e => by
    obtain ⟨n, _, _, g, h1, h2, h3⟩ := h x hx
    rcases h3 with ⟨_, _, h4⟩ | ⟨y, hy, hd, _, _, h4⟩
    · rw [h4, List.nil_append] at e
      exact absurd (by rw [e]; simp) h2
    · rw [h4] at e
      rcases List.append_eq_append_iff.1 e with ⟨a, e1, e2⟩ | ⟨a, e1, e2⟩
      · cases a with
        | nil =>
          rw [List.append_nil] at e1
          exact ⟨y, hy, e1.symm, hd⟩
        | cons z a =>
          rw [List.cons_append, List.cons.injEq] at e2
          exact absurd (by rw [e2.2]; simp) h2
      · cases a with
        | nil =>
          rw [List.append_nil] at e1
          exact ⟨y, hy, e1, hd⟩
        | cons z a =>
          rw [List.cons_append, List.cons.injEq] at e2
          refine rel_dirs h m y hy ?_ u a (by rw [e1, ← e2.1])
          rw [h4, List.length_append, List.length_cons] at hl
          omega
end Go.Proofs.YtfbdbjookkogjaaDoor

namespace Go.Proofs.YtfbdbjookkogjaaDoor
open Go Go.RowKit Go.Lib
theorem viewF_rel {nodes : List Nd} (h : (viewF nodes).2 = 0) : Rel nodes 0 0 [] (viewF nodes).1 := by
  by_cases h0 : (downV nodes 16 0 0 ⟨#[]⟩ []).2 = 0
  · obtain ⟨new, e, hr⟩ := downV_rel nodes 16 0 0 ⟨#[]⟩ [] h0
    rw [List.nil_append] at e
    have e2 : (viewF nodes).1 = sortI new := by
      unfold viewF
      rw [if_pos h0, e]
    rw [e2]
    intro x hx
    obtain ⟨n, hn, ho, g, h1, h2, h3⟩ := hr x (mem_sortI.1 hx)
    refine ⟨n, hn, ho, g, h1, h2, ?_⟩
    rcases h3 with h3 | ⟨y, hy, h4⟩
    · exact .inl h3
    · exact .inr ⟨y, mem_sortI.2 hy, h4⟩
  · unfold viewF at h
    rw [if_neg h0] at h
    exact absurd h h0
theorem viewF_ris (nodes : List Nd) : RisI (viewF nodes).1 := by
  unfold viewF
  split
  · rename_i h
    obtain ⟨new, e, _, hp⟩ := down_adds nodes 16 0 0 ⟨#[]⟩ [] h
    rw [List.nil_append] at e
    have hp2 : (downV nodes 16 0 0 ⟨#[]⟩ []).1.Pairwise fun x y => pI x ≠ pI y := by rw [e]; exact hp
    exact (sortI_does (downV nodes 16 0 0 ⟨#[]⟩ []).1 [] List.Pairwise.nil (by simpa using hp2)).1
  · exact List.Pairwise.nil
theorem ltI_path {x y x' y' : Itm} (h1 : x'.path = x.path) (h2 : y'.path = y.path) : ltI x' y' = ltI x y := by
  unfold ltI
  rw [h1, h2]
theorem proj_ris {l : List Rul} {xs : List Itm} (h : RisI xs) : RisI (projG l xs xs.length) := by
  unfold projG RisI at *
  rw [List.take_length, List.pairwise_filterMap]
  refine h.imp (fun {x y} hxy x' hx' y' hy' => ?_)
  rw [ltI_path (show_path hx').1 (show_path hy').1]
  exact hxy
/-- What is shown, as it is. -/
theorem show_is {l : List Rul} {xs : List Itm} {z y : Itm} (h : showG l xs z = some y) : y.ghost = !matchG l y.path y.dir ∧ (y.ghost = false → y.man = z.man) ∧ (y.ghost = true → y.dir = true ∧ y.man = ⟨#[]⟩ ∧ overG l xs xs.length z.path = true) := by
  unfold showG at h
  split at h
  · rename_i h1
    cases h
    refine ⟨?_, fun _ => rfl, fun (e : false = true) => (by cases e)⟩
    show false = !matchG l z.path z.dir
    rw [show matchG l z.path z.dir = true from h1]
    rfl
  · rename_i h1
    split at h
    · rename_i h2
      rw [Bool.and_eq_true] at h2
      cases h
      refine ⟨?_, fun (e : true = false) => (by cases e), fun _ => ⟨h2.1, rfl, h2.2⟩⟩
      show true = !matchG l z.path z.dir
      rw [show matchG l z.path z.dir = false by simpa [inG] using h1]
      rfl
    · cases h
theorem find_own {xs : List Itm} (hp : xs.Pairwise fun x y => pI x ≠ pI y) {z : Itm} (hz : z ∈ xs) : findI (isPath z.path) xs = (z, true) := by
  have h := find_show (f := some) (fun x y h => by cases h; rfl) xs hp z z hz rfl
  rwa [List.filterMap_some] at h
theorem under_iff {p d : ByteArray} : underB p d = true ↔ ∃ t : List UInt8, t ≠ [] ∧ p.data.toList = d.data.toList ++ 47 :: t := by
  constructor
  · intro h
    obtain ⟨h1, h2, hj, h3⟩ := under_parts h
    have hps : p.data.toList.length = p.size := by rw [size_eq]
    have hd : d.data.toList = p.data.toList.take d.size := by
      conv => lhs; rw [h2]
      exact extract_take p d.size
    refine ⟨p.data.toList.drop (d.size + 1), fun e => ?_, ?_⟩
    · have := congrArg List.length e
      rw [List.length_drop, hps, List.length_nil] at this
      omega
    · have h4 : p.data.toList.drop d.size = 47 :: p.data.toList.drop (d.size + 1) := by
        rw [List.drop_eq_getElem_cons (by omega)]
        congr 1
      rw [hd, ← h4]
      exact (List.take_append_drop _ _).symm
  · rintro ⟨t, ht, e⟩
    have hps : p.data.toList.length = p.size := by rw [size_eq]
    have hds : d.data.toList.length = d.size := by rw [size_eq]
    have hl : p.size = d.size + (t.length + 1) := by rw [← hps, e, List.length_append, List.length_cons, hds]
    have ht0 : t.length ≠ 0 := fun h => ht (List.length_eq_zero_iff.1 h)
    have hlt : d.size < p.size := by omega
    refine under_yes (by omega) ?_ ?_
    · have h5 : (p.extract 0 d.size).data.toList = d.data.toList := by
        rw [extract_take, e, ← hds, List.take_left]
      obtain ⟨⟨d0⟩⟩ := d
      generalize p.extract 0 _ = q at h5
      obtain ⟨⟨q0⟩⟩ := q
      have h6 : q0 = d0 := h5
      rw [h6]
    · have h7 : p.data.toList[d.size]? = some 47 := by
        rw [e, List.getElem?_append_right (by omega), hds, Nat.sub_self]
        rfl
      have h8 : p.data.toList[d.size]'(by omega) = 47 := (List.getElem?_eq_some_iff.1 h7).2
      exact h8
theorem under_trans {p d q : ByteArray} (h1 : underB p d = true) (h2 : underB d q = true) : underB p q = true := by
  obtain ⟨t, ht, e1⟩ := under_iff.1 h1
  obtain ⟨s, hs, e2⟩ := under_iff.1 h2
  refine under_iff.2 ⟨s ++ 47 :: t, by simp, ?_⟩
  rw [e1, e2, List.append_assoc, List.cons_append]
theorem rel_tail {nodes : List Nd} {new : List Itm} (h : Rel nodes 0 0 [] new) {x : Itm} (hx : x ∈ new) {u v : List UInt8} (e : pI x = u ++ 47 :: v) : v ≠ [] := by
  intro hv
  subst hv
  obtain ⟨n, _, _, g, h1, h2, h3⟩ := h x hx
  have key : ∀ a : List UInt8, pI x = a ++ g → False := fun a ha => by
    have h4 : (pI x).getLast? = some 47 := by rw [e]; simp
    rw [ha, List.getLast?_append] at h4
    cases hg : g.getLast? with
    | none => exact h1 (List.getLast?_eq_none_iff.1 hg)
    | some z =>
      rw [hg] at h4
      have h5 : z = 47 := by simpa using h4
      exact h2 (h5 ▸ List.mem_of_getLast? hg)
  rcases h3 with ⟨_, _, h3⟩ | ⟨y, _, _, _, _, h3⟩
  · exact key [] h3
  · exact key (pI y ++ [47]) (by rw [h3]; simp)
end Go.Proofs.YtfbdbjookkogjaaDoor

namespace Go.Proofs.YtfbdbjookkogjaaDoor
open Go Go.RowKit Go.Lib
theorem mem_proj {l : List Rul} {xs : List Itm} {y : Itm} : y ∈ projG l xs xs.length ↔ ∃ z ∈ xs, showG l xs z = some y := by
  unfold projG
  rw [List.take_length, List.mem_filterMap]
theorem show_real {l : List Rul} {xs : List Itm} {z : Itm} (h : inG l z = true) : showG l xs z = some { z with ghost := false } := by
  unfold showG
  rw [if_pos h]
theorem over_iff {l : List Rul} {xs : List Itm} {d : ByteArray} : overG l xs xs.length d = true ↔ ∃ z ∈ xs, inG l z = true ∧ underB z.path d = true := by
  rw [overG_all, List.any_eq_true]
  constructor
  · rintro ⟨z, hz, h⟩
    rw [Bool.and_eq_true] at h
    exact ⟨z, hz, h⟩
  · rintro ⟨z, hz, h1, h2⟩
    exact ⟨z, hz, by rw [h1, h2]; rfl⟩
/-- Below a ghost stands something real. -/
theorem ghost_over {l : List Rul} {xs : List Itm} {y : Itm} (hy : y ∈ projG l xs xs.length) (hg : y.ghost = true) : ∃ q ∈ projG l xs xs.length, q.ghost = false ∧ q.path ≠ y.path ∧ withinG q.path y.path = true := by
  obtain ⟨z, hz, hs⟩ := mem_proj.1 hy
  obtain ⟨r, hr, h1, h2⟩ := over_iff.1 ((show_is hs).2.2 hg).2.2
  rw [← (show_path hs).1] at h2
  refine ⟨{ r with ghost := false }, mem_proj.2 ⟨r, hr, show_real h1⟩, rfl, fun e => ?_, ?_⟩
  · have e2 : r.path = y.path := e
    rw [e2] at h2
    obtain ⟨h3, _⟩ := under_parts h2
    omega
  · show withinG r.path y.path = true
    unfold withinG
    rw [h2, Bool.or_true]
/-- Each one's directories are shown. -/
theorem proj_dirs {nodes : List Nd} {l : List Rul} {xs : List Itm} (hr : Rel nodes 0 0 [] xs) (hp : xs.Pairwise fun x y => pI x ≠ pI y) {y : Itm} (hy : y ∈ projG l xs xs.length) {d : ByteArray} {v : List UInt8} (e : pI y = d.data.toList ++ 47 :: v) :
    ∃ q, findI (isPath d) (projG l xs xs.length) = (q, true) ∧ q.dir = true := by
  obtain ⟨z, hz, hs⟩ := mem_proj.1 hy
  have hzy : pI z = pI y := by unfold pI; rw [(show_path hs).1]
  have e2 : pI z = d.data.toList ++ 47 :: v := hzy.trans e
  obtain ⟨k, hk, hku, hkd⟩ := rel_dirs hr _ z hz (Nat.le_refl _) _ v e2
  have hv := rel_tail hr hz e2
  have hkp : k.path = d := by
    have h1 : k.path.data.toList = d.data.toList := hku
    obtain ⟨⟨d0⟩⟩ := d
    generalize k.path = q at h1
    obtain ⟨⟨q0⟩⟩ := q
    have h6 : q0 = d0 := h1
    rw [h6]
  have hzk : underB z.path k.path = true := under_iff.2 ⟨v, hv, by rw [hkp]; exact e2⟩
  have hsh : ∃ q, showG l xs k = some q ∧ q.dir = true := by
    by_cases h1 : inG l k = true
    · exact ⟨_, show_real h1, hkd⟩
    · have ho : overG l xs xs.length k.path = true := by
        cases hg : y.ghost with
        | false =>
          have h2 := (show_is hs).1
          rw [hg] at h2
          have h3 : matchG l y.path y.dir = true := by
            cases hm : matchG l y.path y.dir with
            | true => rfl
            | false => rw [hm] at h2; cases h2
          refine over_iff.2 ⟨z, hz, ?_, hzk⟩
          show matchG l z.path z.dir = true
          rw [← (show_path hs).1, ← (show_path hs).2.2.2]
          exact h3
        | true =>
          obtain ⟨r, hrm, h3, h4⟩ := over_iff.1 ((show_is hs).2.2 hg).2.2
          exact over_iff.2 ⟨r, hrm, h3, under_trans h4 hzk⟩
      refine ⟨{ k with ghost := true, man := ⟨#[]⟩ }, ?_, hkd⟩
      unfold showG
      rw [if_neg h1, if_pos (by rw [hkd, ho]; rfl)]
  obtain ⟨q, hq, hqd⟩ := hsh
  refine ⟨q, ?_, hqd⟩
  rw [← hkp]
  exact find_proj hp hk hq
/-- As many are real as the rules have. -/
theorem proj_count (l : List Rul) (xs ys : List Itm) : ((ys.filterMap (showG l xs)).filter fun y => !y.ghost).length = (ys.filter fun z => inG l z).length := by
  induction ys with
  | nil => rfl
  | cons z r ih =>
    cases h : inG l z with
    | true =>
      rw [List.filterMap_cons, show_real h, List.filter_cons_of_pos (by rfl), List.filter_cons_of_pos h, List.length_cons, List.length_cons, ih]
    | false =>
      rw [List.filter_cons_of_neg (by rw [h]; simp), List.filterMap_cons]
      cases hs : showG l xs z with
      | none => exact ih
      | some y =>
        have hg : y.ghost = true := by
          rw [(show_is hs).1, (show_path hs).1, (show_path hs).2.2.2, show matchG l z.path z.dir = false from h]
          rfl
        dsimp only
        rw [List.filter_cons_of_neg (by rw [hg]; simp)]
        exact ih
theorem shown_zero {ops : List Opr} {rules : List Rul} {l p : List Itm} (h : shownF ops rules = (l, p, true)) : (viewF (foldT ops)).2 = 0 := by
  unfold shownF at h
  split at h
  · obtain ⟨_, e2⟩ := Prod.mk.inj h
    obtain ⟨_, e3⟩ := Prod.mk.inj e2
    simpa using e3
  · cases h
theorem ris_less {l : List Itm} (h : RisI l) {j k : Nat} {y x : Itm} (hy : l[j]? = some y) (hx : l[k]? = some x) (hjk : j < k) : Op.bytesLess y.path.toList x.path.toList = true := by
  unfold RisI at h
  rw [List.pairwise_iff_getElem] at h
  obtain ⟨a1, a2⟩ := List.getElem?_eq_some_iff.1 hy
  obtain ⟨b1, b2⟩ := List.getElem?_eq_some_iff.1 hx
  have h3 := h j k a1 b1 hjk
  rw [a2, b2] at h3
  unfold ltI at h3
  rw [lessV_before, ByteArray.toList_eq, ByteArray.toList_eq]
  exact h3
theorem cut_at (p : ByteArray) (j : Nat) (h : j < p.size) (h47 : (p[j].toNat : Int) = 47) : p.data.toList = (p.extract 0 j).data.toList ++ 47 :: p.data.toList.drop (j + 1) := by
  have hps : p.data.toList.length = p.size := by rw [size_eq]
  have h1 : (p.extract 0 j).data.toList = p.data.toList.take j := by
    rw [ByteArray.data_extract, Array.toList_extract]
    simp [List.extract_eq_take_drop]
  have h2 : p.data.toList[j]'(by omega) = 47 := by
    have h3 : p[j] = 47 := by
      apply UInt8.toNat_inj.1
      have : p[j].toNat = 47 := by omega
      rw [this]
      rfl
    exact h3
  rw [h1]
  conv => lhs; rw [← List.take_append_drop j p.data.toList]
  rw [List.drop_eq_getElem_cons (by omega), h2]
end Go.Proofs.YtfbdbjookkogjaaDoor

