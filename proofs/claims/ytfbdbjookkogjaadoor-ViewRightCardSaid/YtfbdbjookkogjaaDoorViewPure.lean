/-
  Which items a tree has: the plain law.
-/
import Derived.Test.YtfbdbjookkogjaaDoorItems
import Derived.Test.YtfbdbjookkogjaaDoorNamesPure
import Derived.Test.YtfbdbjookkogjaaDoorStabG
import Derived.Lib.Strings
namespace Go.Proofs.YtfbdbjookkogjaaDoor
open Go Go.RowKit Go.Lib

/-! ### nodes -/
structure Nd where
  cnt : Int
  who : Int
  dir : Bool
  pc : Int
  pw : Int
  name : ByteArray
  man : ByteArray
def Nd.cells (x : Nd) : List Value := [.int .i64 x.cnt, .int .i64 x.who, .bool x.dir, .int .i64 x.pc, .int .i64 x.pw, .string x.name, .string x.man]
def Nd.val (x : Nd) : Value := .agg #[.int .i64 x.cnt, .int .i64 x.who, .bool x.dir, .int .i64 x.pc, .int .i64 x.pw, .string x.name, .string x.man]
def ndLay : Lay Nd := { sz := 7, cells := Nd.cells, len := fun _ => rfl, one := fun x v hv => by simp only [Nd.cells, List.mem_cons, List.mem_nil_iff, or_false] at hv; rcases hv with rfl | rfl | rfl | rfl | rfl | rfl | rfl <;> rfl }
theorem nd_at {w : World} {a : Option Addr} {xs : List Nd} (h : RowsAt ndLay w a xs) {k : Nat} {x : Nd} (hk : xs[k]? = some x) : ∃ b off, a = some ⟨b, off, none⟩ ∧ b < w.heap.size ∧
    w.cell? ⟨b, off + k * 7, none⟩ = some (.int .i64 x.cnt) ∧ w.cell? ⟨b, off + k * 7 + 1, none⟩ = some (.int .i64 x.who) ∧ w.cell? ⟨b, off + k * 7 + 2, none⟩ = some (.bool x.dir) ∧ w.cell? ⟨b, off + k * 7 + 3, none⟩ = some (.int .i64 x.pc) ∧ w.cell? ⟨b, off + k * 7 + 4, none⟩ = some (.int .i64 x.pw) ∧ w.cell? ⟨b, off + k * 7 + 5, none⟩ = some (.string x.name) ∧ w.cell? ⟨b, off + k * 7 + 6, none⟩ = some (.string x.man) := by
  obtain ⟨b, off, e, hlt, hc⟩ := h k x hk
  exact ⟨b, off, e, hlt, hc 0 _ rfl, hc 1 _ rfl, hc 2 _ rfl, hc 3 _ rfl, hc 4 _ rfl, hc 5 _ rfl, hc 6 _ rfl⟩

/-! ### what is gone through -/
def childF (l : List Nd) (c w : Int) : List Nd := l.filter fun n => decide (n.pc = c ∧ n.pw = w)
def hasI (out : List Itm) (c w : Int) : Bool := out.any fun x => decide (x.cnt = c ∧ x.who = w)
def itmOf (ahead g : ByteArray) (n : Nd) : Itm := ⟨ahead ++ g, n.cnt, n.who, n.dir, false, n.man⟩
def slashB : ByteArray := ⟨#[47]⟩
def addV (ahead : ByteArray) (full : Bool) : List (Nd × ByteArray) → List Itm → List Itm × Int
  | [], out => (out, 0)
  | (n, g) :: r, out => if hasI out n.cnt n.who || full then (out, 40) else addV ahead full r (out ++ [itmOf ahead g n])
def subV (down : Int → Int → ByteArray → List Itm → List Itm × Int) (ahead : ByteArray) : List (Nd × ByteArray) → List Itm → List Itm × Int
  | [], out => (out, 0)
  | (n, g) :: r, out => if n.dir then (if (down n.cnt n.who (ahead ++ g ++ slashB) out).2 = 0 then subV down ahead r (down n.cnt n.who (ahead ++ g ++ slashB) out).1 else down n.cnt n.who (ahead ++ g ++ slashB) out) else subV down ahead r out
def given (nodes : List Nd) (c w : Int) : List (Nd × ByteArray) := (childF nodes c w).zip (uniqueL ((childF nodes c w).map (·.name)))
/-- f: how many directories may still be gone down. -/
def downV (nodes : List Nd) : Nat → Int → Int → ByteArray → List Itm → List Itm × Int
  | 0, c, w, ahead, out => if uniqueN ((childF nodes c w).map (·.name)) ≠ 0 then (out, uniqueN ((childF nodes c w).map (·.name))) else addV ahead true (given nodes c w) out
  | f + 1, c, w, ahead, out => if uniqueN ((childF nodes c w).map (·.name)) ≠ 0 then (out, uniqueN ((childF nodes c w).map (·.name))) else
    if (addV ahead false (given nodes c w) out).2 = 0 then subV (downV nodes f) ahead (given nodes c w) (addV ahead false (given nodes c w) out).1 else addV ahead false (given nodes c w) out
/-- Items by rising paths. -/
def ltI (x y : Itm) : Bool := bytesBefore x.path.data.toList y.path.data.toList
def insI (x : Itm) : List Itm → List Itm
  | [] => [x]
  | y :: r => if ltI x y then x :: y :: r else y :: insI x r
def sortI (l : List Itm) : List Itm := l.foldl (fun s x => insI x s) []
def viewF (nodes : List Nd) : List Itm × Int := if (downV nodes 16 0 0 ⟨#[]⟩ []).2 = 0 then (sortI (downV nodes 16 0 0 ⟨#[]⟩ []).1, 0) else ([], (downV nodes 16 0 0 ⟨#[]⟩ []).2)

/-! ### paths are unlike -/
def pI (x : Itm) : List UInt8 := x.path.data.toList
/-- What a call adds. -/
def Adds (ahead : ByteArray) (out : List Itm) (r : List Itm × Int) : Prop := r.2 = 0 → ∃ new, r.1 = out ++ new ∧ (∀ x ∈ new, ∃ t, t ≠ [] ∧ pI x = ahead.data.toList ++ t) ∧ new.Pairwise fun x y => pI x ≠ pI y
def GivenOK (l : List (Nd × ByteArray)) : Prop := (∀ p ∈ l, p.2.data.toList ≠ [] ∧ (47 : UInt8) ∉ p.2.data.toList) ∧ (l.map (·.2)).Nodup
theorem addV_does (ahead : ByteArray) (full : Bool) : ∀ (l : List (Nd × ByteArray)) (out : List Itm), (addV ahead full l out).2 = 0 → (addV ahead full l out).1 = out ++ l.map fun p => itmOf ahead p.2 p.1
  | [], out, _ => by simp [addV]
  | (n, g) :: r, out, h => by
    unfold addV at h ⊢
    split at h
    · cases h
    · rename_i h1
      rw [if_neg h1, addV_does ahead full r _ h]
      simp
theorem pI_of (ahead g : ByteArray) (n : Nd) : pI (itmOf ahead g n) = ahead.data.toList ++ g.data.toList := by
  unfold pI itmOf
  rw [ByteArray.data_append, Array.toList_append]
theorem given_ok (nodes : List Nd) (c w : Int) (h : uniqueN ((childF nodes c w).map (·.name)) = 0) : GivenOK (given nodes c w) := by
  unfold given
  generalize (childF nodes c w) = l at *
  have hl : ¬ 1000 < (l.map (·.name)).length := fun hl => by
    rw [(unique_big hl).1] at h
    cases h
  cases hr : allRight (l.map (·.name)) with
  | false =>
    rw [(unique_wrong hl hr).1] at h
    cases h
  | true =>
    rw [(unique_right hl hr).2]
    obtain ⟨h1, h2⟩ := outU_facts (l.map (·.name)) hr (by omega) _ (Nat.le_refl _)
    constructor
    · intro p hp
      obtain ⟨g1, g2, _, _, g5⟩ := rightL_parts ((h1 p.2 (List.of_mem_zip hp).2).1)
      refine ⟨g1, fun h47 => ?_⟩
      have := g5 47 h47
      simp [okByte] at this
    · rw [List.map_snd_zip (by rw [outU_length, List.length_map]; exact Nat.le_refl _)]
      exact h2
theorem cut_slash {g h r t : List UInt8} (h1 : (47 : UInt8) ∉ g) (h2 : (47 : UInt8) ∉ h) (e : g ++ 47 :: r = h ++ 47 :: t) : g = h := by
  induction g generalizing h with
  | nil =>
    cases h with
    | nil => rfl
    | cons x h =>
      simp only [List.nil_append, List.cons_append, List.cons.injEq] at e
      rw [← e.1] at h2
      simp at h2
  | cons x g ih =>
    cases h with
    | nil =>
      simp only [List.nil_append, List.cons_append, List.cons.injEq] at e
      rw [e.1] at h1
      simp at h1
    | cons y h =>
      simp only [List.cons_append, List.cons.injEq] at e
      obtain ⟨rfl, e⟩ := e
      rw [ih (fun h3 => h1 (List.mem_cons_of_mem _ h3)) (fun h3 => h2 (List.mem_cons_of_mem _ h3)) e]
theorem sub_list (ahead g : ByteArray) (t : List UInt8) : (ahead ++ g ++ slashB).data.toList ++ t = ahead.data.toList ++ (g.data.toList ++ 47 :: t) := by
  rw [ByteArray.data_append, ByteArray.data_append, Array.toList_append, Array.toList_append]
  show _ ++ [47] ++ t = _
  simp
theorem subV_adds {down : Int → Int → ByteArray → List Itm → List Itm × Int} (hd : ∀ c w a o, Adds a o (down c w a o)) (ahead : ByteArray) : ∀ (l : List (Nd × ByteArray)) (out : List Itm), GivenOK l → (subV down ahead l out).2 = 0 →
    ∃ new, (subV down ahead l out).1 = out ++ new ∧ (∀ x ∈ new, ∃ p ∈ l, ∃ t, t ≠ [] ∧ pI x = ahead.data.toList ++ (p.2.data.toList ++ 47 :: t)) ∧ new.Pairwise fun x y => pI x ≠ pI y
  | [], out, _, _ => ⟨[], by simp [subV], (fun _ h => nomatch h), List.Pairwise.nil⟩
  | (n, g) :: r, out, hg, h => by
    have hg2 : GivenOK r := ⟨fun p hp => hg.1 p (List.mem_cons_of_mem _ hp), (List.nodup_cons.1 hg.2).2⟩
    unfold subV at h ⊢
    by_cases h1 : n.dir = true
    · rw [if_pos h1] at h ⊢
      by_cases h2 : (down n.cnt n.who (ahead ++ g ++ slashB) out).2 = 0
      · rw [if_pos h2] at h ⊢
        obtain ⟨new1, e1, a1, b1⟩ := hd n.cnt n.who (ahead ++ g ++ slashB) out h2
        obtain ⟨new2, e2, a2, b2⟩ := subV_adds hd ahead r _ hg2 h
        refine ⟨new1 ++ new2, by rw [e2, e1, List.append_assoc], fun x hx => ?_, ?_⟩
        · rcases List.mem_append.1 hx with hx | hx
          · obtain ⟨t, ht, e⟩ := a1 x hx
            exact ⟨(n, g), List.mem_cons_self, t, ht, by rw [e, sub_list]⟩
          · obtain ⟨p, hp, t, ht, e⟩ := a2 x hx
            exact ⟨p, List.mem_cons_of_mem _ hp, t, ht, e⟩
        · rw [List.pairwise_append]
          refine ⟨b1, b2, fun x hx y hy e => ?_⟩
          obtain ⟨t, _, e3⟩ := a1 x hx
          obtain ⟨p, hp, u, _, e4⟩ := a2 y hy
          rw [e3, e4, sub_list] at e
          have h5 := cut_slash (hg.1 (n, g) List.mem_cons_self).2 (hg.1 p (List.mem_cons_of_mem _ hp)).2 (List.append_cancel_left e)
          have h6 : g = p.2 := by
            obtain ⟨⟨g'⟩⟩ := g
            obtain ⟨p1, ⟨⟨g2⟩⟩⟩ := p
            have h7 : g' = g2 := h5
            rw [h7]
          exact (List.nodup_cons.1 hg.2).1 (List.mem_map.2 ⟨p, hp, h6.symm⟩)
      · rw [if_neg h2] at h
        exact absurd h h2
    · rw [if_neg h1] at h ⊢
      obtain ⟨new, e1, a1, b1⟩ := subV_adds hd ahead r out hg2 h
      exact ⟨new, e1, fun x hx => by
        obtain ⟨p, hp, r⟩ := a1 x hx
        exact ⟨p, List.mem_cons_of_mem _ hp, r⟩, b1⟩
theorem added_apart (ahead : ByteArray) : ∀ (l : List (Nd × ByteArray)), (l.map (·.2)).Nodup → (l.map fun p => itmOf ahead p.2 p.1).Pairwise fun x y => pI x ≠ pI y
  | [], _ => List.Pairwise.nil
  | (n, g) :: r, h => by
    obtain ⟨h1, h2⟩ := List.nodup_cons.1 h
    rw [List.map_cons, List.pairwise_cons]
    refine ⟨fun y hy e => ?_, added_apart ahead r h2⟩
    obtain ⟨p, hp, rfl⟩ := List.mem_map.1 hy
    rw [pI_of, pI_of] at e
    have h5 := List.append_cancel_left e
    have h6 : g = p.2 := by
      obtain ⟨⟨g'⟩⟩ := g
      obtain ⟨p1, ⟨⟨g2⟩⟩⟩ := p
      have h7 : g' = g2 := h5
      rw [h7]
    exact h1 (List.mem_map.2 ⟨p, hp, h6.symm⟩)
theorem add_first (ahead : ByteArray) {l : List (Nd × ByteArray)} : ∀ x ∈ l.map (fun p => itmOf ahead p.2 p.1), ∃ p ∈ l, pI x = ahead.data.toList ++ p.2.data.toList := fun x hx => by
  obtain ⟨p, hp, rfl⟩ := List.mem_map.1 hx
  exact ⟨p, hp, pI_of _ _ _⟩
theorem down_adds (nodes : List Nd) : ∀ (f : Nat) (c w : Int) (ahead : ByteArray) (out : List Itm), Adds ahead out (downV nodes f c w ahead out)
  | 0, c, w, ahead, out => by
    intro h
    unfold downV at h ⊢
    split at h
    · rename_i h1
      exact absurd h h1
    · rename_i h1
      have hg := given_ok nodes c w (Classical.not_not.1 h1)
      rw [if_neg h1, addV_does _ _ _ _ h]
      refine ⟨_, rfl, fun x hx => ?_, added_apart _ _ hg.2⟩
      obtain ⟨p, hp, e⟩ := add_first ahead x hx
      exact ⟨_, (hg.1 p hp).1, e⟩
  | f + 1, c, w, ahead, out => by
    intro h
    unfold downV at h ⊢
    split at h
    · rename_i h1
      exact absurd h h1
    · rename_i h1
      have hg := given_ok nodes c w (Classical.not_not.1 h1)
      rw [if_neg h1]
      split at h
      · rename_i h2
        rw [if_pos h2]
        rw [addV_does _ _ _ _ h2] at h ⊢
        obtain ⟨new, e1, a1, b1⟩ := subV_adds (down_adds nodes f) ahead _ _ hg h
        refine ⟨_, by rw [e1, List.append_assoc], fun x hx => ?_, ?_⟩
        · rcases List.mem_append.1 hx with hx | hx
          · obtain ⟨p, hp, e⟩ := add_first ahead x hx
            exact ⟨_, (hg.1 p hp).1, e⟩
          · obtain ⟨p, hp, t, ht, e⟩ := a1 x hx
            exact ⟨_, by simp, e⟩
        · rw [List.pairwise_append]
          refine ⟨added_apart _ _ hg.2, b1, fun x hx y hy e => ?_⟩
          obtain ⟨p, hp, e2⟩ := add_first ahead x hx
          obtain ⟨q, hq, t, ht, e3⟩ := a1 y hy
          rw [e2, e3] at e
          have := List.append_cancel_left e
          refine (hg.1 p hp).2 ?_
          rw [this]
          simp
      · rename_i h2
        exact absurd h h2

/-! ### in order -/
theorem mem_insI {x z : Itm} : ∀ {l}, z ∈ insI x l ↔ z = x ∨ z ∈ l
  | [] => by simp [insI]
  | y :: r => by
    unfold insI
    split
    · simp
    · rw [List.mem_cons, mem_insI, List.mem_cons]
      constructor
      · rintro (h | h | h)
        · exact .inr (.inl h)
        · exact .inl h
        · exact .inr (.inr h)
      · rintro (h | h | h)
        · exact .inr (.inl h)
        · exact .inl h
        · exact .inr (.inr h)
end Go.Proofs.YtfbdbjookkogjaaDoor
