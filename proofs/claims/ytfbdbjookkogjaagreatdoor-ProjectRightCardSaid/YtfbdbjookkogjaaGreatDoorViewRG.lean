/-
  The document's walk down a tree: the state. The document's walk down a tree: one step. Items by rising paths, as the document has them. The document's items of a tree. Which items a tree has: the law.
-/
import Derived.Test.YtfbdbjookkogjaaGreatDoorViewW4
import Derived.Test.YtfbdbjookkogjaaGreatDoorViewG
import Derived.Test.YtfbdbjookkogjaaGreatDoorNamesG
import Derived.Test.YtfbdbjookkogjaaGreatDoorPut
import Derived.Test.YtfbdbjookkogjaaGreatDoorSliced
import Derived.Test.YtfbdbjookkogjaaGreatDoorProjW1
namespace Go.Proofs.YtfbdbjookkogjaaGreatDoor
open Go Go.RowKit Go.Lib

theorem downV_eq (nodes : List Nd) (f : Nat) (c q : Int) (ahead : ByteArray) (out : List Itm) : downV nodes f c q ahead out = if uniqueN ((childF nodes c q).map (·.name)) ≠ 0 then (out, uniqueN ((childF nodes c q).map (·.name))) else
    if (addV ahead (decide (f = 0)) (given nodes c q) out).2 = 0 then subV (downV nodes (f - 1)) ahead (given nodes c q) (addV ahead (decide (f = 0)) (given nodes c q) out).1 else addV ahead (decide (f = 0)) (given nodes c q) out := by
  cases f with
  | succ f =>
    rw [show decide (f + 1 = 0) = false from by simp]
    conv => lhs; unfold downV
    rfl
  | zero =>
    rw [show decide (0 = 0) = true from by simp]
    conv => lhs; unfold downV
    generalize given nodes c q = l
    split
    · rfl
    · cases l with
      | nil => rfl
      | cons p r =>
        obtain ⟨n, g⟩ := p
        unfold addV
        rw [if_pos (by simp), if_neg (by simp)]
theorem addV_full {ahead : ByteArray} {l : List (Nd × ByteArray)} {out o : List Itm} (h : addV ahead true l out = (o, 0)) : l = [] := by
  cases l with
  | nil => rfl
  | cons p r =>
    obtain ⟨n, g⟩ := p
    unfold addV at h
    rw [if_pos (by simp)] at h
    cases h
theorem hasI_not {out : List Itm} {c q : Int} (h : ∀ (m : Nat) (y : Itm), m < out.length → out[m]? = some y → ¬ (y.cnt = c ∧ y.who = q)) : hasI out c q = false := by
  unfold hasI
  rw [List.any_eq_false]
  intro x hx
  obtain ⟨m, hm, e⟩ := List.mem_iff_getElem.1 hx
  simpa using h m x hm (by rw [List.getElem?_eq_getElem hm, e])
theorem hasI_yes {out : List Itm} {c q : Int} {m : Nat} {y : Itm} (h : out[m]? = some y) (e : y.cnt = c ∧ y.who = q) : hasI out c q = true := by
  unfold hasI
  exact List.any_eq_true.2 ⟨y, List.mem_of_getElem? h, decide_eq_true e⟩
def SR (wb : Nat) (v : Value) : Nat → Prop := fun j => j = wb ∨ v.ownBlock = some j
structure RSt (wE : World) (wb B : Nat) (av : Option Addr) (cv : Nat) (nodes : List Nd) (w : World) (out : List Itm) (v : Value) : Prop where
  bel : Below wb wE w
  var : VarAt w wb [.slice av nodes.length cv, v]
  rows : OwnRows itmLay w B 31 v out
  sz : B ≤ w.heap.size
theorem RSt.below {wE : World} {wb B : Nat} {av : Option Addr} {cv : Nat} {nodes : List Nd} {w w' : World} {out : List Itm} {v : Value} (h : RSt wE wb B av cv nodes w out v) (hk : wb < B) (hb : Below w.heap.size w w') : RSt wE wb B av cv nodes w' out v := by
  have hz := h.sz
  exact ⟨h.bel.trans (hb.mono (by omega)), h.var.keeps hb h.var.1, h.rows.below hb, Nat.le_trans hz hb.size⟩
/-- What a call of it is answered, and what it leaves. -/
def RDownP (wE : World) (wb B : Nat) (av : Option Addr) (cv : Nat) (nodes : List Nd) (W : World) (v : Value) (r : List Itm × Int) : Ending → World → Prop := fun e w' => e = .returned (.int .i64 r.2) ∧ ∃ v', RSt wE wb B av cv nodes w' r.1 v' ∧ OutOK nodes r.1 ∧ (∀ j, v'.ownBlock = some j → v.ownBlock = some j ∨ W.heap.size ≤ j) ∧ Turned (SR wb v) W.heap.size W w'
end Go.Proofs.YtfbdbjookkogjaaGreatDoor

namespace Go.Proofs.YtfbdbjookkogjaaGreatDoor
open Go Go.RowKit Go.Lib
section
variable {wE : World} {wb B : Nat} {av : Option Addr} {cv : Nat} {nodes : List Nd}
end
end Go.Proofs.YtfbdbjookkogjaaGreatDoor

namespace Go.Proofs.YtfbdbjookkogjaaGreatDoor
open Go Go.RowKit Go.Lib
theorem gt_path (x y : Itm) : ltI x y = !(Op.bytesLess y.path.toList x.path.toList || y.path.toList == x.path.toList) := by
  unfold ltI
  rw [lessV_before, beforeV_lt, beforeV_lt, ByteArray.toList_eq, ByteArray.toList_eq]
  by_cases h1 : y.path.data.toList < x.path.data.toList
  · rw [decide_eq_true h1, decide_eq_false (List.not_lt.2 (List.le_of_lt h1))]
    rfl
  · by_cases h2 : y.path.data.toList = x.path.data.toList
    · rw [h2, decide_eq_false (List.lt_irrefl _)]
      simp
    · have h3 : x.path.data.toList < y.path.data.toList := Classical.byContradiction fun h => h2 (List.le_antisymm (List.not_lt.1 h) (List.not_lt.1 h1))
      rw [decide_eq_true h3, decide_eq_false h1]
      rw [show (y.path.data.toList == x.path.data.toList) = false from beq_false_of_ne h2]
      rfl
theorem below_of {x y : Itm} {out : List Itm} {u : Nat} (hs : SrtI out) (hy : out[u]? = some y) (h : ltI x y = false) {j : Nat} (hj : j ≤ u) {z : Itm} (hz : out[j]? = some z) : ltI x z = false := by
  rcases Nat.lt_or_eq_of_le hj with hj | rfl
  · unfold SrtI at hs
    rw [List.pairwise_iff_getElem] at hs
    obtain ⟨a1, a2⟩ := List.getElem?_eq_some_iff.1 hy
    obtain ⟨b1, b2⟩ := List.getElem?_eq_some_iff.1 hz
    have h3 := hs j u b1 a1 hj
    rw [a2, b2] at h3
    cases hxz : ltI x z with
    | false => rfl
    | true =>
      by_cases e : pI z = pI y
      · rw [(ltI_eq e).2] at hxz
        rw [hxz] at h
        cases h
      · rcases ltI_total e with h4 | h4
        · rw [ltI_trans hxz h4] at h
          cases h
        · rw [h4] at h3
          cases h3
  · rw [hy] at hz
    cases hz
    exact h
end Go.Proofs.YtfbdbjookkogjaaGreatDoor

namespace Go.Proofs.YtfbdbjookkogjaaGreatDoor
open Go Go.RowKit Go.Lib
section
variable {wE : World} {wb B : Nat} {av : Option Addr} {cv : Nat} {nodes : List Nd}
end
end Go.Proofs.YtfbdbjookkogjaaGreatDoor

namespace Go.Proofs.YtfbdbjookkogjaaGreatDoor
open Go Go.RowKit Go.Lib
theorem any_hitN {α : Type} {l : List α} {p : α → Bool} {k : Nat} {y : α} (hy : l[k]? = some y) (h : p y = true) : l.any p = true := List.any_eq_true.2 ⟨y, List.mem_of_getElem? hy, h⟩
theorem any_noneN {α : Type} {l : List α} {p : α → Bool} (h : ∀ j y, j < l.length → l[j]? = some y → p y = false) : l.any p = false := by
  rw [List.any_eq_false]
  intro x hx
  obtain ⟨j, hj, e⟩ := List.mem_iff_getElem.1 hx
  rw [h j x hj (by rw [List.getElem?_eq_getElem hj, e])]
  simp
theorem addV_ok {nodes : List Nd} (ahead : ByteArray) (full : Bool) : ∀ (l : List (Nd × ByteArray)) (out : List Itm), (∀ p ∈ l, p.1 ∈ nodes) → OutOK nodes out → OutOK nodes (addV ahead full l out).1
  | [], out, _, h => h
  | (n, g) :: r, out, hl, h => by
    unfold addV
    split
    · exact h
    · rename_i h1
      exact addV_ok ahead full r _ (fun p hp => hl p (List.mem_cons_of_mem _ hp)) (h.add (hl (n, g) List.mem_cons_self) (by
        cases hh : hasI out n.cnt n.who with
        | false => rfl
        | true => rw [hh] at h1; simp at h1) ahead g)
theorem subV_ok {nodes : List Nd} {down : Int → Int → ByteArray → List Itm → List Itm × Int} (hd : ∀ c w a o, OutOK nodes o → OutOK nodes (down c w a o).1) (ahead : ByteArray) : ∀ (l : List (Nd × ByteArray)) (out : List Itm), OutOK nodes out → OutOK nodes (subV down ahead l out).1
  | [], out, h => h
  | (n, g) :: r, out, h => by
    unfold subV
    split
    · split
      · exact subV_ok hd ahead r _ (hd _ _ _ _ h)
      · exact hd _ _ _ _ h
    · exact subV_ok hd ahead r _ h
theorem given_mem {nodes : List Nd} {c w : Int} : ∀ p ∈ given nodes c w, p.1 ∈ nodes := fun _ hp => (List.mem_filter.1 (List.of_mem_zip hp).1).1
theorem downV_ok (nodes : List Nd) : ∀ (f : Nat) (c w : Int) (ahead : ByteArray) (out : List Itm), OutOK nodes out → OutOK nodes (downV nodes f c w ahead out).1
  | 0, c, w, ahead, out, h => by
    unfold downV
    split
    · exact h
    · exact addV_ok _ _ _ _ given_mem h
  | f + 1, c, w, ahead, out, h => by
    unfold downV
    split
    · exact h
    · split
      · exact subV_ok (downV_ok nodes f) _ _ _ (addV_ok _ _ _ _ given_mem h)
      · exact addV_ok _ _ _ _ given_mem h
theorem view_len (l : List Nd) : (viewF l).1.length ≤ l.length := by
  unfold viewF
  split
  · have h3 := sortI_length (downV l 16 0 0 ⟨#[]⟩ []).1 []
    show (sortI _).length ≤ _
    unfold sortI
    rw [h3]
    have := out_len (downV_ok l 16 0 0 ⟨#[]⟩ [] ⟨fun x hx => absurd hx (by simp), List.Pairwise.nil⟩)
    rw [List.length_nil]
    omega
  · simp
def bigNd (x : Nd) : Bool := decide (200 < x.name.size) || decide (1000 < x.man.size)
def fewN (l : List Nd) : Bool := decide (l.length ≤ 120) && !l.any bigNd
theorem fewN_parts {l : List Nd} (h : fewN l = true) : l.length ≤ 120 ∧ ∀ x ∈ l, x.name.size ≤ 200 := by
  unfold fewN at h
  rw [Bool.and_eq_true] at h
  refine ⟨of_decide_eq_true h.1, fun x hx => ?_⟩
  have h2 : l.any bigNd = false := by simpa using h.2
  have h3 := List.any_eq_false.1 h2 x hx
  unfold bigNd at h3
  simp at h3
  omega
theorem ret_boolN {a b : Bool} (h : a = b) : (Ending.returned (.bool a)) = .returned (.bool b) := by rw [h]
def exNds : List Nd := [⟨1, 0, false, 0, 0, ⟨#[97]⟩, ⟨#[]⟩⟩, ⟨2, 0, false, 0, 0, ⟨#[97]⟩, ⟨#[]⟩⟩]
theorem ex_view : viewF exNds = ([⟨⟨#[97]⟩, 1, 0, false, false, ⟨#[]⟩⟩, ⟨⟨#[97, 126, 49]⟩, 2, 0, false, false, ⟨#[]⟩⟩], 0) := by kernel_rfl
theorem ex_ok : NdsOK exNds := ⟨by decide, fun n hn => by
  simp only [exNds, List.mem_cons, List.mem_nil_iff, or_false] at hn
  rcases hn with rfl | rfl <;> exact ⟨by decide, by decide⟩, fun n hn => by
  simp only [exNds, List.mem_cons, List.mem_nil_iff, or_false] at hn
  rcases hn with rfl | rfl <;> decide⟩
end Go.Proofs.YtfbdbjookkogjaaGreatDoor

