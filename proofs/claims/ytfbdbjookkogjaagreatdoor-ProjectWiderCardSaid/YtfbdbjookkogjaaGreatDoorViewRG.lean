/-
  The document's walk down a tree: the state. The document's walk down a tree: one step. Items by rising paths, as the document has them. The document's items of a tree.
-/
import Derived.Test.YtfbdbjookkogjaaGreatDoorViewW4
import Derived.Test.YtfbdbjookkogjaaGreatDoorViewG
import Derived.Test.YtfbdbjookkogjaaGreatDoorNamesG
import Derived.Test.YtfbdbjookkogjaaGreatDoorPut
import Derived.Test.YtfbdbjookkogjaaGreatDoorSliced
namespace Go.Proofs.YtfbdbjookkogjaaGreatDoor
open Go Go.RowKit Go.Lib

theorem downV_eq (nodes : List Nd) (f : Nat) (c q : Int) (ahead : ByteArray) (out : List Itm) : downV nodes f c q ahead out = if uniqueN ((childF nodes c q).map (·.name)) ≠ 0 then (out, uniqueN ((childF nodes c q).map (·.name))) else
    if (addV ahead (decide (f = 0)) (given nodes c q) out).2 = 0 then subV (downV nodes (f - 1)) ahead (given nodes c q) (addV ahead (decide (f = 0)) (given nodes c q) out).1 else addV ahead (decide (f = 0)) (given nodes c q) out := by
  cases f with
  | succ f =>
    rw [show decide (f + 1 = 0) = false from by simp]
    conv => lhs; unfold downV
    rfl
  | zero =>
    rw [show decide (0 = 0) = true from by simp]
    conv => lhs; unfold downV
    generalize given nodes c q = l
    split
    · rfl
    · cases l with
      | nil => rfl
      | cons p r =>
        obtain ⟨n, g⟩ := p
        unfold addV
        rw [if_pos (by simp), if_neg (by simp)]
theorem addV_full {ahead : ByteArray} {l : List (Nd × ByteArray)} {out o : List Itm} (h : addV ahead true l out = (o, 0)) : l = [] := by
  cases l with
  | nil => rfl
  | cons p r =>
    obtain ⟨n, g⟩ := p
    unfold addV at h
    rw [if_pos (by simp)] at h
    cases h
theorem hasI_not {out : List Itm} {c q : Int} (h : ∀ (m : Nat) (y : Itm), m < out.length → out[m]? = some y → ¬ (y.cnt = c ∧ y.who = q)) : hasI out c q = false := by
  unfold hasI
  rw [List.any_eq_false]
  intro x hx
  obtain ⟨m, hm, e⟩ := List.mem_iff_getElem.1 hx
  simpa using h m x hm (by rw [List.getElem?_eq_getElem hm, e])
theorem hasI_yes {out : List Itm} {c q : Int} {m : Nat} {y : Itm} (h : out[m]? = some y) (e : y.cnt = c ∧ y.who = q) : hasI out c q = true := by
  unfold hasI
  exact List.any_eq_true.2 ⟨y, List.mem_of_getElem? h, decide_eq_true e⟩
def SR (wb : Nat) (v : Value) : Nat → Prop := fun j => j = wb ∨ v.ownBlock = some j
structure RSt (wE : World) (wb B : Nat) (av : Option Addr) (cv : Nat) (nodes : List Nd) (w : World) (out : List Itm) (v : Value) : Prop where
  bel : Below wb wE w
  var : VarAt w wb [.slice av nodes.length cv, v]
  rows : OwnRows itmLay w B 31 v out
  sz : B ≤ w.heap.size
theorem RSt.below {wE : World} {wb B : Nat} {av : Option Addr} {cv : Nat} {nodes : List Nd} {w w' : World} {out : List Itm} {v : Value} (h : RSt wE wb B av cv nodes w out v) (hk : wb < B) (hb : Below w.heap.size w w') : RSt wE wb B av cv nodes w' out v := by
  have hz := h.sz
  exact ⟨h.bel.trans (hb.mono (by omega)), h.var.keeps hb h.var.1, h.rows.below hb, Nat.le_trans hz hb.size⟩
/-- What a call of it is answered, and what it leaves. -/
def RDownP (wE : World) (wb B : Nat) (av : Option Addr) (cv : Nat) (nodes : List Nd) (W : World) (v : Value) (r : List Itm × Int) : Ending → World → Prop := fun e w' => e = .returned (.int .i64 r.2) ∧ ∃ v', RSt wE wb B av cv nodes w' r.1 v' ∧ OutOK nodes r.1 ∧ (∀ j, v'.ownBlock = some j → v.ownBlock = some j ∨ W.heap.size ≤ j) ∧ Turned (SR wb v) W.heap.size W w'
end Go.Proofs.YtfbdbjookkogjaaGreatDoor

namespace Go.Proofs.YtfbdbjookkogjaaGreatDoor
open Go Go.RowKit Go.Lib
section
variable {wE : World} {wb B : Nat} {av : Option Addr} {cv : Nat} {nodes : List Nd}
end
end Go.Proofs.YtfbdbjookkogjaaGreatDoor

namespace Go.Proofs.YtfbdbjookkogjaaGreatDoor
open Go Go.RowKit Go.Lib
theorem gt_path (x y : Itm) : ltI x y = !(Op.bytesLess y.path.toList x.path.toList || y.path.toList == x.path.toList) := by
  unfold ltI
  rw [lessV_before, beforeV_lt, beforeV_lt, ByteArray.toList_eq, ByteArray.toList_eq]
  by_cases h1 : y.path.data.toList < x.path.data.toList
  · rw [decide_eq_true h1, decide_eq_false (List.not_lt.2 (List.le_of_lt h1))]
    rfl
  · by_cases h2 : y.path.data.toList = x.path.data.toList
    · rw [h2, decide_eq_false (List.lt_irrefl _)]
      simp
    · have h3 : x.path.data.toList < y.path.data.toList := Classical.byContradiction fun h => h2 (List.le_antisymm (List.not_lt.1 h) (List.not_lt.1 h1))
      rw [decide_eq_true h3, decide_eq_false h1]
      rw [show (y.path.data.toList == x.path.data.toList) = false from beq_false_of_ne h2]
      rfl
theorem below_of {x y : Itm} {out : List Itm} {u : Nat} (hs : SrtI out) (hy : out[u]? = some y) (h : ltI x y = false) {j : Nat} (hj : j ≤ u) {z : Itm} (hz : out[j]? = some z) : ltI x z = false := by
  rcases Nat.lt_or_eq_of_le hj with hj | rfl
  · unfold SrtI at hs
    rw [List.pairwise_iff_getElem] at hs
    obtain ⟨a1, a2⟩ := List.getElem?_eq_some_iff.1 hy
    obtain ⟨b1, b2⟩ := List.getElem?_eq_some_iff.1 hz
    have h3 := hs j u b1 a1 hj
    rw [a2, b2] at h3
    cases hxz : ltI x z with
    | false => rfl
    | true =>
      by_cases e : pI z = pI y
      · rw [(ltI_eq e).2] at hxz
        rw [hxz] at h
        cases h
      · rcases ltI_total e with h4 | h4
        · rw [ltI_trans hxz h4] at h
          cases h
        · rw [h4] at h3
          cases h3
  · rw [hy] at hz
    cases hz
    exact h
end Go.Proofs.YtfbdbjookkogjaaGreatDoor

namespace Go.Proofs.YtfbdbjookkogjaaGreatDoor
open Go Go.RowKit Go.Lib
section
variable {wE : World} {wb B : Nat} {av : Option Addr} {cv : Nat} {nodes : List Nd}
end
end Go.Proofs.YtfbdbjookkogjaaGreatDoor

