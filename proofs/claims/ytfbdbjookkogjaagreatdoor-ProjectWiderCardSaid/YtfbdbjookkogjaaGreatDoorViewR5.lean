/-
  Which items a tree has: the law.
-/
import Derived.Test.YtfbdbjookkogjaaGreatDoorViewRG
import Derived.Test.YtfbdbjookkogjaaGreatDoorProjW1
namespace Go.Proofs.YtfbdbjookkogjaaGreatDoor
open Go Go.RowKit Go.Lib
theorem any_hitN {α : Type} {l : List α} {p : α → Bool} {k : Nat} {y : α} (hy : l[k]? = some y) (h : p y = true) : l.any p = true := List.any_eq_true.2 ⟨y, List.mem_of_getElem? hy, h⟩
theorem any_noneN {α : Type} {l : List α} {p : α → Bool} (h : ∀ j y, j < l.length → l[j]? = some y → p y = false) : l.any p = false := by
  rw [List.any_eq_false]
  intro x hx
  obtain ⟨j, hj, e⟩ := List.mem_iff_getElem.1 hx
  rw [h j x hj (by rw [List.getElem?_eq_getElem hj, e])]
  simp
theorem addV_ok {nodes : List Nd} (ahead : ByteArray) (full : Bool) : ∀ (l : List (Nd × ByteArray)) (out : List Itm), (∀ p ∈ l, p.1 ∈ nodes) → OutOK nodes out → OutOK nodes (addV ahead full l out).1
  | [], out, _, h => h
  | (n, g) :: r, out, hl, h => by
    unfold addV
    split
    · exact h
    · rename_i h1
      exact addV_ok ahead full r _ (fun p hp => hl p (List.mem_cons_of_mem _ hp)) (h.add (hl (n, g) List.mem_cons_self) (by
        cases hh : hasI out n.cnt n.who with
        | false => rfl
        | true => rw [hh] at h1; simp at h1) ahead g)
theorem subV_ok {nodes : List Nd} {down : Int → Int → ByteArray → List Itm → List Itm × Int} (hd : ∀ c w a o, OutOK nodes o → OutOK nodes (down c w a o).1) (ahead : ByteArray) : ∀ (l : List (Nd × ByteArray)) (out : List Itm), OutOK nodes out → OutOK nodes (subV down ahead l out).1
  | [], out, h => h
  | (n, g) :: r, out, h => by
    unfold subV
    split
    · split
      · exact subV_ok hd ahead r _ (hd _ _ _ _ h)
      · exact hd _ _ _ _ h
    · exact subV_ok hd ahead r _ h
theorem given_mem {nodes : List Nd} {c w : Int} : ∀ p ∈ given nodes c w, p.1 ∈ nodes := fun _ hp => (List.mem_filter.1 (List.of_mem_zip hp).1).1
theorem downV_ok (nodes : List Nd) : ∀ (f : Nat) (c w : Int) (ahead : ByteArray) (out : List Itm), OutOK nodes out → OutOK nodes (downV nodes f c w ahead out).1
  | 0, c, w, ahead, out, h => by
    unfold downV
    split
    · exact h
    · exact addV_ok _ _ _ _ given_mem h
  | f + 1, c, w, ahead, out, h => by
    unfold downV
    split
    · exact h
    · split
      · exact subV_ok (downV_ok nodes f) _ _ _ (addV_ok _ _ _ _ given_mem h)
      · exact addV_ok _ _ _ _ given_mem h
theorem view_len (l : List Nd) : (viewF l).1.length ≤ l.length := by
  unfold viewF
  split
  · have h3 := sortI_length (downV l 16 0 0 ⟨#[]⟩ []).1 []
    show (sortI _).length ≤ _
    unfold sortI
    rw [h3]
    have := out_len (downV_ok l 16 0 0 ⟨#[]⟩ [] ⟨fun x hx => absurd hx (by simp), List.Pairwise.nil⟩)
    rw [List.length_nil]
    omega
  · simp
def bigNd (x : Nd) : Bool := decide (200 < x.name.size) || decide (1000 < x.man.size)
def fewN (l : List Nd) : Bool := decide (l.length ≤ 120) && !l.any bigNd
theorem fewN_parts {l : List Nd} (h : fewN l = true) : l.length ≤ 120 ∧ ∀ x ∈ l, x.name.size ≤ 200 := by
  unfold fewN at h
  rw [Bool.and_eq_true] at h
  refine ⟨of_decide_eq_true h.1, fun x hx => ?_⟩
  have h2 : l.any bigNd = false := by simpa using h.2
  have h3 := List.any_eq_false.1 h2 x hx
  unfold bigNd at h3
  simp at h3
  omega
theorem ret_boolN {a b : Bool} (h : a = b) : (Ending.returned (.bool a)) = .returned (.bool b) := by rw [h]
def exNds : List Nd := [⟨1, 0, false, 0, 0, ⟨#[97]⟩, ⟨#[]⟩⟩, ⟨2, 0, false, 0, 0, ⟨#[97]⟩, ⟨#[]⟩⟩]
theorem ex_view : viewF exNds = ([⟨⟨#[97]⟩, 1, 0, false, false, ⟨#[]⟩⟩, ⟨⟨#[97, 126, 49]⟩, 2, 0, false, false, ⟨#[]⟩⟩], 0) := by kernel_rfl
theorem ex_ok : NdsOK exNds := ⟨by decide, fun n hn => by
  simp only [exNds, List.mem_cons, List.mem_nil_iff, or_false] at hn
  rcases hn with rfl | rfl <;> exact ⟨by decide, by decide⟩, fun n hn => by
  simp only [exNds, List.mem_cons, List.mem_nil_iff, or_false] at hn
  rcases hn with rfl | rfl <;> decide⟩
end Go.Proofs.YtfbdbjookkogjaaGreatDoor
