/-
  Which acts make of what there is what is wanted: the plain law.
-/
import Derived.Test.YteeaaphpahnjcaaGreatDoorEntry
import Derived.Lib.Strings
namespace Go.Proofs.YteeaaphpahnjcaaGreatDoor
open Go.Lib

def findE (l : List Ent) (p : ByteArray) : Option Ent := l.find? fun x => decide (x.path = p)
def staysE (x : Ent) (want : List Ent) : Bool := match findE want x.path with | some y => x.dir == y.dir | none => false
def thereE (now want : List Ent) (p : ByteArray) : Option Ent := now.find? fun x => decide (x.path = p) && staysE x want
/-- Does a path stand below a directory? -/
def underB (p d : ByteArray) : Bool := decide (d.size + 1 < p.size) && decide (p.data.toList.take d.size = d.data.toList) && decide (p.data.toList[d.size]? = some 47)
def inB (now want : List Ent) (k : Nat) (p : ByteArray) : Bool := (now.take k).any fun y => y.dir && !staysE y want && underB p y.path
def goneA (now want : List Ent) : Nat → List ByteArray
  | 0 => []
  | k + 1 => match now[k]? with
    | some x => if !staysE x want && x.dir then goneA now want k ++ [x.path] else goneA now want k
    | none => goneA now want k
def remA (now want : List Ent) : Nat → List Act3
  | 0 => []
  | k + 1 => match now[k]? with
    | some x => if !staysE x want && !inB now want k x.path then remA now want k ++ [⟨1, x.path, ⟨#[]⟩⟩] else remA now want k
    | none => remA now want k
def mkA (now want : List Ent) : Nat → List Act3
  | 0 => remA now want now.length
  | k + 1 => match want[k]? with
    | some x => if x.dir && !(thereE now want x.path).isSome then mkA now want k ++ [⟨2, x.path, ⟨#[]⟩⟩] else mkA now want k
    | none => mkA now want k
def wrB (now want : List Ent) (x : Ent) : Bool := !x.dir && (match thereE now want x.path with | some y => decide (¬ y.data = x.data) | none => true)
def wrA (now want : List Ent) : Nat → List Act3
  | 0 => mkA now want want.length
  | k + 1 => match want[k]? with
    | some x => if wrB now want x then wrA now want k ++ [⟨3, x.path, x.data⟩] else wrA now want k
    | none => wrA now want k
def planA (now want : List Ent) : List Act3 := wrA now want want.length

theorem goneA_step {now want : List Ent} {k : Nat} {x : Ent} (h : now[k]? = some x) : goneA now want (k + 1) = if !staysE x want && x.dir then goneA now want k ++ [x.path] else goneA now want k := by simp only [goneA, h]
theorem remA_step {now want : List Ent} {k : Nat} {x : Ent} (h : now[k]? = some x) : remA now want (k + 1) = if !staysE x want && !inB now want k x.path then remA now want k ++ [⟨1, x.path, ⟨#[]⟩⟩] else remA now want k := by simp only [remA, h]
theorem mkA_step {now want : List Ent} {k : Nat} {x : Ent} (h : want[k]? = some x) : mkA now want (k + 1) = if x.dir && !(thereE now want x.path).isSome then mkA now want k ++ [⟨2, x.path, ⟨#[]⟩⟩] else mkA now want k := by simp only [mkA, h]
theorem wrA_step {now want : List Ent} {k : Nat} {x : Ent} (h : want[k]? = some x) : wrA now want (k + 1) = if wrB now want x then wrA now want k ++ [⟨3, x.path, x.data⟩] else wrA now want k := by simp only [wrA, h]
theorem goneA_length (now want : List Ent) : ∀ k, (goneA now want k).length ≤ k
  | 0 => Nat.le_refl _
  | k + 1 => by
    have := goneA_length now want k
    unfold goneA
    split
    · split <;> simp <;> omega
    · omega
theorem remA_length (now want : List Ent) : ∀ k, (remA now want k).length ≤ k
  | 0 => Nat.le_refl _
  | k + 1 => by
    have := remA_length now want k
    unfold remA
    split
    · split <;> simp <;> omega
    · omega
theorem mkA_length (now want : List Ent) : ∀ k, (mkA now want k).length ≤ now.length + k
  | 0 => remA_length _ _ _
  | k + 1 => by
    have := mkA_length now want k
    unfold mkA
    split
    · split <;> simp <;> omega
    · omega
theorem wrA_length (now want : List Ent) : ∀ k, (wrA now want k).length ≤ now.length + want.length + k
  | 0 => mkA_length _ _ _
  | k + 1 => by
    have := wrA_length now want k
    unfold wrA
    split
    · split <;> simp <;> omega
    · omega
/-- What stands below a directory that goes. -/
theorem inB_gone (now want : List Ent) (p : ByteArray) : ∀ k, k ≤ now.length → inB now want k p = (goneA now want k).any fun d => underB p d := by
  intro k
  induction k with
  | zero => intro _; rfl
  | succ k ih =>
    intro hk
    have ih := ih (by omega)
    obtain ⟨x, hx⟩ : ∃ x, now[k]? = some x := ⟨_, List.getElem?_eq_getElem (by omega)⟩
    rw [goneA_step hx]
    unfold inB at ih ⊢
    rw [List.take_add_one, hx, Option.toList_some, List.any_append, ih]
    cases hd : x.dir <;> cases hs : staysE x want <;> simp [hd, hs]
/-- What is found first, as a map keeps it. -/
def firstFn (l : List Ent) (q : Ent → Bool) : ByteArray → Option Value := fun p => (l.find? fun x => decide (x.path = p) && q x).map Ent.val
theorem firstFn_snoc (l : List Ent) (q : Ent → Bool) (x : Ent) : firstFn (l ++ [x]) q = if q x && (firstFn l q x.path).isNone then putAt (firstFn l q) x.path x.val else firstFn l q := by
  funext p
  unfold firstFn putAt
  simp only [List.find?_append, Option.isNone_map]
  by_cases hp : x.path = p
  · subst hp
    cases hq : q x <;> cases hf : (l.find? fun y => decide (y.path = x.path) && q y) <;> simp [hq, hf]
  · have hp' : ¬ p = x.path := fun e => hp e.symm
    cases hq : q x <;> cases hf : (l.find? fun y => decide (y.path = x.path) && q y) <;> simp [hq, hp, hp']
theorem firstFn_cons (x : Ent) (l : List Ent) : firstFn (x :: l) (fun _ => true) = putAt (firstFn l fun _ => true) x.path x.val := by
  funext p
  unfold firstFn putAt
  by_cases hp : x.path = p
  · subst hp; simp
  · have hp' : ¬ p = x.path := fun e => hp e.symm
    simp [hp, hp']
/-- What CutPrefix tells. -/
theorem under_cut (p d : ByteArray) : underB p d = (Lib.hasPrefix p.data.toList (d.data.toList ++ [47]) && !(Lib.trimPrefix p.data.toList (d.data.toList ++ [47])).isEmpty) := by
  unfold underB
  rw [size_eq, size_eq]
  generalize p.data.toList = p
  generalize d.data.toList = d
  rw [Bool.eq_iff_iff]
  simp only [Bool.and_eq_true, decide_eq_true_eq, Bool.not_eq_true', List.isEmpty_eq_false_iff]
  have key : Lib.hasPrefix p (d ++ [47]) = true ↔ (p.take d.length = d ∧ p[d.length]? = some 47) := by
    unfold Lib.hasPrefix
    rw [List.isPrefixOf_iff_prefix]
    constructor
    · rintro ⟨t, rfl⟩
      simp
    · rintro ⟨h1, h2⟩
      refine ⟨p.drop (d.length + 1), ?_⟩
      obtain ⟨hl, he⟩ := List.getElem?_eq_some_iff.1 h2
      conv => rhs; rw [← List.take_append_drop d.length p, h1, List.drop_eq_getElem_cons hl, he]
      simp
  rw [key]
  unfold Lib.trimPrefix
  constructor
  · rintro ⟨⟨h1, h2⟩, h3⟩
    refine ⟨⟨h2, h3⟩, ?_⟩
    rw [if_pos (key.2 ⟨h2, h3⟩)]
    intro e
    have := congrArg List.length e
    simp at this
    omega
  · rintro ⟨⟨h2, h3⟩, h4⟩
    refine ⟨⟨?_, h2⟩, h3⟩
    rw [if_pos (key.2 ⟨h2, h3⟩)] at h4
    have := List.length_pos_iff.2 h4
    simp at this
    omega
theorem goneA_sub (now want : List Ent) : ∀ k, ∀ d ∈ goneA now want k, ∃ x ∈ now, x.path = d
  | 0, d, h => by simp [goneA] at h
  | k + 1, d, h => by
    have ih := goneA_sub now want k d
    unfold goneA at h
    split at h
    · rename_i x hx
      split at h
      · rw [List.mem_append, List.mem_singleton] at h
        rcases h with h | rfl
        · exact ih h
        · exact ⟨x, List.mem_of_getElem? hx, rfl⟩
      · exact ih h
    · exact ih h
end Go.Proofs.YteeaaphpahnjcaaGreatDoor
