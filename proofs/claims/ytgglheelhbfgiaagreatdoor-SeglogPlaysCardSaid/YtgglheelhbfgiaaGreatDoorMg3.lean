/-
  Records in files of a disk, in plain Lean. Which names are given, that no two are the same: the plain law. What is given is right, unlike what was given, and itself where it stands for the first time: the plain law. What is found on a disk: the records of its frames, and no more: the plain law.
-/
import Derived.Test.YtgglheelhbfgiaaGreatDoorMg2
import Derived.Lib.ItoaNum
import Derived.Lib.TrimByte
import Derived.Lib.LastIndexByte
import Derived.Test.YtgglheelhbfgiaaGreatDoorMg1
namespace Go.Proofs.YtgglheelhbfgiaaGreatDoor
open Go Go.RowKit
abbrev Ends := List (ByteArray × Int)
def mkB (l : List UInt8) : ByteArray := ⟨l.toArray⟩
def nameS (k : Nat) : ByteArray := mkB ([115, 101, 103, 45] ++ Lib.decDigits k)
def endOf (ends : Ends) (p : ByteArray) : Int := (findK ends p).getD 0
/-- The records that are there, and how many bytes of each file they have. -/
def scanG (now : Fls) : Nat → List ByteArray → Ends → List ByteArray × Ends
  | 0, out, ends => (out, ends)
  | f + 1, out, ends =>
    match firstL ((hasD now (nameS (out.length / 8))).data.toList.drop (endOf ends (nameS (out.length / 8))).toNat) out.length with
    | none => (out, ends)
    | some (s, n) => scanG now f (out ++ [mkB s]) (putK ends (nameS (out.length / 8)) (endOf ends (nameS (out.length / 8)) + n))
def cutsD (ends : Ends) : List ByteArray → Dk → Dk × Int
  | [], d => (d, 0)
  | p :: r, d => if endOf ends p < (hasD d.now p).size then (if (cutD d p (endOf ends p)).2 ≠ 0 then cutD d p (endOf ends p) else cutsD ends r (cutD d p (endOf ends p)).1) else cutsD ends r d
structure Lg where
  many : Nat
  fin : Int
  dead : Bool
structure OpenR where
  log : Option Lg
  out : List ByteArray
  err : Int
  d : Dk
def openD (d : Dk) : OpenR :=
  if d.dead = true then ⟨none, [], 42, d⟩
  else if (cutsD (scanG d.now 800 [] []).2 (namesD d) d).2 ≠ 0 then ⟨none, [], (cutsD (scanG d.now 800 [] []).2 (namesD d) d).2, (cutsD (scanG d.now 800 [] []).2 (namesD d) d).1⟩
  else if (syncD (cutsD (scanG d.now 800 [] []).2 (namesD d) d).1).2 ≠ 0 then ⟨none, [], (syncD (cutsD (scanG d.now 800 [] []).2 (namesD d) d).1).2, (syncD (cutsD (scanG d.now 800 [] []).2 (namesD d) d).1).1⟩
  else ⟨some ⟨(scanG d.now 800 [] []).1.length, endOf (scanG d.now 800 [] []).2 (nameS ((scanG d.now 800 [] []).1.length / 8)), false⟩, (scanG d.now 800 [] []).1, 0, (syncD (cutsD (scanG d.now 800 [] []).2 (namesD d) d).1).1⟩
def frameB (n : Nat) (s : ByteArray) : ByteArray := mkB (frameL n s.data.toList)
/-- Writes records behind the others: the disk, where it ends, what went wrong. -/
def layG (many : Nat) : Nat → Int → List ByteArray → Dk → Dk × Int × Int
  | _, at_, [], d => (d, at_, 0)
  | i, at_, s :: r, d =>
    if (writeD d (nameS ((many + i) / 8)) (if (many + i) % 8 = 0 then 0 else at_) (frameB (many + i) s)).2 ≠ 0 then ((writeD d (nameS ((many + i) / 8)) (if (many + i) % 8 = 0 then 0 else at_) (frameB (many + i) s)).1, 0, (writeD d (nameS ((many + i) / 8)) (if (many + i) % 8 = 0 then 0 else at_) (frameB (many + i) s)).2)
    else layG many (i + 1) ((if (many + i) % 8 = 0 then 0 else at_) + (frameB (many + i) s).size) r (writeD d (nameS ((many + i) / 8)) (if (many + i) % 8 = 0 then 0 else at_) (frameB (many + i) s)).1
def layD (l : Lg) (rs : List ByteArray) (d : Dk) : Dk × Int × Int :=
  if (layG l.many 0 l.fin rs d).2.2 ≠ 0 then layG l.many 0 l.fin rs d
  else ((syncD (layG l.many 0 l.fin rs d).1).1, (layG l.many 0 l.fin rs d).2.1, (syncD (layG l.many 0 l.fin rs d).1).2)
def rightR (s : ByteArray) : Bool := decide (1 ≤ s.size) && decide (s.size ≤ 2000)
def appendD (l : Lg) (rs : List ByteArray) (d : Dk) : Lg × Dk × Int :=
  if l.dead = true then (l, d, 42)
  else if rs.all rightR = false then (l, d, 1)
  else if 800 < l.many + rs.length then (l, d, 40)
  else if rs.length = 0 then (l, d, 0)
  else if (layD l rs d).2.2 ≠ 0 then ({ l with dead := true }, (layD l rs d).1, (layD l rs d).2.2)
  else ({ l with many := l.many + rs.length, fin := (layD l rs d).2.1 }, (layD l rs d).1, 0)
end Go.Proofs.YtgglheelhbfgiaaGreatDoor

namespace Go.Proofs.YtgglheelhbfgiaaGreatDoor
open Go.Lib

def okByte (c : UInt8) : Bool := decide (32 ≤ c.toNat) && decide (c.toNat ≤ 126) && decide (c.toNat ≠ 47)
def rightL (l : List UInt8) : Bool := !l.isEmpty && decide (l.length ≤ 24) && l != [46] && l != [46, 46] && (l.head? != some 32) && (l.getLast? != some 32) && l.all okByte
def rightN (l : List UInt8) : Int := if rightL l then 0 else 23

theorem rightN_bad {l : List UInt8} (h : rightL l = false) : rightN l = 23 := by simp [rightN, h]
theorem rightN_ok {l : List UInt8} (h : rightL l = true) : rightN l = 0 := by simp [rightN, h]
theorem bad_empty {l : List UInt8} (h : l = []) : rightN l = 23 := rightN_bad (by simp [rightL, h])
theorem bad_long {l : List UInt8} (h : 24 < l.length) : rightN l = 23 := rightN_bad (by
  have : ¬ l.length ≤ 24 := by omega
  simp [rightL, this])
theorem bad_dot {l : List UInt8} (h : l = [46]) : rightN l = 23 := rightN_bad (by simp [rightL, h])
theorem bad_dots {l : List UInt8} (h : l = [46, 46]) : rightN l = 23 := rightN_bad (by simp [rightL, h])
theorem bad_head {l : List UInt8} (h : l.head? = some 32) : rightN l = 23 := rightN_bad (by simp [rightL, h])
theorem bad_last {l : List UInt8} (h : l.getLast? = some 32) : rightN l = 23 := rightN_bad (by simp [rightL, h])
theorem bad_byte {l : List UInt8} {k : Nat} (hk : k < l.length) (h : okByte l[k] = false) : rightN l = 23 := rightN_bad (by
  have : l.all okByte = false := by
    rw [List.all_eq_false]
    exact ⟨l[k], List.getElem_mem hk, by simp [h]⟩
  simp [rightL, this])
theorem ok_all {l : List UInt8} (h0 : ¬ l = []) (h1 : l.length ≤ 24) (h2 : ¬ l = [46]) (h3 : ¬ l = [46, 46]) (h4 : ¬ l.head? = some 32) (h5 : ¬ l.getLast? = some 32)
    (h6 : ∀ j (hj : j < l.length), okByte l[j] = true) : rightN l = 0 := rightN_ok (by
  have : l.all okByte = true := by
    rw [List.all_eq_true]
    intro x hx
    obtain ⟨j, hj, rfl⟩ := List.getElem_of_mem hx
    exact h6 j hj
  simp [rightL, this, h0, h1, h2, h3, h4, h5])
theorem okByte_parts {c : UInt8} (h : okByte c = true) : 32 ≤ (c.toNat : Int) ∧ (c.toNat : Int) ≤ 126 ∧ ((c.toNat : Int) == 47) = false := by
  simp [okByte] at h
  refine ⟨by omega, by omega, ?_⟩
  rw [beq_eq_false_iff_ne]
  omega
theorem okByte_not {c : UInt8} (h : okByte c = false) : (c.toNat : Int) < 32 ∨ 126 < (c.toNat : Int) ∨ ((c.toNat : Int) == 47) = true := by
  simp [okByte] at h
  by_cases h1 : (c.toNat : Int) < 32
  · exact .inl h1
  · by_cases h2 : 126 < (c.toNat : Int)
    · exact .inr (.inl h2)
    · refine .inr (.inr ?_)
      have := h (by omega) (by omega)
      rw [beq_iff_eq]
      omega
theorem trim_eq_iff (l : List UInt8) : trimB l 32 = l ↔ (¬ l.head? = some 32 ∧ ¬ l.getLast? = some 32) := by
  unfold trimB trimLeftB trimRightB
  constructor
  · intro h
    have hlen : (List.dropWhile (· == 32) (List.dropWhile (· == 32) l.reverse).reverse).length = l.length := by rw [h]
    have h1 : (List.dropWhile (· == 32) l.reverse).length ≤ l.reverse.length := (List.dropWhile_sublist _).length_le
    have h2 : (List.dropWhile (· == 32) (List.dropWhile (· == 32) l.reverse).reverse).length ≤ (List.dropWhile (· == 32) l.reverse).reverse.length := (List.dropWhile_sublist _).length_le
    simp only [List.length_reverse] at h1 h2
    have e1 : List.dropWhile (· == 32) l.reverse = l.reverse := (List.dropWhile_sublist _).eq_of_length (by simp; omega)
    rw [e1, List.reverse_reverse] at h
    constructor
    · intro hh
      cases l with
      | nil => simp at hh
      | cons a t => simp at hh; subst hh; simp [List.dropWhile] at h; have := congrArg List.length h; have h3 : (List.dropWhile (· == (32:UInt8)) t).length ≤ t.length := (List.dropWhile_sublist _).length_le; simp at this; omega
    · intro hh
      rw [List.getLast?_eq_head?_reverse] at hh
      generalize l.reverse = r at *
      cases r with
      | nil => simp at hh
      | cons a t => simp at hh; subst hh; simp [List.dropWhile] at e1; have := congrArg List.length e1; have h3 : (List.dropWhile (· == (32:UInt8)) t).length ≤ t.length := (List.dropWhile_sublist _).length_le; simp at this; omega
  · rintro ⟨h1, h2⟩
    have e1 : List.dropWhile (· == 32) l.reverse = l.reverse := by
      rw [List.getLast?_eq_head?_reverse] at h2
      generalize l.reverse = r at *
      cases r with
      | nil => rfl
      | cons a t =>
        have : (a == 32) = false := by simpa using h2
        simp [List.dropWhile, this]
    rw [e1, List.reverse_reverse]
    cases l with
    | nil => rfl
    | cons a t =>
      have : (a == 32) = false := by simpa using h1
      simp [List.dropWhile, this]

/-- A name's ending: what stands behind the last dot, where that is not the first byte. -/
def extAt (l : List UInt8) : Int := Lib.lastIndexByte ⟨l.toArray⟩ 46
def extL (l : List UInt8) : List UInt8 := if 0 < extAt l then l.drop ((extAt l).toNat + 1) else []
theorem extAt_spec (l : List UInt8) : (extAt l = -1 ∧ ∀ j (hj : j < l.length), (l[j].toNat : Int) ≠ 46) ∨
    (∃ i : Nat, ∃ hi : i < l.length, extAt l = i ∧ (l[i].toNat : Int) = 46 ∧ ∀ j (hj : j < l.length), i < j → (l[j].toNat : Int) ≠ 46) := by
  have hsz : (⟨l.toArray⟩ : ByteArray).size = l.length := size_mk l
  have hb : ∀ j (hj : j < l.length), (⟨l.toArray⟩ : ByteArray).data[j]! = l[j] := fun j hj => by simp [hj]
  rcases Lib.lastIndexByte_spec ⟨l.toArray⟩ 46 with ⟨e, h⟩ | ⟨i, hi, e, h1, h2⟩
  · exact .inl ⟨e, fun j hj => by have := h j (by omega); rwa [hb j hj] at this⟩
  · rw [hsz] at hi
    exact .inr ⟨i, hi, e, by rwa [hb i hi] at h1, fun j hj hij => by have := h2 j hij (by omega); rwa [hb j hj] at this⟩
/-- What the loop from the end finds. -/
theorem extL_hit {l : List UInt8} {i : Nat} (h0 : 0 < i) (hi : i < l.length) (h1 : (l[i].toNat : Int) = 46) (h2 : ∀ j (hj : j < l.length), i < j → (l[j].toNat : Int) ≠ 46) : extL l = l.drop (i + 1) := by
  have : extAt l = i := by
    rcases extAt_spec l with ⟨_, h⟩ | ⟨k, hk, e, h3, h4⟩
    · exact absurd h1 (h i hi)
    · by_cases a : k < i
      · exact absurd h1 (h4 i hi a)
      · by_cases b : i < k
        · exact absurd h3 (h2 k hk b)
        · rw [e]; omega
  unfold extL
  rw [this, if_pos (by omega)]
  rfl
theorem extL_miss {l : List UInt8} (h2 : ∀ j (hj : j < l.length), 0 < j → (l[j].toNat : Int) ≠ 46) : extL l = [] := by
  unfold extL
  rw [if_neg]
  rcases extAt_spec l with ⟨e, h⟩ | ⟨k, hk, e, h3, h4⟩
  · omega
  · intro h
    exact h2 k hk (by omega) h3

/-- The name of a copy. -/
def behindL (l : List UInt8) : List UInt8 := if 1 ≤ (extL l).length ∧ (extL l).length ≤ 7 then 46 :: extL l else []
def stemL (l : List UInt8) : List UInt8 := l.take (l.length - (behindL l).length)
def tailL (l : List UInt8) (n : Int) : List UInt8 := 126 :: (decDigits n.toNat ++ behindL l)
def copyOk (l : List UInt8) (n : Int) : List UInt8 := (stemL l).take (24 - (tailL l n).length) ++ tailL l n
def copyL (l : List UInt8) (n : Int) : List UInt8 := if rightL l then (if n < 1 ∨ 9999 < n then [] else copyOk l n) else []
def copyN (l : List UInt8) (n : Int) : Int := if rightL l then (if n < 1 ∨ 9999 < n then 1 else 0) else 23
theorem copy_wrong {l : List UInt8} (n : Int) (h : rightL l = false) : copyL l n = [] ∧ copyN l n = 23 := by simp [copyL, copyN, h]
theorem copy_arg {l : List UInt8} {n : Int} (h : rightL l = true) (h2 : n < 1 ∨ 9999 < n) : copyL l n = [] ∧ copyN l n = 1 := by simp [copyL, copyN, h, h2]
theorem copy_right {l : List UInt8} {n : Int} (h : rightL l = true) (h2 : ¬ (n < 1 ∨ 9999 < n)) : copyL l n = copyOk l n ∧ copyN l n = 0 := by simp [copyL, copyN, h, h2]
theorem rightN_true {l : List UInt8} (h : rightL l = true) : rightN l = 0 := rightN_ok h
theorem rightL_len {l : List UInt8} (h : rightL l = true) : l.length ≤ 24 := by
  simp [rightL] at h; omega
theorem extL_len (l : List UInt8) : (extL l).length ≤ l.length := by
  unfold extL; split <;> simp
theorem behindL_len (l : List UInt8) : (behindL l).length ≤ 8 := by
  unfold behindL; split <;> simp; omega
/-- A text ends with a dot and its ending, where it has one. -/
theorem ext_suffix {l : List UInt8} (h : extL l ≠ []) : l = l.take (l.length - (extL l).length - 1) ++ 46 :: extL l ∧ (extL l).length + 1 ≤ l.length := by
  rcases extAt_spec l with ⟨e, _⟩ | ⟨i, hi, e, h1, h2⟩
  · exact absurd (by unfold extL; rw [e]; rfl) h
  · by_cases h0 : 0 < i
    · have hx := extL_hit h0 hi h1 h2
      have hlen : (extL l).length = l.length - (i + 1) := by rw [hx]; simp
      refine ⟨?_, by omega⟩
      rw [show l.length - (extL l).length - 1 = i from by omega, hx]
      have e46 : l[i] = 46 := by
        have : l[i].toNat = 46 := by omega
        rw [← UInt8.ofNat_toNat (x := l[i]), this]; rfl
      conv => lhs; rw [← List.take_append_drop i l, List.drop_eq_getElem_cons hi, e46]
    · exact absurd (by unfold extL; rw [e, if_neg (by omega)]) h
theorem trimSuffix_ext {l : List UInt8} (h : extL l ≠ []) : Lib.trimSuffix l (46 :: extL l) = l.take (l.length - (extL l).length - 1) := by
  obtain ⟨h1, h2⟩ := ext_suffix h
  unfold Lib.trimSuffix
  have hs : Lib.hasSuffix l (46 :: extL l) = true := by
    unfold Lib.hasSuffix
    rw [List.isSuffixOf_iff_suffix]
    exact ⟨_, h1.symm⟩
  rw [if_pos hs]
  simp only [List.length_cons]
  congr 1
theorem stem_with {l : List UInt8} (h : extL l ≠ []) (h7 : (extL l).length ≤ 7) : stemL l = l.take (l.length - (extL l).length - 1) ∧ behindL l = 46 :: extL l := by
  have : 1 ≤ (extL l).length := List.length_pos_iff.2 h
  have hb : behindL l = 46 :: extL l := by unfold behindL; rw [if_pos ⟨this, h7⟩]
  refine ⟨?_, hb⟩
  unfold stemL
  rw [hb]
  simp only [List.length_cons]
  congr 1
theorem stem_without {l : List UInt8} (h : extL l = [] ∨ 7 < (extL l).length) : stemL l = l ∧ behindL l = [] := by
  have hb : behindL l = [] := by
    unfold behindL; rw [if_neg]
    rintro ⟨a, b⟩
    rcases h with h | h
    · rw [h] at a; simp at a
    · omega
  refine ⟨?_, hb⟩
  unfold stemL; rw [hb]; simp
end Go.Proofs.YtgglheelhbfgiaaGreatDoor

namespace Go.Proofs.YtgglheelhbfgiaaGreatDoor
open Go.Lib

def hasB (ss : List ByteArray) (s : ByteArray) : Bool := ss.any fun x => decide (x = s)
theorem hasB_iff {ss : List ByteArray} {s : ByteArray} : hasB ss s = true ↔ s ∈ ss := by
  unfold hasB
  rw [List.any_eq_true]
  exact ⟨fun ⟨x, hx, e⟩ => by rw [← of_decide_eq_true e]; exact hx, fun h => ⟨s, h, decide_eq_true rfl⟩⟩
theorem hasB_not {ss : List ByteArray} {s : ByteArray} : hasB ss s = false ↔ s ∉ ss := by rw [← Bool.not_eq_true, hasB_iff]

def bcopy (s : ByteArray) (n : Nat) : ByteArray := ⟨(copyL s.data.toList n).toArray⟩
def bright (s : ByteArray) : Bool := rightL s.data.toList

theorem decDigits_unf (u : Nat) : decDigits u = if u < 10 then [UInt8.ofNat (48 + u)] else decDigits (u / 10) ++ [UInt8.ofNat (48 + u % 10)] := by
  conv => lhs; rw [decDigits]
  split <;> rfl
theorem decDigits_inj : ∀ (u v : Nat), decDigits u = decDigits v → u = v := by
  intro u
  induction u using Nat.strongRecOn with
  | _ u ih =>
    intro v h
    have hlen : ∀ u, 1 ≤ (decDigits u).length := fun u => by rw [decDigits]; split <;> simp
    have hdig : ∀ a b : Nat, a < 10 → b < 10 → UInt8.ofNat (48 + a) = UInt8.ofNat (48 + b) → a = b := by
      intro a b ha hb e
      have := congrArg UInt8.toNat e
      simp only [UInt8.toNat_ofNat'] at this
      omega
    rw [decDigits_unf u, decDigits_unf v] at h
    split at h
    · split at h
      · simp only [List.cons.injEq, and_true] at h
        exact hdig _ _ (by omega) (by omega) h
      · have h1 := congrArg List.length h
        have h2 := hlen (v / 10)
        simp only [List.length_append, List.length_cons, List.length_nil] at h1
        omega
    · split at h
      · have h1 := congrArg List.length h
        have h2 := hlen (u / 10)
        simp only [List.length_append, List.length_cons, List.length_nil] at h1
        omega
      · obtain ⟨h1, h2⟩ := List.append_inj' h rfl
        simp only [List.cons.injEq, and_true] at h2
        have e1 := ih (u / 10) (by omega) (v / 10) h1
        have e2 := hdig _ _ (Nat.mod_lt _ (by omega)) (Nat.mod_lt _ (by omega)) h2
        omega
theorem decDigits_range : ∀ (u : Nat) (c : UInt8), c ∈ decDigits u → 48 ≤ c.toNat ∧ c.toNat ≤ 57 := by
  intro u
  induction u using Nat.strongRecOn with
  | _ u ih =>
    intro c hc
    rw [decDigits] at hc
    have hd : ∀ k, k < 10 → (UInt8.ofNat (48 + k)).toNat = 48 + k := fun k hk => by rw [UInt8.toNat_ofNat']; omega
    split at hc
    · simp only [List.mem_singleton] at hc
      rw [hc, hd u (by assumption)]
      omega
    · simp only [List.mem_append, List.mem_singleton] at hc
      rcases hc with hc | hc
      · exact ih (u / 10) (by omega) c hc
      · rw [hc, hd (u % 10) (by omega)]
        omega
theorem split_last {x : UInt8} : ∀ (A B D E : List UInt8), x ∉ D → x ∉ E → A ++ x :: D = B ++ x :: E → D = E ∧ A = B := by
  intro A
  induction A with
  | nil =>
    intro B D E hD hE h
    cases B with
    | nil => simp at h; exact ⟨h, rfl⟩
    | cons b B =>
      simp only [List.nil_append, List.cons_append, List.cons.injEq] at h
      exact absurd (by rw [h.2]; simp) hD
  | cons a A ih =>
    intro B D E hD hE h
    cases B with
    | nil =>
      simp only [List.nil_append, List.cons_append, List.cons.injEq] at h
      exact absurd (by rw [← h.2]; simp) hE
    | cons b B =>
      simp only [List.cons_append, List.cons.injEq] at h
      obtain ⟨h1, h2⟩ := ih B D E hD hE h.2
      exact ⟨h1, by rw [h.1, h2]⟩
theorem copyOk_inj {l : List UInt8} {m n : Nat} (h : copyOk l m = copyOk l n) : m = n := by
  unfold copyOk tailL at h
  have hnot : ∀ u : Nat, (126 : UInt8) ∉ decDigits u := fun u hu => by
    have := decDigits_range u 126 hu
    simp at this
  have h' : ∀ k : Nat, List.take (24 - (126 :: (decDigits (k : Int).toNat ++ behindL l)).length) (stemL l) ++ 126 :: (decDigits (k : Int).toNat ++ behindL l) = (List.take (24 - (126 :: (decDigits (k : Int).toNat ++ behindL l)).length) (stemL l) ++ 126 :: decDigits k) ++ behindL l := fun k => by simp
  rw [h', h'] at h
  have h2 := List.append_cancel_right h
  exact decDigits_inj _ _ (split_last _ _ _ _ (hnot _) (hnot _) h2).1
theorem bcopy_ok {s : ByteArray} {n : Nat} (h : bright s = true) (h1 : 1 ≤ n) (h2 : n ≤ 9999) : (bcopy s n).data.toList = copyOk s.data.toList n := by
  unfold bcopy
  rw [(copy_right (n := (n : Int)) h (by omega)).1]
theorem bcopy_inj {s : ByteArray} {m n : Nat} (h : bright s = true) (hm1 : 1 ≤ m) (hm2 : m ≤ 9999) (hn1 : 1 ≤ n) (hn2 : n ≤ 9999) (e : bcopy s m = bcopy s n) : m = n := by
  have := congrArg (fun b : ByteArray => b.data.toList) e
  simp only [bcopy_ok h hm1 hm2, bcopy_ok h hn1 hn2] at this
  exact copyOk_inj this

/-- Distinct members of a list are no more than it has. -/
theorem length_le_of_sub {α : Type} [DecidableEq α] : ∀ (l T : List α), l.Nodup → (∀ x ∈ l, x ∈ T) → l.length ≤ T.length := by
  intro l
  induction l with
  | nil => intro T _ _; simp
  | cons a l ih =>
    intro T hn hs
    have hn' := List.nodup_cons.1 hn
    have h1 := ih (T.filter fun x => decide (x ≠ a)) hn'.2 (fun x hx => by
      rw [List.mem_filter]
      exact ⟨hs x (.tail _ hx), decide_eq_true (fun e => hn'.1 (e ▸ hx))⟩)
    have h2 : (T.filter fun x => decide (x ≠ a)).length < T.length := by
      rw [List.length_filter_lt_length_iff_exists]
      exact ⟨a, hs a (.head _), by simp⟩
    simp only [List.length_cons]
    omega

/-- The first copy from k on that T has not, within so many. -/
def nextFrom (T : List ByteArray) (s : ByteArray) : Nat → Nat → Nat
  | 0, k => k
  | f + 1, k => if hasB T (bcopy s k) then nextFrom T s f (k + 1) else k
def nextN (T : List ByteArray) (s : ByteArray) : Nat := nextFrom T s T.length 1
theorem nextFrom_spec (T : List ByteArray) (s : ByteArray) : ∀ f k, k ≤ nextFrom T s f k ∧ nextFrom T s f k ≤ k + f ∧ (∀ j, k ≤ j → j < nextFrom T s f k → bcopy s j ∈ T) ∧ (nextFrom T s f k < k + f → bcopy s (nextFrom T s f k) ∉ T) := by
  intro f
  induction f with
  | zero => intro k; exact ⟨Nat.le_refl _, Nat.le_refl _, fun j h1 h2 => by simp [nextFrom] at h2; omega, fun h => by simp [nextFrom] at h⟩
  | succ f ih =>
    intro k
    unfold nextFrom
    split
    · rename_i hb
      obtain ⟨a, b, c, d⟩ := ih (k + 1)
      refine ⟨by omega, by omega, fun j h1 h2 => ?_, fun h => d (by omega)⟩
      by_cases e : j = k
      · subst e; exact hasB_iff.1 hb
      · exact c j (by omega) h2
    · rename_i hb
      exact ⟨Nat.le_refl _, by omega, fun j h1 h2 => by omega, fun _ => hasB_not.1 (by simpa using hb)⟩
theorem nextN_spec {T : List ByteArray} {s : ByteArray} (hr : bright s = true) (hT : T.length < 9999) :
    1 ≤ nextN T s ∧ nextN T s ≤ T.length + 1 ∧ bcopy s (nextN T s) ∉ T ∧ ∀ j, 1 ≤ j → j < nextN T s → bcopy s j ∈ T := by
  obtain ⟨a, b, c, d⟩ := nextFrom_spec T s T.length 1
  refine ⟨a, by unfold nextN; omega, ?_, c⟩
  intro hm
  have hlast : nextFrom T s T.length 1 = T.length + 1 := by
    rcases Nat.lt_or_ge (nextFrom T s T.length 1) (1 + T.length) with h | h
    · exact absurd hm (d h)
    · omega
  have hall : ∀ j, 1 ≤ j → j ≤ T.length + 1 → bcopy s j ∈ T := fun j h1 h2 => by
    rcases Nat.lt_or_ge j (T.length + 1) with h | h
    · exact c j h1 (by omega)
    · have : j = nextN T s := by unfold nextN; omega
      rw [this]; exact hm
  have hle := length_le_of_sub ((List.range' 1 (T.length + 1)).map (bcopy s)) T (by
    rw [List.nodup_iff_pairwise_ne, List.pairwise_map]
    refine List.Pairwise.imp_of_mem ?_ (List.pairwise_lt_range' (s := 1) (n := T.length + 1))
    intro x y hx hy hxy e
    simp only [List.mem_range'_1] at hx hy
    have := bcopy_inj hr (by omega) (by omega) (by omega) (by omega) e
    omega) (fun x hx => by
      obtain ⟨j, hj, rfl⟩ := List.mem_map.1 hx
      simp only [List.mem_range'_1] at hj
      exact hall j (by omega) (by omega))
  simp at hle
  omega

/-- What is given for the k-th of the names, where O has been given so far. -/
def pickU (ss O : List ByteArray) (k : Nat) : ByteArray :=
  if hasB (ss.take k) (ss.getD k ByteArray.empty) then bcopy (ss.getD k ByteArray.empty) (nextN (ss ++ O) (ss.getD k ByteArray.empty)) else ss.getD k ByteArray.empty
def outU (ss : List ByteArray) : Nat → List ByteArray
  | 0 => []
  | k + 1 => outU ss k ++ [pickU ss (outU ss k) k]
/-- The copies among them. -/
def outG (ss : List ByteArray) : Nat → List ByteArray
  | 0 => []
  | k + 1 => if hasB (ss.take k) (ss.getD k ByteArray.empty) then outG ss k ++ [pickU ss (outU ss k) k] else outG ss k
theorem outU_length (ss : List ByteArray) : ∀ k, (outU ss k).length = k
  | 0 => rfl
  | k + 1 => by simp [outU, outU_length ss k]
theorem outG_length (ss : List ByteArray) : ∀ k, (outG ss k).length ≤ k
  | 0 => Nat.le_refl _
  | k + 1 => by
    have := outG_length ss k
    unfold outG
    split <;> simp <;> omega
theorem mem_outU (ss : List ByteArray) : ∀ k, k ≤ ss.length → ∀ x, (x ∈ ss ++ outU ss k ↔ x ∈ ss ++ outG ss k)
  | 0, _, _ => Iff.rfl
  | k + 1, hk, x => by
    have ih := mem_outU ss k (by omega) x
    unfold outU outG
    split
    · rename_i h
      simp only [List.mem_append, List.mem_singleton] at ih ⊢
      constructor
      · rintro (h | h | h)
        · exact .inl h
        · rcases ih.1 (.inr h) with h | h
          · exact .inl h
          · exact .inr (.inl h)
        · exact .inr (.inr h)
      · rintro (h | h | h)
        · exact .inl h
        · rcases ih.2 (.inr h) with h | h
          · exact .inl h
          · exact .inr (.inl h)
        · exact .inr (.inr h)
    · rename_i h
      have hp : pickU ss (outU ss k) k ∈ ss := by
        unfold pickU
        rw [if_neg h, List.getD_eq_getElem?_getD, List.getElem?_eq_getElem (by omega)]
        exact List.getElem_mem _
      simp only [List.mem_append, List.mem_singleton] at ih ⊢
      constructor
      · rintro (h | h | h)
        · exact .inl h
        · exact ih.1 (.inr h)
        · exact .inl (h ▸ hp)
      · rintro (h | h)
        · exact .inl h
        · rcases ih.2 (.inr h) with h | h
          · exact .inl h
          · exact .inr (.inl h)
def allRight (ss : List ByteArray) : Bool := ss.all bright
def uniqueN (ss : List ByteArray) : Int := if 1000 < ss.length then 40 else if allRight ss then 0 else 23
def uniqueL (ss : List ByteArray) : List ByteArray := if 1000 < ss.length then [] else if allRight ss then outU ss ss.length else []
theorem unique_big {ss : List ByteArray} (h : 1000 < ss.length) : uniqueN ss = 40 ∧ uniqueL ss = [] := by simp [uniqueN, uniqueL, h]
theorem unique_wrong {ss : List ByteArray} (h : ¬ 1000 < ss.length) (h2 : allRight ss = false) : uniqueN ss = 23 ∧ uniqueL ss = [] := by simp [uniqueN, uniqueL, h, h2]
theorem unique_right {ss : List ByteArray} (h : ¬ 1000 < ss.length) (h2 : allRight ss = true) : uniqueN ss = 0 ∧ uniqueL ss = outU ss ss.length := by simp [uniqueN, uniqueL, h, h2]
theorem allRight_bad {ss : List ByteArray} {k : Nat} (hk : k < ss.length) (h : bright (ss.getD k ByteArray.empty) = false) : allRight ss = false := by
  unfold allRight
  rw [List.all_eq_false]
  rw [List.getD_eq_getElem?_getD, List.getElem?_eq_getElem hk] at h
  exact ⟨ss[k], List.getElem_mem hk, by simpa using h⟩
theorem allRight_ok {ss : List ByteArray} (h : ∀ k, k < ss.length → bright (ss.getD k ByteArray.empty) = true) : allRight ss = true := by
  unfold allRight
  rw [List.all_eq_true]
  intro x hx
  obtain ⟨k, hk, e⟩ := List.getElem_of_mem hx
  have := h k hk
  rw [List.getD_eq_getElem?_getD, List.getElem?_eq_getElem hk] at this
  rw [← e]
  simpa using this
theorem allRight_at {ss : List ByteArray} (h : allRight ss = true) {k : Nat} (hk : k < ss.length) : bright (ss.getD k ByteArray.empty) = true := by
  unfold allRight at h
  rw [List.all_eq_true] at h
  rw [List.getD_eq_getElem?_getD, List.getElem?_eq_getElem hk]
  exact h _ (List.getElem_mem hk)
end Go.Proofs.YtgglheelhbfgiaaGreatDoor

namespace Go.Proofs.YtgglheelhbfgiaaGreatDoor
open Go.Lib

theorem rightL_parts {l : List UInt8} (h : rightL l = true) : l ≠ [] ∧ l.length ≤ 24 ∧ l.head? ≠ some 32 ∧ l.getLast? ≠ some 32 ∧ ∀ c ∈ l, okByte c = true := by
  simp only [rightL, Bool.and_eq_true, Bool.not_eq_true', List.isEmpty_eq_false_iff, decide_eq_true_eq, bne_iff_ne, List.all_eq_true] at h
  exact ⟨h.1.1.1.1.1.1, h.1.1.1.1.1.2, h.1.1.2, h.1.2, h.2⟩
theorem rightL_mk {l : List UInt8} (h1 : 126 ∈ l) (h2 : l.length ≤ 24) (h3 : l.head? ≠ some 32) (h4 : l.getLast? ≠ some 32) (h5 : ∀ c ∈ l, okByte c = true) : rightL l = true := by
  have a : l ≠ [] := fun e => by rw [e] at h1; simp at h1
  have b : l ≠ [46] := fun e => by rw [e] at h1; simp at h1
  have c : l ≠ [46, 46] := fun e => by rw [e] at h1; simp at h1
  simp only [rightL, Bool.and_eq_true, Bool.not_eq_true', List.isEmpty_eq_false_iff, decide_eq_true_eq, bne_iff_ne, List.all_eq_true]
  exact ⟨⟨⟨⟨⟨⟨a, h2⟩, b⟩, c⟩, h3⟩, h4⟩, h5⟩
theorem decDigits_ne (u : Nat) : decDigits u ≠ [] := by
  rw [decDigits_unf]; split <;> simp
theorem decDigits_small {u : Nat} (h : u < 10000) : (decDigits u).length ≤ 4 := by
  rw [decDigits_unf]
  split
  · simp
  rw [decDigits_unf]
  split
  · simp
  rw [decDigits_unf]
  split
  · simp
  rw [decDigits_unf]
  split
  · simp
  omega
theorem behindL_suffix (l : List UInt8) : behindL l <:+ l := by
  unfold behindL
  split
  · rename_i h
    have h0 : extL l ≠ [] := List.length_pos_iff.1 (by omega)
    exact ⟨_, (ext_suffix h0).1.symm⟩
  · exact List.nil_suffix
theorem stemL_sub (l : List UInt8) : ∀ c ∈ stemL l, c ∈ l := fun _ hc => List.mem_of_mem_take hc
theorem copyOk_mem {l : List UInt8} {n : Int} {c : UInt8} (h : c ∈ copyOk l n) : c ∈ l ∨ c = 126 ∨ c ∈ decDigits n.toNat := by
  unfold copyOk tailL at h
  simp only [List.mem_append, List.mem_cons] at h
  rcases h with h | h | h | h
  · exact .inl (stemL_sub _ _ (List.mem_of_mem_take h))
  · exact .inr (.inl h)
  · exact .inr (.inr h)
  · exact .inl ((behindL_suffix l).subset h)
theorem digit_ok {u : Nat} {c : UInt8} (h : c ∈ decDigits u) : okByte c = true ∧ c ≠ 32 ∧ c ≠ 46 := by
  obtain ⟨h1, h2⟩ := decDigits_range u c h
  refine ⟨?_, fun e => ?_, fun e => ?_⟩
  · simp only [okByte, Bool.and_eq_true, decide_eq_true_eq]; omega
  · rw [e] at h1; simp at h1
  · rw [e] at h1; simp at h1
theorem copyOk_right {l : List UInt8} {n : Nat} (h : rightL l = true) (h1 : 1 ≤ n) (h2 : n ≤ 9999) : rightL (copyOk l n) = true := by
  obtain ⟨a1, a2, a3, a4, a5⟩ := rightL_parts h
  have hb := behindL_len l
  have hd := decDigits_small (u := n) (by omega)
  have ht : (tailL l n).length ≤ 13 := by unfold tailL; simp; omega
  refine rightL_mk ?_ ?_ ?_ ?_ ?_
  · unfold copyOk tailL; simp
  · unfold copyOk; rw [List.length_append, List.length_take]; omega
  · unfold copyOk
    by_cases hs : (stemL l).take (24 - (tailL l n).length) = []
    · rw [hs]; unfold tailL; simp
    · rw [List.head?_append]
      intro hc
      apply a3
      have hpre : (stemL l).take (24 - (tailL l n).length) <+: l := (List.take_prefix _ _).trans (List.take_prefix _ _)
      obtain ⟨r, hr⟩ := hpre
      obtain ⟨y, hy⟩ : ∃ y, ((stemL l).take (24 - (tailL l n).length)).head? = some y := ⟨_, List.head?_eq_some_head hs⟩
      rw [hy] at hc
      rw [← hr, List.head?_append, hy]
      exact hc
  · unfold copyOk tailL
    rw [List.getLast?_append]
    have e : ∀ D : List UInt8, (126 :: D).getLast? = D.getLast?.or (some 126) := fun D => by rw [List.getLast?_cons]; cases D.getLast? <;> rfl
    rw [e, List.getLast?_append]
    intro hc
    by_cases hbn : behindL l = []
    · rw [hbn] at hc
      have hdn := decDigits_ne n
      obtain ⟨x, hx⟩ : ∃ x, (decDigits ((n : Int).toNat)).getLast? = some x := by
        rw [Int.toNat_natCast]
        exact ⟨_, List.getLast?_eq_some_getLast hdn⟩
      rw [hx] at hc
      have : x = 32 := by simpa using hc
      exact (digit_ok (List.mem_of_getLast? hx)).2.1 this
    · obtain ⟨x, hx⟩ : ∃ x, (behindL l).getLast? = some x := ⟨_, List.getLast?_eq_some_getLast hbn⟩
      rw [hx] at hc
      have hx32 : x = 32 := by simpa using hc
      obtain ⟨t, htl⟩ := behindL_suffix l
      rw [← htl, List.getLast?_append, hx, hx32] at a4
      exact a4 rfl
  · intro c hc
    rcases copyOk_mem hc with h | h | h
    · exact a5 c h
    · rw [h]; decide
    · exact (digit_ok h).1
theorem bcopy_right {s : ByteArray} {n : Nat} (h : bright s = true) (h1 : 1 ≤ n) (h2 : n ≤ 9999) : bright (bcopy s n) = true := by
  unfold bright
  rw [bcopy_ok h h1 h2]
  exact copyOk_right h h1 h2

/-- An ending that is short stays. -/
theorem ext_nodot {l : List UInt8} (h : extL l ≠ []) : (46 : UInt8) ∉ extL l := by
  rcases extAt_spec l with ⟨e, _⟩ | ⟨i, hi, e, h1, h2⟩
  · exact absurd (by unfold extL; rw [e]; rfl) h
  · by_cases h0 : 0 < i
    · rw [extL_hit h0 hi h1 h2]
      intro hm
      obtain ⟨j, hj, e2⟩ := List.getElem_of_mem hm
      rw [List.getElem_drop] at e2
      rw [List.length_drop] at hj
      exact h2 (i + 1 + j) (by omega) (by omega) (by rw [e2]; rfl)
    · exact absurd (by unfold extL; rw [e, if_neg (by omega)]) h
theorem copyOk_ext {l : List UInt8} {n : Int} (h1 : 1 ≤ (extL l).length) (h7 : (extL l).length ≤ 7) : extL (copyOk l n) = extL l := by
  have h0 : extL l ≠ [] := List.length_pos_iff.1 (by omega)
  obtain ⟨_, hb⟩ := stem_with h0 h7
  have hnd := ext_nodot h0
  generalize hx : extL l = x at *
  have hc : copyOk l n = ((stemL l).take (24 - (tailL l n).length) ++ 126 :: decDigits n.toNat) ++ 46 :: x := by
    unfold copyOk
    conv => lhs; rhs; unfold tailL
    rw [hb]
    simp
  rw [hc]
  generalize hA : (stemL l).take (24 - (tailL l n).length) ++ 126 :: decDigits n.toNat = A
  have hA0 : 0 < A.length := by rw [← hA]; simp only [List.length_append, List.length_cons]; omega
  have e := extL_hit (l := A ++ 46 :: x) (i := A.length) hA0 (by simp) (by rw [List.getElem_append_right (Nat.le_refl _)]; simp) (fun j hj hij => by
    rw [List.getElem_append_right (by omega)]
    obtain ⟨k, hk⟩ : ∃ k, j - A.length = k + 1 := ⟨j - A.length - 1, by omega⟩
    simp only [hk, List.getElem_cons_succ]
    intro he
    apply hnd
    have hkl : k < x.length := by simp at hj; omega
    have : x[k] = 46 := by
      have ht : x[k].toNat = 46 := by omega
      rw [← UInt8.ofNat_toNat (x := x[k]), ht]; rfl
    rw [← this]
    exact List.getElem_mem hkl)
  rw [e, show A.length + 1 = A.length + 1 from rfl, ← List.drop_drop]
  rw [List.drop_left]
  rfl

/-- What is known of the names that are given. -/
theorem outU_facts (ss : List ByteArray) (hr : allRight ss = true) (hl : ss.length ≤ 1000) : ∀ k, k ≤ ss.length →
    (∀ y ∈ outU ss k, bright y = true ∧ (y ∈ ss.take k ∨ y ∉ ss)) ∧ (outU ss k).Nodup := by
  intro k
  induction k with
  | zero => intro _; exact ⟨by simp [outU], by simp [outU]⟩
  | succ k ih =>
    intro hk
    obtain ⟨h1, h2⟩ := ih (by omega)
    have hx := allRight_at hr (k := k) (by omega)
    have hT : (ss ++ outU ss k).length < 9999 := by simp [outU_length]; omega
    obtain ⟨n1, n2, n3, n4⟩ := nextN_spec hx hT
    have hlen : (ss ++ outU ss k).length = ss.length + k := by simp [outU_length]
    have hget : ss.getD k ByteArray.empty ∈ ss := by
      rw [List.getD_eq_getElem?_getD, List.getElem?_eq_getElem (by omega)]
      exact List.getElem_mem _
    have htake : ss.take (k + 1) = ss.take k ++ [ss.getD k ByteArray.empty] := by
      rw [List.take_add_one, List.getElem?_eq_getElem (by omega), List.getD_eq_getElem?_getD, List.getElem?_eq_getElem (by omega)]; rfl
    have key : bright (pickU ss (outU ss k) k) = true ∧ (pickU ss (outU ss k) k ∈ ss.take (k + 1) ∨ pickU ss (outU ss k) k ∉ ss) ∧ pickU ss (outU ss k) k ∉ outU ss k := by
      unfold pickU
      split
      · refine ⟨bcopy_right hx n1 (by omega), .inr fun h => n3 (List.mem_append_left _ h), fun h => n3 (List.mem_append_right _ h)⟩
      · rename_i hin
        refine ⟨hx, .inl (by rw [htake]; simp), fun h => ?_⟩
        rcases (h1 _ h).2 with h' | h'
        · exact hin (hasB_iff.2 h')
        · exact h' hget
    refine ⟨fun y hy => ?_, ?_⟩
    · unfold outU at hy
      rw [List.mem_append, List.mem_singleton] at hy
      rcases hy with hy | rfl
      · refine ⟨(h1 y hy).1, (h1 y hy).2.imp (fun h => by rw [htake]; exact List.mem_append_left _ h) id⟩
      · exact ⟨key.1, key.2.1⟩
    · unfold outU
      rw [List.nodup_append]
      refine ⟨h2, by simp, fun a ha b hb => ?_⟩
      rw [List.mem_singleton] at hb
      rw [hb]
      exact fun e => key.2.2 (e ▸ ha)
theorem outU_prefix (ss : List ByteArray) : ∀ k m, k ≤ m → (outU ss m).take k = outU ss k := by
  intro k m hkm
  induction m with
  | zero => obtain rfl : k = 0 := by omega
            rfl
  | succ m ih =>
    by_cases h : k = m + 1
    · subst h; rw [List.take_of_length_le (by rw [outU_length]; omega)]
    · rw [outU, List.take_append_of_le_length (by rw [outU_length]; omega)]
      exact ih (by omega)
theorem outU_getD (ss : List ByteArray) {k m : Nat} (h : k < m) : (outU ss m).getD k ByteArray.empty = pickU ss (outU ss k) k := by
  have h1 := outU_prefix ss (k + 1) m (by omega)
  have h2 : (outU ss m).getD k ByteArray.empty = ((outU ss m).take (k + 1)).getD k ByteArray.empty := by
    simp only [List.getD_eq_getElem?_getD]
    rw [List.getElem?_take_of_lt (by omega)]
  rw [h2, h1, outU, List.getD_eq_getElem?_getD, List.getElem?_append_right (by rw [outU_length]; omega), outU_length]
  simp
end Go.Proofs.YtgglheelhbfgiaaGreatDoor

namespace Go.Proofs.YtgglheelhbfgiaaGreatDoor
open Go Go.RowKit
theorem nameS_inj {i j : Nat} (h : nameS i = nameS j) : i = j := by
  refine decDigits_inj i j ?_
  have := congrArg (fun b : ByteArray => b.data.toList) h
  simpa [nameS, mkB] using this
theorem mkB_list (l : List UInt8) : (mkB l).data.toList = l := rfl
theorem mkB_of (s : ByteArray) : mkB s.data.toList = s := rfl
theorem mkB_size (l : List UInt8) : (mkB l).size = l.length := by simp [mkB, ByteArray.size]
def framesF : Nat → List (List UInt8) → List UInt8
  | _, [] => []
  | n, s :: r => frameL n s ++ framesF (n + 1) r
theorem framesF_append : ∀ (a b : List (List UInt8)) (n : Nat), framesF n (a ++ b) = framesF n a ++ framesF (n + a.length) b
  | [], b, n => by simp [framesF]
  | s :: r, b, n => by
    rw [List.cons_append, framesF, framesF, framesF_append r b (n + 1), List.append_assoc, List.length_cons, show n + 1 + r.length = n + (r.length + 1) by omega]
/-- What a file holds of records. -/
def fileL (R : List (List UInt8)) (k : Nat) : List UInt8 := framesF (8 * k) ((R.drop (8 * k)).take 8)
theorem file_none {R : List (List UInt8)} {k : Nat} (h : R.length ≤ 8 * k) : fileL R k = [] := by
  unfold fileL
  rw [List.drop_eq_nil_of_le h]
  rfl
theorem file_take_lt {R : List (List UInt8)} {i k : Nat} (h : 8 * k + 8 ≤ i) : fileL (R.take i) k = fileL R k := by
  unfold fileL
  rw [List.drop_take, List.take_take, Nat.min_eq_left (by omega)]
theorem file_take_ge {R : List (List UInt8)} {i k : Nat} (h : i ≤ 8 * k) : fileL (R.take i) k = [] := file_none (by rw [List.length_take]; omega)
/-- A file with one record more. -/
theorem file_snoc {R : List (List UInt8)} {i : Nat} {s : List UInt8} (h : R[i]? = some s) : fileL (R.take (i + 1)) (i / 8) = fileL (R.take i) (i / 8) ++ frameL i s := by
  have hi : i < R.length := by
    refine Classical.byContradiction fun hn => ?_
    rw [List.getElem?_eq_none (by omega)] at h
    cases h
  unfold fileL
  have e : ∀ j, j ≤ 8 * (i / 8) + 8 → ((R.take j).drop (8 * (i / 8))).take 8 = (R.drop (8 * (i / 8))).take (j - 8 * (i / 8)) := fun j hj => by
    rw [List.drop_take, List.take_take, Nat.min_eq_right (by omega)]
  rw [e (i + 1) (by omega), e i (by omega), show i + 1 - 8 * (i / 8) = (i - 8 * (i / 8)) + 1 by omega, List.take_add_one, List.getElem?_drop, show 8 * (i / 8) + (i - 8 * (i / 8)) = i by omega, h, Option.toList_some, framesF_append, List.length_take, List.length_drop, show 8 * (i / 8) + min (i - 8 * (i / 8)) (R.length - 8 * (i / 8)) = i by omega]
  simp [framesF]
theorem file_snoc_other {R : List (List UInt8)} {i k : Nat} (hk : k ≠ i / 8) : fileL (R.take (i + 1)) k = fileL (R.take i) k := by
  by_cases h : k < i / 8
  · rw [file_take_lt (by omega), file_take_lt (by omega)]
  · rw [file_take_ge (by omega), file_take_ge (by omega)]
/-- A file holds its first records, and then the others. -/
theorem file_pre {R : List (List UInt8)} {i : Nat} (k : Nat) : ∃ more, fileL R k = fileL (R.take i) k ++ more := by
  by_cases h1 : 8 * k + 8 ≤ i
  · exact ⟨[], by rw [file_take_lt h1, List.append_nil]⟩
  · refine ⟨framesF (8 * k + (((R.take i).drop (8 * k)).take 8).length) (((R.drop (8 * k)).take 8).drop ((((R.take i).drop (8 * k)).take 8).length)), ?_⟩
    unfold fileL
    rw [← framesF_append]
    congr 1
    have e : ((R.take i).drop (8 * k)).take 8 = (((R.drop (8 * k)).take 8)).take (i - 8 * k) := by
      rw [List.drop_take, List.take_take, List.take_take, Nat.min_comm]
    rw [e]
    conv => lhs; rw [← List.take_append_drop (i - 8 * k) ((R.drop (8 * k)).take 8)]
    rw [List.length_take]
    congr 1
    by_cases h2 : i - 8 * k ≤ ((R.drop (8 * k)).take 8).length
    · rw [Nat.min_eq_left h2]
    · rw [Nat.min_eq_right (by omega), List.drop_eq_nil_of_le (by omega), List.drop_eq_nil_of_le (Nat.le_refl _)]
theorem file_next {R : List (List UInt8)} {i : Nat} {s : List UInt8} (h : R[i]? = some s) : ∃ more, fileL R (i / 8) = fileL (R.take i) (i / 8) ++ (frameL i s ++ more) := by
  obtain ⟨more, e⟩ := file_pre (R := R) (i := i + 1) (i / 8)
  exact ⟨more, by rw [e, file_snoc h, List.append_assoc]⟩
/-- What may stand on a disk that has these records and no more. -/
structure DirtyF (now : Fls) (R : List (List UInt8)) : Prop where
  len : R.length ≤ 800
  right : ∀ s ∈ R, recOk s = true
  has : ∀ k, k < 100 → ∃ more, (hasD now (nameS k)).data.toList = fileL R k ++ more
  ends : R.length < 800 → firstL ((hasD now (nameS (R.length / 8))).data.toList.drop (fileL R (R.length / 8)).length) R.length = none
def EndsOf (R : List (List UInt8)) (E : Ends) : Prop := (E.map (·.1)).Nodup ∧ (∀ k, endOf E (nameS k) = (fileL R k).length) ∧ ∀ p, (∀ k, p ≠ nameS k) → endOf E p = 0
theorem ends_none (R : List (List UInt8)) : EndsOf (R.take 0) [] := ⟨List.nodup_nil, fun k => by rw [file_take_ge (Nat.zero_le _)]; rfl, fun _ _ => rfl⟩
theorem ends_snoc {R : List (List UInt8)} {i : Nat} {s : List UInt8} {E : Ends} (h : R[i]? = some s) (hE : EndsOf (R.take i) E) : EndsOf (R.take (i + 1)) (putK E (nameS (i / 8)) (endOf E (nameS (i / 8)) + (frameL i s).length)) := by
  obtain ⟨h1, h2, h3⟩ := hE
  refine ⟨keysK_put _ _ _ h1, fun k => ?_, fun p hp => ?_⟩
  · unfold endOf
    rw [findK_put h1]
    by_cases hk : k = i / 8
    · subst hk
      rw [if_pos rfl, file_snoc h, List.length_append]
      show endOf E (nameS (i / 8)) + ((frameL i s).length : Int) = _
      rw [h2]
      omega
    · rw [if_neg (fun e => hk (nameS_inj e)), file_snoc_other hk]
      exact h2 k
  · unfold endOf
    rw [findK_put h1, if_neg (hp _)]
    exact h3 p hp
theorem scan_from {now : Fls} {R : List (List UInt8)} (h : DirtyF now R) : ∀ (m i : Nat) (E : Ends), R.length - i = m → i ≤ R.length → EndsOf (R.take i) E →
    ∃ E', scanG now (800 - i) ((R.take i).map mkB) E = (R.map mkB, E') ∧ EndsOf R E' := by
  intro m
  induction m with
  | zero =>
    intro i E hm hi hE
    obtain rfl : i = R.length := by omega
    rw [List.take_length] at *
    refine ⟨E, ?_, hE⟩
    by_cases h8 : R.length = 800
    · rw [h8]
      rfl
    · have hl := h.len
      have hn := h.ends (by omega)
      obtain ⟨f, hf⟩ : ∃ f, 800 - R.length = f + 1 := ⟨800 - R.length - 1, by omega⟩
      rw [hf, scanG]
      simp only [List.length_map]
      rw [hE.2.1, Int.toNat_natCast, hn]
  | succ m ih =>
    intro i E hm hi hE
    have hl := h.len
    obtain ⟨s, hs⟩ : ∃ s, R[i]? = some s := ⟨_, List.getElem?_eq_getElem (by omega)⟩
    have hlen : ((R.take i).map mkB).length = i := by rw [List.length_map, List.length_take]; omega
    obtain ⟨f, hf⟩ : ∃ f, 800 - i = f + 1 := ⟨800 - i - 1, by omega⟩
    obtain ⟨more, hmo⟩ := h.has (i / 8) (by omega)
    obtain ⟨more2, hmo2⟩ := file_next hs
    have hfirst : firstL ((hasD now (nameS (i / 8))).data.toList.drop (endOf E (nameS (i / 8))).toNat) i = some (s, (frameL i s).length) := by
      rw [hE.2.1, Int.toNat_natCast, hmo, hmo2, List.append_assoc, List.drop_left', List.append_assoc]
      · exact first_frame (by omega) (h.right s (List.mem_of_getElem? hs)) _
      · rfl
    rw [hf, scanG, hlen, hfirst]
    dsimp only
    have e2 : (R.take i).map mkB ++ [mkB s] = (R.take (i + 1)).map mkB := by
      rw [List.take_add_one, hs, Option.toList_some, List.map_append]
      rfl
    rw [e2, show f = 800 - (i + 1) by omega]
    exact ih (i + 1) _ (by omega) (by omega) (ends_snoc hs hE)
/-- The records that are found. -/
theorem scan_dirty {now : Fls} {R : List (List UInt8)} (h : DirtyF now R) : ∃ E, scanG now 800 [] [] = (R.map mkB, E) ∧ EndsOf R E :=
  scan_from h _ 0 [] rfl (Nat.zero_le _) (ends_none R)
end Go.Proofs.YtgglheelhbfgiaaGreatDoor

