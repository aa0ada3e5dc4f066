/-
  A disk whose last acts may be lost, in plain Lean. A record's frame, and what bytes begin with: the plain law. Records in files of a disk, in plain Lean. What is found on a disk: the records of its frames, and no more: the plain law. The opening of a log cuts what is behind the records: the plain law. Whatever acts of an append stay, torn or not, there are all records of before, and a beginning of the others: the plain law. What stays so of a disk, in plain Lean: sizes, names. What an append writes: the plain law. Append, crash, open, crash, open: the plain law of SeglogLasts. Logs that live on: the plain law of the chapter's example, and of how many files there are. Eight records stand in each file: the plain law. One round of SeglogLasts: the plain law.
-/
import Derived.Test.YtgglheelhbfgiaaGreatDoorStrMap
import Derived.Test.YtgglheelhbfgiaaGreatDoorCodecPure
import Derived.Lib.ItoaNum
import Derived.Test.YtgglheelhbfgiaaGreatDoorNamesPure
namespace Go.Proofs.YtgglheelhbfgiaaGreatDoor
open Go Go.RowKit
/-- An act: a write, or a cut. -/
structure ActD where
  cut : Bool
  name : ByteArray
  n : Nat
  data : ByteArray
abbrev Fls := List (ByteArray × ByteArray)
def noB : ByteArray := ⟨#[]⟩
def hasD (es : Fls) (p : ByteArray) : ByteArray := (findK es p).getD noB
def halfB (d : ByteArray) : ByteArray := d.extract 0 (d.size / 2)
/-- Bytes behind a write. -/
def padL (s : List UInt8) (n : Nat) : List UInt8 := s ++ List.replicate (n - s.length) 0
def laidL (s : List UInt8) (n : Nat) (d : List UInt8) : List UInt8 := (padL s n).take n ++ d ++ (padL s n).drop (n + d.length)
def laidB (s : ByteArray) (n : Nat) (d : ByteArray) : ByteArray := ⟨(laidL s.data.toList n d.data.toList).toArray⟩
def shortB (s : ByteArray) (n : Nat) : ByteArray := s.extract 0 (min s.size n)
def doD (es : Fls) (a : ActD) (torn : Bool) : Fls :=
  if a.cut then (match findK es a.name with | none => es | some s => putK es a.name (shortB s a.n))
  else putK es a.name (laidB (hasD es a.name) a.n (if torn then halfB a.data else a.data))
structure Dk where
  limit : Nat
  now : Fls
  firm : Fls
  acts : List ActD
  armed : Int
  dead : Bool
def sizeF (es : Fls) : Nat := (es.map fun x => x.2.size).sum
def wrongD (d : Dk) (name : ByteArray) (n : Int) : Int :=
  if d.dead = true then 42 else if name.size = 0 ∨ 24 < name.size ∨ n < 0 ∨ (d.limit : Int) < n then 1 else 0
def diesD (d : Dk) : Dk := if 0 < d.armed then { d with armed := wrap64 (d.armed - 1), dead := wrap64 (d.armed - 1) == 0 } else d
def doesD (d : Dk) (a : ActD) : Dk × Int :=
  if (diesD { d with acts := d.acts ++ [a] }).dead = true then (diesD { d with acts := d.acts ++ [a] }, 42)
  else ({ diesD { d with acts := d.acts ++ [a] } with now := doD d.now a false }, 0)
def writeD (d : Dk) (name : ByteArray) (n : Int) (data : ByteArray) : Dk × Int :=
  if wrongD d name n ≠ 0 then (d, wrongD d name n)
  else if (d.limit : Int) - max ((hasD d.now name).size : Int) (n + data.size) < (sizeF d.now : Int) - (hasD d.now name).size then (d, 41)
  else doesD d ⟨false, name, n.toNat, data⟩
def cutD (d : Dk) (name : ByteArray) (n : Int) : Dk × Int :=
  if wrongD d name n ≠ 0 then (d, wrongD d name n)
  else if (findK d.now name).isNone then (d, 25)
  else doesD d ⟨true, name, n.toNat, noB⟩
def syncD (d : Dk) : Dk × Int :=
  if d.dead = true then (d, 42) else if (diesD d).dead = true then (diesD d, 42) else ({ diesD d with firm := d.now, acts := [] }, 0)
def readD (d : Dk) (name : ByteArray) : ByteArray × Int :=
  if wrongD d name 0 ≠ 0 then (noB, wrongD d name 0) else match findK d.now name with | none => (noB, 25) | some s => (s, 0)
def namesD (d : Dk) : List ByteArray := d.now.map (·.1)
def armD (d : Dk) (n : Int) : Dk := { d with armed := max n 0 }
/-- Which acts a crash keeps. -/
def bitD (keep : Int) (i : Nat) : Bool := keep / 2 ^ (i % 30) % 2 = 1
def keptD (keep : Int) : Nat → List ActD → List ActD
  | _, [] => []
  | i, a :: r => if bitD keep i then a :: keptD keep (i + 1) r else keptD keep (i + 1) r
def runD (torn : Bool) : Fls → List ActD → Fls
  | es, [] => es
  | es, [a] => doD es a torn
  | es, a :: b :: r => runD torn (doD es a false) (b :: r)
def crashD (d : Dk) (keep : Int) (torn : Bool) : Dk :=
  { d with firm := runD torn d.firm (keptD keep 0 d.acts), now := runD torn d.firm (keptD keep 0 d.acts), acts := [], armed := 0, dead := false }
def newD (limit : Nat) : Dk := ⟨limit, [], [], [], 0, false⟩
end Go.Proofs.YtgglheelhbfgiaaGreatDoor

namespace Go.Proofs.YtgglheelhbfgiaaGreatDoor
open Go Go.RowKit
def stepC (x : Nat) : Nat := x / 2 ^^^ x % 2 * 3988292384
def tabC (i : Nat) : Nat := stepC (stepC (stepC (stepC (stepC (stepC (stepC (stepC i)))))))
def nextC (x : Nat) (b : UInt8) : Nat := x / 256 ^^^ tabC (x % 256 ^^^ b.toNat)
/-- The sum of bytes. -/
def sumC (l : List UInt8) : Nat := 4294967295 - l.foldl nextC 4294967295
theorem sumC_nil : sumC [] = 0 := rfl
theorem sumC_le (l : List UInt8) : sumC l ≤ 4294967295 := Nat.sub_le _ _
def bodyL (n : Nat) (s : List UInt8) : List UInt8 := numL n ++ textL s
def frameL (n : Nat) (s : List UInt8) : List UInt8 := numL (sumC (bodyL n s)) ++ textL (bodyL n s)
def recOk (s : List UInt8) : Bool := decide (1 ≤ s.length) && decide (s.length ≤ 2000)
def firstL (data : List UInt8) (n : Nat) : Option (List UInt8 × Nat) :=
  if (Rd.text (Rd.num ⟨0, data⟩).2).2.err ≠ 0 ∨ (Rd.num ⟨0, data⟩).1 ≠ (sumC (Rd.text (Rd.num ⟨0, data⟩).2).1 : Int) then none
  else if (Rd.text (Rd.num ⟨0, (Rd.text (Rd.num ⟨0, data⟩).2).1⟩).2).2.fin ≠ 0 ∨ (Rd.num ⟨0, (Rd.text (Rd.num ⟨0, data⟩).2).1⟩).1 ≠ (n : Int) ∨ recOk (Rd.text (Rd.num ⟨0, (Rd.text (Rd.num ⟨0, data⟩).2).1⟩).2).1 = false then none
  else some ((Rd.text (Rd.num ⟨0, (Rd.text (Rd.num ⟨0, data⟩).2).1⟩).2).1, (numL (Rd.num ⟨0, data⟩).1).length + (textL (Rd.text (Rd.num ⟨0, data⟩).2).1).length)
theorem num_nat {n : Nat} (hn : n ≤ 9223372036854775807) (more : List UInt8) : Rd.num ⟨0, numL n ++ more⟩ = ((n : Int), ⟨0, more⟩) := by
  unfold Rd.num numL
  rw [raw_natL (u64_bound _)]
  simp only [Prod.mk.injEq, and_true]
  exact wrap_u64 (by omega) (by omega)
theorem text_of (s more : List UInt8) (hs : s.length < 18446744073709551616) : Rd.text ⟨0, textL s ++ more⟩ = (s, ⟨0, more⟩) := by
  unfold Rd.text textL
  rw [List.append_assoc, raw_natL hs]
  simp
theorem first_frame {n : Nat} {s : List UInt8} (hn : n ≤ 9223372036854775807) (hs : recOk s = true) (more : List UInt8) : firstL (frameL n s ++ more) n = some (s, (frameL n s).length) := by
  have hr : 1 ≤ s.length ∧ s.length ≤ 2000 := by simpa [recOk] using hs
  have hb : (bodyL n s).length < 18446744073709551616 := by
    unfold bodyL textL numL natL
    simp only [List.length_append, List.length_cons, beF_len]
    have := wid_le (u64 n)
    have := wid_le s.length
    omega
  have e1 : Rd.num ⟨0, frameL n s ++ more⟩ = ((sumC (bodyL n s) : Int), ⟨0, textL (bodyL n s) ++ more⟩) := by
    unfold frameL
    rw [List.append_assoc, num_nat (by have := sumC_le (bodyL n s); omega)]
  have e2 : Rd.text ⟨0, textL (bodyL n s) ++ more⟩ = (bodyL n s, ⟨0, more⟩) := text_of _ _ hb
  have e3 : Rd.num ⟨0, bodyL n s⟩ = ((n : Int), ⟨0, textL s⟩) := num_nat hn _
  have e4 : Rd.text ⟨0, textL s⟩ = (s, ⟨0, []⟩) := by
    have := text_of s [] (by omega)
    rwa [List.append_nil] at this
  unfold firstL
  rw [e1, e2]
  dsimp only
  rw [e3]
  dsimp only
  rw [e4, if_neg (by simp), if_neg (by simp [Rd.fin, hs])]
  simp [frameL]
theorem num_back {l : List UInt8} {r : Rd} {k : Int} (h : Rd.num ⟨0, l⟩ = (k, r)) (he : r.err = 0) : l = numL k ++ r.rest := by
  obtain ⟨err, rest⟩ := r
  obtain rfl : err = 0 := he
  unfold Rd.num at h
  have h1 : (Rd.raw ⟨0, l⟩).2 = ⟨0, rest⟩ := congrArg Prod.snd h
  have h2 : IntKind.i64.wrap ((Rd.raw ⟨0, l⟩).1 : Int) = k := congrArg Prod.fst h
  have h3 := raw_back (l := l) (u := (Rd.raw ⟨0, l⟩).1) (rest := rest) (by rw [← h1])
  unfold numL
  rw [← h2, u64_wrap _ (raw_bound _)]
  exact h3
theorem rd_ok {r : Rd} (h : r.err = 0) : r = ⟨0, r.rest⟩ := by
  obtain ⟨e, t⟩ := r
  obtain rfl : e = 0 := h
  rfl
theorem text_back {l : List UInt8} {r : Rd} {s : List UInt8} (h : Rd.text ⟨0, l⟩ = (s, r)) (he : r.err = 0) : l = textL s ++ r.rest := by
  unfold Rd.text at h
  split at h
  · rename_i h1
    cases h
    exact absurd he h1
  · rename_i h1
    split at h
    · cases h
      cases he
    · rename_i h2
      have h3 : (Rd.raw ⟨0, l⟩).2 = ⟨0, (Rd.raw ⟨0, l⟩).2.rest⟩ := rd_ok (Decidable.not_not.1 h1)
      have h4 := raw_back (l := l) (u := (Rd.raw ⟨0, l⟩).1) (rest := (Rd.raw ⟨0, l⟩).2.rest) (by rw [← h3])
      obtain ⟨rfl, rfl⟩ := Prod.mk.inj h
      unfold textL
      rw [List.length_take, Nat.min_eq_left (by omega), List.append_assoc, List.take_append_drop]
      exact h4
theorem num_err {r : Rd} (h : r.err ≠ 0) : r.num.2 = r := by
  unfold Rd.num
  rw [raw_err h]
theorem text_err {r : Rd} (h : r.err ≠ 0) : r.text.2 = r := by
  unfold Rd.text
  rw [raw_err h, if_pos h]
/-- What is read is a frame. -/
theorem first_inv {data : List UInt8} {n : Nat} {s : List UInt8} {k : Nat} (h : firstL data n = some (s, k)) : k = (frameL n s).length ∧ recOk s = true ∧ data = frameL n s ++ data.drop k := by
  unfold firstL at h
  obtain ⟨⟨c, r1⟩, e1⟩ : ∃ x, Rd.num ⟨0, data⟩ = x := ⟨_, rfl⟩
  rw [e1] at h
  dsimp only at h
  obtain ⟨⟨b, r2⟩, e2⟩ : ∃ x, Rd.text r1 = x := ⟨_, rfl⟩
  rw [e2] at h
  dsimp only at h
  obtain ⟨⟨m, r3⟩, e3⟩ : ∃ x, Rd.num ⟨0, b⟩ = x := ⟨_, rfl⟩
  rw [e3] at h
  dsimp only at h
  obtain ⟨⟨t, r4⟩, e4⟩ : ∃ x, Rd.text r3 = x := ⟨_, rfl⟩
  rw [e4] at h
  dsimp only at h
  split at h
  · cases h
  rename_i h1
  split at h
  · cases h
  rename_i h2
  simp only [not_or, Decidable.not_not, Bool.not_eq_false] at h1 h2
  obtain ⟨h1a, h1b⟩ := h1
  obtain ⟨h2a, h2b, h2c⟩ := h2
  obtain ⟨rfl, rfl⟩ := Prod.mk.inj (Option.some.inj h)
  have q1 : r1.err = 0 := Classical.byContradiction fun hq => by
    have := text_err hq
    rw [e2] at this
    dsimp only at this
    rw [this] at h1a
    exact hq h1a
  have q4 : r4.err = 0 ∧ r4.rest = [] := by
    unfold Rd.fin at h2a
    split at h2a
    · rename_i hq
      exact absurd h2a hq
    · rename_i hq
      split at h2a
      · cases h2a
      · rename_i hq2
        exact ⟨Decidable.not_not.1 hq, Decidable.not_not.1 hq2⟩
  have q3 : r3.err = 0 := Classical.byContradiction fun hq => by
    have := text_err hq
    rw [e4] at this
    dsimp only at this
    rw [this] at q4
    exact hq q4.1
  have d1 := num_back e1 q1
  have hr1 : Rd.text ⟨0, r1.rest⟩ = (b, r2) := by
    rw [← e2]
    congr 1
    obtain ⟨er, rs⟩ := r1
    obtain rfl : er = 0 := q1
    rfl
  have d2 := text_back hr1 h1a
  have d3 := num_back e3 q3
  have hr3 : Rd.text ⟨0, r3.rest⟩ = (t, r4) := by
    rw [← e4]
    congr 1
    obtain ⟨er, rs⟩ := r3
    obtain rfl : er = 0 := q3
    rfl
  have d4 := text_back hr3 q4.1
  rw [q4.2, List.append_nil] at d4
  have hb : b = bodyL n t := by
    unfold bodyL
    rw [← h2b, ← d4]
    exact d3
  have hf : numL c ++ textL b = frameL n t := by
    unfold frameL
    rw [h1b, hb]
  refine ⟨by rw [← hf, List.length_append], h2c, ?_⟩
  have hd : data = frameL n t ++ r2.rest := by
    rw [← hf, List.append_assoc, ← d2]
    exact d1
  have hl : (numL c).length + (textL b).length = (frameL n t).length := by rw [← hf, List.length_append]
  rw [hl]
  conv => lhs; rw [hd]
  rw [hd, List.drop_left']
  rfl
theorem frame_len (n : Nat) (s : List UInt8) : 4 ≤ (frameL n s).length := by
  unfold frameL bodyL textL numL natL
  simp only [List.length_append, List.length_cons]
  omega
/-- A frame's beginning alone is none. -/
theorem first_torn {n m : Nat} {s p q : List UInt8} (hn : n ≤ 9223372036854775807) (hs : recOk s = true) (h : frameL n s = p ++ q) (hq : q ≠ []) : firstL p m = none := by
  refine Option.eq_none_iff_forall_ne_some.2 fun x hx => ?_
  obtain ⟨t, k⟩ := x
  obtain ⟨rfl, ht, hp⟩ := first_inv hx
  have h1 : frameL n s = frameL m t ++ (p.drop (frameL m t).length ++ q) := by rw [← List.append_assoc, ← hp, h]
  have h2 := first_frame hn hs []
  rw [List.append_nil] at h2
  have hbl : ∀ (j : Nat) (u : List UInt8), recOk u = true → (bodyL j u).length < 18446744073709551616 := fun j u hu => by
    have hr : 1 ≤ u.length ∧ u.length ≤ 2000 := by simpa [recOk] using hu
    unfold bodyL textL numL natL
    simp only [List.length_append, List.length_cons, beF_len]
    have := wid_le (u64 j)
    have := wid_le u.length
    omega
  have h3 : ∀ (j : Nat) (u more : List UInt8), recOk u = true → (Rd.text (Rd.num ⟨0, frameL j u ++ more⟩).2).2 = ⟨0, more⟩ := fun j u more hu => by
    unfold frameL
    rw [List.append_assoc, num_nat (by have := sumC_le (bodyL j u); omega)]
    dsimp only
    rw [text_of _ _ (hbl j u hu)]
  have h4 := h3 n s [] hs
  rw [List.append_nil, h1, h3 m t _ ht] at h4
  have h5 : p.drop (frameL m t).length ++ q = [] := congrArg Rd.rest h4
  exact hq (List.append_eq_nil_iff.1 h5).2
theorem first_nil (m : Nat) : firstL [] m = none := by
  unfold firstL
  have e1 : Rd.num ⟨0, []⟩ = (0, ⟨10, []⟩) := by
    unfold Rd.num
    rw [raw_none]
    rfl
  rw [e1]
  have : Rd.text ⟨10, []⟩ = ([], ⟨10, []⟩) := by
    unfold Rd.text
    rw [raw_err (by decide)]
    rfl
  rw [this, if_pos (.inl (by decide))]
/-- A hole is none. -/
theorem first_hole (m : Nat) (more : List UInt8) : firstL (0 :: 0 :: more) m = none := by
  have e0 : ∀ t, Rd.raw ⟨0, 0 :: t⟩ = (0, ⟨0, t⟩) := fun t => by
    rw [raw_ok (by decide) (by show ¬ t.length < 0; omega) (fun e => e.1 rfl)]
    simp [valL]
  have e1 : Rd.num ⟨0, 0 :: 0 :: more⟩ = (0, ⟨0, 0 :: more⟩) := by
    unfold Rd.num
    rw [e0]
    rfl
  have e2 : Rd.text ⟨0, 0 :: more⟩ = ([], ⟨0, more⟩) := by
    unfold Rd.text
    rw [e0]
    simp
  have e3 : Rd.num ⟨0, []⟩ = (0, ⟨10, []⟩) := by
    unfold Rd.num
    rw [raw_none]
    rfl
  have e4 : Rd.text ⟨10, []⟩ = ([], ⟨10, []⟩) := by
    unfold Rd.text
    rw [raw_err (by decide)]
    rfl
  unfold firstL
  rw [e1]
  dsimp only
  rw [e2]
  dsimp only
  rw [e3]
  dsimp only
  rw [e4, if_neg (by simp [sumC_nil]), if_pos (.inl (by decide))]
end Go.Proofs.YtgglheelhbfgiaaGreatDoor

namespace Go.Proofs.YtgglheelhbfgiaaGreatDoor
open Go Go.RowKit
abbrev Ends := List (ByteArray × Int)
def mkB (l : List UInt8) : ByteArray := ⟨l.toArray⟩
def nameS (k : Nat) : ByteArray := mkB ([115, 101, 103, 45] ++ Lib.decDigits k)
def endOf (ends : Ends) (p : ByteArray) : Int := (findK ends p).getD 0
/-- The records that are there, and how many bytes of each file they have. -/
def scanG (now : Fls) : Nat → List ByteArray → Ends → List ByteArray × Ends
  | 0, out, ends => (out, ends)
  | f + 1, out, ends =>
    match firstL ((hasD now (nameS (out.length / 8))).data.toList.drop (endOf ends (nameS (out.length / 8))).toNat) out.length with
    | none => (out, ends)
    | some (s, n) => scanG now f (out ++ [mkB s]) (putK ends (nameS (out.length / 8)) (endOf ends (nameS (out.length / 8)) + n))
def cutsD (ends : Ends) : List ByteArray → Dk → Dk × Int
  | [], d => (d, 0)
  | p :: r, d => if endOf ends p < (hasD d.now p).size then (if (cutD d p (endOf ends p)).2 ≠ 0 then cutD d p (endOf ends p) else cutsD ends r (cutD d p (endOf ends p)).1) else cutsD ends r d
structure Lg where
  many : Nat
  fin : Int
  dead : Bool
structure OpenR where
  log : Option Lg
  out : List ByteArray
  err : Int
  d : Dk
def openD (d : Dk) : OpenR :=
  if d.dead = true then ⟨none, [], 42, d⟩
  else if (cutsD (scanG d.now 800 [] []).2 (namesD d) d).2 ≠ 0 then ⟨none, [], (cutsD (scanG d.now 800 [] []).2 (namesD d) d).2, (cutsD (scanG d.now 800 [] []).2 (namesD d) d).1⟩
  else if (syncD (cutsD (scanG d.now 800 [] []).2 (namesD d) d).1).2 ≠ 0 then ⟨none, [], (syncD (cutsD (scanG d.now 800 [] []).2 (namesD d) d).1).2, (syncD (cutsD (scanG d.now 800 [] []).2 (namesD d) d).1).1⟩
  else ⟨some ⟨(scanG d.now 800 [] []).1.length, endOf (scanG d.now 800 [] []).2 (nameS ((scanG d.now 800 [] []).1.length / 8)), false⟩, (scanG d.now 800 [] []).1, 0, (syncD (cutsD (scanG d.now 800 [] []).2 (namesD d) d).1).1⟩
def frameB (n : Nat) (s : ByteArray) : ByteArray := mkB (frameL n s.data.toList)
/-- Writes records behind the others: the disk, where it ends, what went wrong. -/
def layG (many : Nat) : Nat → Int → List ByteArray → Dk → Dk × Int × Int
  | _, at_, [], d => (d, at_, 0)
  | i, at_, s :: r, d =>
    if (writeD d (nameS ((many + i) / 8)) (if (many + i) % 8 = 0 then 0 else at_) (frameB (many + i) s)).2 ≠ 0 then ((writeD d (nameS ((many + i) / 8)) (if (many + i) % 8 = 0 then 0 else at_) (frameB (many + i) s)).1, 0, (writeD d (nameS ((many + i) / 8)) (if (many + i) % 8 = 0 then 0 else at_) (frameB (many + i) s)).2)
    else layG many (i + 1) ((if (many + i) % 8 = 0 then 0 else at_) + (frameB (many + i) s).size) r (writeD d (nameS ((many + i) / 8)) (if (many + i) % 8 = 0 then 0 else at_) (frameB (many + i) s)).1
def layD (l : Lg) (rs : List ByteArray) (d : Dk) : Dk × Int × Int :=
  if (layG l.many 0 l.fin rs d).2.2 ≠ 0 then layG l.many 0 l.fin rs d
  else ((syncD (layG l.many 0 l.fin rs d).1).1, (layG l.many 0 l.fin rs d).2.1, (syncD (layG l.many 0 l.fin rs d).1).2)
def rightR (s : ByteArray) : Bool := decide (1 ≤ s.size) && decide (s.size ≤ 2000)
def appendD (l : Lg) (rs : List ByteArray) (d : Dk) : Lg × Dk × Int :=
  if l.dead = true then (l, d, 42)
  else if rs.all rightR = false then (l, d, 1)
  else if 800 < l.many + rs.length then (l, d, 40)
  else if rs.length = 0 then (l, d, 0)
  else if (layD l rs d).2.2 ≠ 0 then ({ l with dead := true }, (layD l rs d).1, (layD l rs d).2.2)
  else ({ l with many := l.many + rs.length, fin := (layD l rs d).2.1 }, (layD l rs d).1, 0)
end Go.Proofs.YtgglheelhbfgiaaGreatDoor

namespace Go.Proofs.YtgglheelhbfgiaaGreatDoor
open Go Go.RowKit
theorem nameS_inj {i j : Nat} (h : nameS i = nameS j) : i = j := by
  refine decDigits_inj i j ?_
  have := congrArg (fun b : ByteArray => b.data.toList) h
  simpa [nameS, mkB] using this
theorem mkB_list (l : List UInt8) : (mkB l).data.toList = l := rfl
theorem mkB_of (s : ByteArray) : mkB s.data.toList = s := rfl
theorem mkB_size (l : List UInt8) : (mkB l).size = l.length := by simp [mkB, ByteArray.size]
def framesF : Nat → List (List UInt8) → List UInt8
  | _, [] => []
  | n, s :: r => frameL n s ++ framesF (n + 1) r
theorem framesF_append : ∀ (a b : List (List UInt8)) (n : Nat), framesF n (a ++ b) = framesF n a ++ framesF (n + a.length) b
  | [], b, n => by simp [framesF]
  | s :: r, b, n => by
    rw [List.cons_append, framesF, framesF, framesF_append r b (n + 1), List.append_assoc, List.length_cons, show n + 1 + r.length = n + (r.length + 1) by omega]
/-- What a file holds of records. -/
def fileL (R : List (List UInt8)) (k : Nat) : List UInt8 := framesF (8 * k) ((R.drop (8 * k)).take 8)
theorem file_none {R : List (List UInt8)} {k : Nat} (h : R.length ≤ 8 * k) : fileL R k = [] := by
  unfold fileL
  rw [List.drop_eq_nil_of_le h]
  rfl
theorem file_take_lt {R : List (List UInt8)} {i k : Nat} (h : 8 * k + 8 ≤ i) : fileL (R.take i) k = fileL R k := by
  unfold fileL
  rw [List.drop_take, List.take_take, Nat.min_eq_left (by omega)]
theorem file_take_ge {R : List (List UInt8)} {i k : Nat} (h : i ≤ 8 * k) : fileL (R.take i) k = [] := file_none (by rw [List.length_take]; omega)
/-- A file with one record more. -/
theorem file_snoc {R : List (List UInt8)} {i : Nat} {s : List UInt8} (h : R[i]? = some s) : fileL (R.take (i + 1)) (i / 8) = fileL (R.take i) (i / 8) ++ frameL i s := by
  have hi : i < R.length := by
    refine Classical.byContradiction fun hn => ?_
    rw [List.getElem?_eq_none (by omega)] at h
    cases h
  unfold fileL
  have e : ∀ j, j ≤ 8 * (i / 8) + 8 → ((R.take j).drop (8 * (i / 8))).take 8 = (R.drop (8 * (i / 8))).take (j - 8 * (i / 8)) := fun j hj => by
    rw [List.drop_take, List.take_take, Nat.min_eq_right (by omega)]
  rw [e (i + 1) (by omega), e i (by omega), show i + 1 - 8 * (i / 8) = (i - 8 * (i / 8)) + 1 by omega, List.take_add_one, List.getElem?_drop, show 8 * (i / 8) + (i - 8 * (i / 8)) = i by omega, h, Option.toList_some, framesF_append, List.length_take, List.length_drop, show 8 * (i / 8) + min (i - 8 * (i / 8)) (R.length - 8 * (i / 8)) = i by omega]
  simp [framesF]
theorem file_snoc_other {R : List (List UInt8)} {i k : Nat} (hk : k ≠ i / 8) : fileL (R.take (i + 1)) k = fileL (R.take i) k := by
  by_cases h : k < i / 8
  · rw [file_take_lt (by omega), file_take_lt (by omega)]
  · rw [file_take_ge (by omega), file_take_ge (by omega)]
/-- A file holds its first records, and then the others. -/
theorem file_pre {R : List (List UInt8)} {i : Nat} (k : Nat) : ∃ more, fileL R k = fileL (R.take i) k ++ more := by
  by_cases h1 : 8 * k + 8 ≤ i
  · exact ⟨[], by rw [file_take_lt h1, List.append_nil]⟩
  · refine ⟨framesF (8 * k + (((R.take i).drop (8 * k)).take 8).length) (((R.drop (8 * k)).take 8).drop ((((R.take i).drop (8 * k)).take 8).length)), ?_⟩
    unfold fileL
    rw [← framesF_append]
    congr 1
    have e : ((R.take i).drop (8 * k)).take 8 = (((R.drop (8 * k)).take 8)).take (i - 8 * k) := by
      rw [List.drop_take, List.take_take, List.take_take, Nat.min_comm]
    rw [e]
    conv => lhs; rw [← List.take_append_drop (i - 8 * k) ((R.drop (8 * k)).take 8)]
    rw [List.length_take]
    congr 1
    by_cases h2 : i - 8 * k ≤ ((R.drop (8 * k)).take 8).length
    · rw [Nat.min_eq_left h2]
    · rw [Nat.min_eq_right (by omega), List.drop_eq_nil_of_le (by omega), List.drop_eq_nil_of_le (Nat.le_refl _)]
theorem file_next {R : List (List UInt8)} {i : Nat} {s : List UInt8} (h : R[i]? = some s) : ∃ more, fileL R (i / 8) = fileL (R.take i) (i / 8) ++ (frameL i s ++ more) := by
  obtain ⟨more, e⟩ := file_pre (R := R) (i := i + 1) (i / 8)
  exact ⟨more, by rw [e, file_snoc h, List.append_assoc]⟩
/-- What may stand on a disk that has these records and no more. -/
structure DirtyF (now : Fls) (R : List (List UInt8)) : Prop where
  len : R.length ≤ 800
  right : ∀ s ∈ R, recOk s = true
  has : ∀ k, k < 100 → ∃ more, (hasD now (nameS k)).data.toList = fileL R k ++ more
  ends : R.length < 800 → firstL ((hasD now (nameS (R.length / 8))).data.toList.drop (fileL R (R.length / 8)).length) R.length = none
def EndsOf (R : List (List UInt8)) (E : Ends) : Prop := (E.map (·.1)).Nodup ∧ (∀ k, endOf E (nameS k) = (fileL R k).length) ∧ ∀ p, (∀ k, p ≠ nameS k) → endOf E p = 0
theorem ends_none (R : List (List UInt8)) : EndsOf (R.take 0) [] := ⟨List.nodup_nil, fun k => by rw [file_take_ge (Nat.zero_le _)]; rfl, fun _ _ => rfl⟩
theorem ends_snoc {R : List (List UInt8)} {i : Nat} {s : List UInt8} {E : Ends} (h : R[i]? = some s) (hE : EndsOf (R.take i) E) : EndsOf (R.take (i + 1)) (putK E (nameS (i / 8)) (endOf E (nameS (i / 8)) + (frameL i s).length)) := by
  obtain ⟨h1, h2, h3⟩ := hE
  refine ⟨keysK_put _ _ _ h1, fun k => ?_, fun p hp => ?_⟩
  · unfold endOf
    rw [findK_put h1]
    by_cases hk : k = i / 8
    · subst hk
      rw [if_pos rfl, file_snoc h, List.length_append]
      show endOf E (nameS (i / 8)) + ((frameL i s).length : Int) = _
      rw [h2]
      omega
    · rw [if_neg (fun e => hk (nameS_inj e)), file_snoc_other hk]
      exact h2 k
  · unfold endOf
    rw [findK_put h1, if_neg (hp _)]
    exact h3 p hp
theorem scan_from {now : Fls} {R : List (List UInt8)} (h : DirtyF now R) : ∀ (m i : Nat) (E : Ends), R.length - i = m → i ≤ R.length → EndsOf (R.take i) E →
    ∃ E', scanG now (800 - i) ((R.take i).map mkB) E = (R.map mkB, E') ∧ EndsOf R E' := by
  intro m
  induction m with
  | zero =>
    intro i E hm hi hE
    obtain rfl : i = R.length := by omega
    rw [List.take_length] at *
    refine ⟨E, ?_, hE⟩
    by_cases h8 : R.length = 800
    · rw [h8]
      rfl
    · have hl := h.len
      have hn := h.ends (by omega)
      obtain ⟨f, hf⟩ : ∃ f, 800 - R.length = f + 1 := ⟨800 - R.length - 1, by omega⟩
      rw [hf, scanG]
      simp only [List.length_map]
      rw [hE.2.1, Int.toNat_natCast, hn]
  | succ m ih =>
    intro i E hm hi hE
    have hl := h.len
    obtain ⟨s, hs⟩ : ∃ s, R[i]? = some s := ⟨_, List.getElem?_eq_getElem (by omega)⟩
    have hlen : ((R.take i).map mkB).length = i := by rw [List.length_map, List.length_take]; omega
    obtain ⟨f, hf⟩ : ∃ f, 800 - i = f + 1 := ⟨800 - i - 1, by omega⟩
    obtain ⟨more, hmo⟩ := h.has (i / 8) (by omega)
    obtain ⟨more2, hmo2⟩ := file_next hs
    have hfirst : firstL ((hasD now (nameS (i / 8))).data.toList.drop (endOf E (nameS (i / 8))).toNat) i = some (s, (frameL i s).length) := by
      rw [hE.2.1, Int.toNat_natCast, hmo, hmo2, List.append_assoc, List.drop_left', List.append_assoc]
      · exact first_frame (by omega) (h.right s (List.mem_of_getElem? hs)) _
      · rfl
    rw [hf, scanG, hlen, hfirst]
    dsimp only
    have e2 : (R.take i).map mkB ++ [mkB s] = (R.take (i + 1)).map mkB := by
      rw [List.take_add_one, hs, Option.toList_some, List.map_append]
      rfl
    rw [e2, show f = 800 - (i + 1) by omega]
    exact ih (i + 1) _ (by omega) (by omega) (ends_snoc hs hE)
/-- The records that are found. -/
theorem scan_dirty {now : Fls} {R : List (List UInt8)} (h : DirtyF now R) : ∃ E, scanG now 800 [] [] = (R.map mkB, E) ∧ EndsOf R E :=
  scan_from h _ 0 [] rfl (Nat.zero_le _) (ends_none R)
end Go.Proofs.YtgglheelhbfgiaaGreatDoor

namespace Go.Proofs.YtgglheelhbfgiaaGreatDoor
open Go Go.RowKit
theorem hasD_put {now : Fls} (hn : (now.map (·.1)).Nodup) (p s q : ByteArray) : hasD (putK now p s) q = if q = p then s else hasD now q := by
  unfold hasD
  rw [findK_put hn]
  split <;> rfl
structure NamesOK (now : Fls) : Prop where
  nodup : (now.map (·.1)).Nodup
  names : ∀ p, (findK now p).isSome = true → ∃ k, k < 100 ∧ p = nameS k
  small : ∀ p, (hasD now p).size ≤ 16300
theorem NamesOK.put {now : Fls} (h : NamesOK now) {k : Nat} (hk : k < 100) {s : ByteArray} (hs : s.size ≤ 16300) : NamesOK (putK now (nameS k) s) := by
  refine ⟨keysK_put _ _ _ h.nodup, fun p hp => ?_, fun p => ?_⟩
  · rw [findK_put h.nodup] at hp
    split at hp
    · exact ⟨k, hk, ‹_›⟩
    · exact h.names p hp
  · rw [hasD_put h.nodup]
    split
    · exact hs
    · exact h.small p
theorem hasD_none {now : Fls} {p : ByteArray} (h : findK now p = none) : hasD now p = noB := by
  unfold hasD
  rw [h]
  rfl
theorem hasD_some {now : Fls} {p s : ByteArray} (h : findK now p = some s) : hasD now p = s := by
  unfold hasD
  rw [h]
  rfl
theorem size_list (s : ByteArray) : s.size = s.data.toList.length := rfl
theorem short_list (s : ByteArray) (n : Nat) : (shortB s n).data.toList = s.data.toList.take n := by
  unfold shortB
  rw [ByteArray.data_extract, Array.toList_extract, List.extract_eq_take_drop, List.drop_zero, Nat.sub_zero, size_list]
  by_cases h : s.data.toList.length ≤ n
  · rw [Nat.min_eq_left h, List.take_of_length_le (Nat.le_refl _), List.take_of_length_le h]
  · rw [Nat.min_eq_right (by omega)]
theorem short_size (s : ByteArray) (n : Nat) : (shortB s n).size ≤ s.size := by
  unfold shortB
  rw [ByteArray.size_extract]
  omega
/-- All is there, and nothing else. -/
structure CleanF (now : Fls) (R : List (List UInt8)) : Prop where
  len : R.length ≤ 800
  right : ∀ s ∈ R, recOk s = true
  has : ∀ k, k < 100 → (hasD now (nameS k)).data.toList = fileL R k
theorem CleanF.dirty {now : Fls} {R : List (List UInt8)} (h : CleanF now R) : DirtyF now R := by
  refine ⟨h.len, h.right, fun k hk => ⟨[], by rw [h.has k hk, List.append_nil]⟩, fun hl => ?_⟩
  rw [h.has _ (by omega), List.drop_eq_nil_of_le (Nat.le_refl _)]
  exact first_nil _
def KeepsA (E : Ends) (a : ActD) : Prop := a.cut = true ∧ (a.n : Int) = endOf E a.name
theorem cut_dirty {now : Fls} {R : List (List UInt8)} {E : Ends} {a : ActD} (torn : Bool) (hN : NamesOK now) (hd : DirtyF now R) (hE : EndsOf R E) (ha : KeepsA E a) :
    DirtyF (doD now a torn) R ∧ NamesOK (doD now a torn) ∧ (∀ p, (findK (doD now a torn) p).isSome = (findK now p).isSome) ∧ (∀ p, p ≠ a.name → hasD (doD now a torn) p = hasD now p) ∧ (hasD (doD now a torn) a.name).size ≤ a.n := by
  obtain ⟨cut, name, n, data⟩ := a
  obtain ⟨rfl, hn⟩ := ha
  dsimp only at hn
  unfold doD
  rw [if_pos rfl]
  dsimp only
  cases hf : findK now name with
  | none =>
    refine ⟨hd, hN, fun _ => rfl, fun _ _ => rfl, ?_⟩
    dsimp only
    rw [hasD_none hf]
    exact Nat.zero_le _
  | some s =>
    dsimp only
    obtain ⟨k, hk, rfl⟩ := hN.names name (by rw [hf]; rfl)
    have hs := hasD_some hf
    have hss := hN.small (nameS k)
    rw [hs] at hss
    have hnk : n = (fileL R k).length := by
      have := hE.2.1 k
      omega
    have hsz := short_size s n
    refine ⟨⟨hd.len, hd.right, fun j hj => ?_, fun hl => ?_⟩, hN.put hk (by omega), fun p => ?_, fun p hp => ?_, ?_⟩
    · rw [hasD_put hN.nodup]
      split
      · rename_i e
        obtain rfl := nameS_inj e
        obtain ⟨more, hm⟩ := hd.has j hj
        rw [hs] at hm
        refine ⟨[], ?_⟩
        rw [short_list, hm, List.append_nil, hnk, List.take_left']
        rfl
      · exact hd.has j hj
    · rw [hasD_put hN.nodup]
      split
      · rename_i e
        have e2 := nameS_inj e
        rw [short_list, hnk, e2, List.drop_eq_nil_of_le (by rw [List.length_take]; omega)]
        exact first_nil _
      · exact hd.ends hl
    · rw [findK_put hN.nodup]
      split
      · rename_i e
        rw [e, hf]
        rfl
      · rfl
    · rw [hasD_put hN.nodup, if_neg hp]
    · rw [hasD_put hN.nodup, if_pos rfl, size_list, short_list, List.length_take]
      omega
theorem name_size {k : Nat} (hk : k < 10000) : 5 ≤ (nameS k).size ∧ (nameS k).size ≤ 24 := by
  have h1 := decDigits_small hk
  have h2 : (Lib.decDigits k).length ≠ 0 := fun e => decDigits_ne k (List.length_eq_zero_iff.1 e)
  have h3 : (nameS k).size = 4 + (Lib.decDigits k).length := by
    unfold nameS
    rw [mkB_size, List.length_append]
    rfl
  omega
theorem wrong_none {d : Dk} (hd : d.dead = false) {k : Nat} (hk : k < 10000) {n : Int} (h0 : 0 ≤ n) (h1 : n ≤ d.limit) : wrongD d (nameS k) n = 0 := by
  have := name_size hk
  unfold wrongD
  rw [hd, if_neg (by simp), if_neg (by omega)]
/-- What an act leaves: the disk has died, or it was done. -/
theorem does_cases (d : Dk) (a : ActD) (hd : d.dead = false) :
    ((doesD d a).2 = 42 ∧ (doesD d a).1.dead = true ∧ (doesD d a).1.firm = d.firm ∧ (doesD d a).1.limit = d.limit ∧ (doesD d a).1.acts = d.acts ++ [a] ∧ 0 < d.armed) ∨
    ((doesD d a).2 = 0 ∧ (doesD d a).1.dead = false ∧ (doesD d a).1.firm = d.firm ∧ (doesD d a).1.limit = d.limit ∧ (doesD d a).1.acts = d.acts ++ [a] ∧ (doesD d a).1.now = doD d.now a false ∧ (d.armed ≤ 0 → (doesD d a).1.armed = d.armed)) := by
  unfold doesD
  by_cases h : (diesD { d with acts := d.acts ++ [a] }).dead = true
  · rw [if_pos h]
    refine .inl ⟨rfl, h, ?_, ?_, ?_, ?_⟩
    · unfold diesD; split <;> rfl
    · unfold diesD; split <;> rfl
    · unfold diesD; split <;> rfl
    · unfold diesD at h
      split at h
      · assumption
      · dsimp only at h
        rw [hd] at h
        cases h
  · rw [if_neg h]
    refine .inr ⟨rfl, by simpa using h, ?_, ?_, ?_, rfl, fun h0 => ?_⟩
    · unfold diesD; split <;> rfl
    · unfold diesD; split <;> rfl
    · unfold diesD; split <;> rfl
    · unfold diesD
      rw [if_neg (by dsimp only; omega)]
theorem sync_cases (d : Dk) (hd : d.dead = false) :
    ((syncD d).2 = 42 ∧ (syncD d).1.dead = true ∧ (syncD d).1.firm = d.firm ∧ (syncD d).1.limit = d.limit ∧ (syncD d).1.acts = d.acts ∧ 0 < d.armed) ∨
    ((syncD d).2 = 0 ∧ (syncD d).1.dead = false ∧ (syncD d).1.firm = d.now ∧ (syncD d).1.now = d.now ∧ (syncD d).1.limit = d.limit ∧ (syncD d).1.acts = [] ∧ (d.armed ≤ 0 → (syncD d).1.armed = d.armed)) := by
  unfold syncD
  rw [if_neg (by rw [hd]; simp)]
  by_cases h : (diesD d).dead = true
  · rw [if_pos h]
    refine .inl ⟨rfl, h, ?_, ?_, ?_, ?_⟩
    · unfold diesD; split <;> rfl
    · unfold diesD; split <;> rfl
    · unfold diesD; split <;> rfl
    · unfold diesD at h
      split at h
      · assumption
      · rw [hd] at h
        cases h
  · rw [if_neg h]
    refine .inr ⟨rfl, by simpa using h, rfl, ?_, ?_, rfl, fun h0 => ?_⟩
    · unfold diesD; split <;> rfl
    · unfold diesD; split <;> rfl
    · unfold diesD
      rw [if_neg (by omega)]
/-- The cuts of an opening. -/
theorem cuts_cases {R : List (List UInt8)} {E : Ends} (hE : EndsOf R E) : ∀ (ps : List ByteArray) (d : Dk), d.dead = false → 16300 ≤ d.limit → NamesOK d.now → DirtyF d.now R → (∀ p ∈ ps, (findK d.now p).isSome = true) →
    ∃ cuts : List ActD, (∀ a ∈ cuts, KeepsA E a) ∧
      (((cutsD E ps d).2 = 42 ∧ (cutsD E ps d).1.dead = true ∧ (cutsD E ps d).1.firm = d.firm ∧ (cutsD E ps d).1.limit = d.limit ∧ (cutsD E ps d).1.acts = d.acts ++ cuts ∧ 0 < d.armed) ∨
       ((cutsD E ps d).2 = 0 ∧ (cutsD E ps d).1.dead = false ∧ (cutsD E ps d).1.firm = d.firm ∧ (cutsD E ps d).1.limit = d.limit ∧ (cutsD E ps d).1.acts = d.acts ++ cuts ∧ (d.armed ≤ 0 → (cutsD E ps d).1.armed = d.armed) ∧
         NamesOK (cutsD E ps d).1.now ∧ DirtyF (cutsD E ps d).1.now R ∧ (∀ p, (findK (cutsD E ps d).1.now p).isSome = (findK d.now p).isSome) ∧
         (∀ p, (hasD (cutsD E ps d).1.now p).size ≤ (hasD d.now p).size) ∧ ∀ p ∈ ps, ((hasD (cutsD E ps d).1.now p).size : Int) ≤ endOf E p))
  | [], d, hd, _, hN, hD, _ => ⟨[], by simp, .inr ⟨rfl, hd, rfl, rfl, by rw [List.append_nil]; rfl, fun _ => rfl, hN, hD, fun _ => rfl, fun _ => Nat.le_refl _, by simp⟩⟩
  | p :: r, d, hd, hl, hN, hD, hp => by
    rw [cutsD]
    by_cases hlt : endOf E p < ((hasD d.now p).size : Int)
    · rw [if_pos hlt]
      have hpk := hp p (by simp)
      obtain ⟨k, hk, hpe⟩ := hN.names p hpk
      have hend : endOf E p = ((fileL R k).length : Int) := by rw [hpe]; exact hE.2.1 k
      have hsm := hN.small p
      have hcut : cutD d p (endOf E p) = doesD d ⟨true, p, (endOf E p).toNat, noB⟩ := by
        unfold cutD
        rw [hpe, wrong_none hd (by omega) (by rw [← hpe]; omega) (by rw [← hpe]; omega), if_neg (by simp), ← hpe, if_neg (by cases h : findK d.now p with | none => rw [h] at hpk; cases hpk | some s => simp)]
      have ha : KeepsA E ⟨true, p, (endOf E p).toNat, noB⟩ := ⟨rfl, by dsimp only; omega⟩
      rw [hcut]
      rcases does_cases d ⟨true, p, (endOf E p).toNat, noB⟩ hd with ⟨e1, e2, e3, e4, e5, e6⟩ | ⟨e1, e2, e3, e4, e5, e6, e7⟩
      · rw [if_pos (by rw [e1]; decide)]
        exact ⟨[⟨true, p, (endOf E p).toNat, noB⟩], by simpa using ha, .inl ⟨e1, e2, e3, e4, e5, e6⟩⟩
      · rw [if_neg (by rw [e1]; decide)]
        obtain ⟨c1, c2, c3, c4, c5⟩ := cut_dirty false hN hD hE ha
        rw [← e6] at c1 c2 c3 c4 c5
        obtain ⟨cuts, q1, q2⟩ := cuts_cases hE r (doesD d ⟨true, p, (endOf E p).toNat, noB⟩).1 e2 (by rw [e4]; exact hl) c2 c1 (fun q hq => by rw [c3]; exact hp q (by simp [hq]))
        have hle : ∀ q, (hasD (doesD d ⟨true, p, (endOf E p).toNat, noB⟩).1.now q).size ≤ (hasD d.now q).size := fun q => by
          by_cases hq : q = p
          · subst hq
            dsimp only at c5
            omega
          · rw [c4 q hq]
            exact Nat.le_refl _
        refine ⟨⟨true, p, (endOf E p).toNat, noB⟩ :: cuts, ?_, ?_⟩
        · intro a haa
          rcases List.mem_cons.1 haa with rfl | haa
          · exact ha
          · exact q1 a haa
        · rcases q2 with ⟨f1, f2, f3, f4, f5, f6⟩ | ⟨f1, f2, f3, f4, f5, f6, f7, f8, f9, f10, f11⟩
          · refine .inl ⟨f1, f2, f3.trans e3, f4.trans e4, by rw [f5, e5, List.append_assoc]; rfl, ?_⟩
            refine Classical.byContradiction fun h0 => ?_
            rw [e7 (by omega)] at f6
            exact h0 f6
          · refine .inr ⟨f1, f2, f3.trans e3, f4.trans e4, by rw [f5, e5, List.append_assoc]; rfl, fun h => (by rw [f6 (by rw [e7 h]; exact h), e7 h]), f7, f8, fun q => (f9 q).trans (c3 q), fun q => Nat.le_trans (f10 q) (hle q), fun q hq => ?_⟩
            rcases List.mem_cons.1 hq with rfl | hq
            · have := f10 q
              dsimp only at c5
              omega
            · exact f11 q hq
    · rw [if_neg hlt]
      obtain ⟨cuts, q1, q2⟩ := cuts_cases hE r d hd hl hN hD (fun q hq => hp q (by simp [hq]))
      refine ⟨cuts, q1, ?_⟩
      rcases q2 with q2 | ⟨f1, f2, f3, f4, f5, f6, f7, f8, f9, f10, f11⟩
      · exact .inl q2
      · refine .inr ⟨f1, f2, f3, f4, f5, f6, f7, f8, f9, f10, fun q hq => ?_⟩
        rcases List.mem_cons.1 hq with rfl | hq
        · have := f10 q
          omega
        · exact f11 q hq
theorem clean_of {now : Fls} {R : List (List UInt8)} {E : Ends} (hD : DirtyF now R) (hE : EndsOf R E) (h : ∀ p, (findK now p).isSome = true → ((hasD now p).size : Int) ≤ endOf E p) : CleanF now R := by
  refine ⟨hD.len, hD.right, fun k hk => ?_⟩
  obtain ⟨more, hm⟩ := hD.has k hk
  rw [hm]
  have : more = [] := by
    cases hf : findK now (nameS k) with
    | none =>
      rw [hasD_none hf] at hm
      exact (List.append_eq_nil_iff.1 hm.symm).2
    | some s =>
      have h1 := h (nameS k) (by rw [hf]; rfl)
      rw [hE.2.1, size_list, hm, List.length_append] at h1
      exact List.length_eq_zero_iff.1 (by omega)
  rw [this, List.append_nil]
theorem isSome_of_mem {now : Fls} {p : ByteArray} (h : p ∈ namesD ⟨0, now, [], [], 0, false⟩) : (findK now p).isSome = true := mem_keysK.1 h
/-- What an opening does where such records are. -/
theorem open_dirty {d : Dk} {R : List (List UInt8)} (hd : d.dead = false) (hl : 16300 ≤ d.limit) (hN : NamesOK d.now) (hD : DirtyF d.now R) :
    ∃ (E : Ends) (cuts : List ActD), EndsOf R E ∧ (∀ a ∈ cuts, KeepsA E a) ∧
      (((openD d).log = none ∧ (openD d).out = [] ∧ (openD d).err = 42 ∧ (openD d).d.dead = true ∧ (openD d).d.firm = d.firm ∧ (openD d).d.limit = d.limit ∧ (openD d).d.acts = d.acts ++ cuts ∧ 0 < d.armed) ∨
       ((openD d).log = some ⟨R.length, (fileL R (R.length / 8)).length, false⟩ ∧ (openD d).out = R.map mkB ∧ (openD d).err = 0 ∧ (openD d).d.dead = false ∧ (openD d).d.firm = (openD d).d.now ∧ (openD d).d.limit = d.limit ∧ (openD d).d.acts = [] ∧ (d.armed ≤ 0 → (openD d).d.armed = d.armed) ∧
         NamesOK (openD d).d.now ∧ CleanF (openD d).d.now R ∧ ∀ p, (findK (openD d).d.now p).isSome = (findK d.now p).isSome)) := by
  obtain ⟨E, hs, hE⟩ := scan_dirty hD
  obtain ⟨cuts, q1, q2⟩ := cuts_cases hE (namesD d) d hd hl hN hD (fun p hp => mem_keysK.1 hp)
  refine ⟨E, cuts, hE, q1, ?_⟩
  unfold openD
  rw [if_neg (by rw [hd]; simp), hs]
  dsimp only
  rcases q2 with ⟨f1, f2, f3, f4, f5, f6⟩ | ⟨f1, f2, f3, f4, f5, f6, f7, f8, f9, f10, f11⟩
  · rw [if_pos (by rw [f1]; decide)]
    exact .inl ⟨rfl, rfl, f1, f2, f3, f4, f5, f6⟩
  · rw [if_neg (by rw [f1]; decide)]
    rcases sync_cases (cutsD E (namesD d) d).1 f2 with ⟨e1, e2, e3, e4, e5, e6⟩ | ⟨e1, e2, e3, e4, e5, e6, e7⟩
    · rw [if_pos (by rw [e1]; decide)]
      refine .inl ⟨rfl, rfl, e1, e2, e3.trans f3, e4.trans f4, e5.trans f5, ?_⟩
      refine Classical.byContradiction fun h0 => ?_
      rw [f6 (by omega)] at e6
      exact h0 e6
    · rw [if_neg (by rw [e1]; decide)]
      refine .inr ⟨by rw [List.length_map, hE.2.1], rfl, rfl, e2, e3.trans e4.symm, e5.trans f4, e6, fun h => (by rw [e7 (by rw [f6 h]; exact h), f6 h]), by rw [e4]; exact f7, ?_, fun p => by rw [e4]; exact f9 p⟩
      dsimp only
      rw [e4]
      exact clean_of f8 hE fun p hp => f11 p (mem_keysK.2 (by rw [← f9 p]; exact hp))
end Go.Proofs.YtgglheelhbfgiaaGreatDoor

namespace Go.Proofs.YtgglheelhbfgiaaGreatDoor
open Go Go.RowKit
theorem frame_le {n : Nat} {s : List UInt8} (h : recOk s = true) : (frameL n s).length ≤ 2036 := by
  have hr : 1 ≤ s.length ∧ s.length ≤ 2000 := by simpa [recOk] using h
  unfold frameL bodyL textL numL natL
  simp only [List.length_append, List.length_cons, beF_len]
  have h1 := wid_le (u64 n)
  have h2 := wid_le s.length
  generalize sumC _ = c
  generalize wid (u64 n) = a at *
  generalize wid s.length = b at *
  have h3 := wid_le (u64 c)
  have h4 := wid_le (a + 1 + (b + 1 + s.length))
  omega
theorem frames_le : ∀ (l : List (List UInt8)) (n : Nat), (∀ s ∈ l, recOk s = true) → (framesF n l).length ≤ 2036 * l.length
  | [], _, _ => by simp [framesF]
  | s :: r, n, h => by
    have h1 := frame_le (n := n) (h s (by simp))
    have h2 := frames_le r (n + 1) (fun x hx => h x (by simp [hx]))
    rw [framesF, List.length_append, List.length_cons]
    omega
theorem file_le {R : List (List UInt8)} (h : ∀ s ∈ R, recOk s = true) (k : Nat) : (fileL R k).length ≤ 16288 := by
  have h1 := frames_le ((R.drop (8 * k)).take 8) (8 * k) (fun s hs => h s (List.mem_of_mem_drop (List.mem_of_mem_take hs)))
  have h2 : ((R.drop (8 * k)).take 8).length ≤ 8 := by rw [List.length_take]; omega
  unfold fileL
  omega
/-- The writes of an append. -/
def wrA (Q : List (List UInt8)) : List (List UInt8) → List ActD
  | [] => []
  | s :: r => ⟨false, nameS (Q.length / 8), (fileL Q (Q.length / 8)).length, mkB (frameL Q.length s)⟩ :: wrA (Q ++ [s]) r
theorem laid_list (s : ByteArray) (n : Nat) (d : ByteArray) : (laidB s n d).data.toList = laidL s.data.toList n d.data.toList := rfl
theorem laid_end (s d : List UInt8) : laidL s s.length d = s ++ d := by
  unfold laidL padL
  rw [Nat.sub_self, List.replicate_zero, List.append_nil, List.take_length, List.drop_eq_nil_of_le (by omega), List.append_nil]
theorem laid_len (s d : List UInt8) (n : Nat) : (laidL s n d).length = max s.length (n + d.length) := by
  unfold laidL padL
  simp only [List.length_append, List.length_take, List.length_drop, List.length_replicate]
  omega
theorem half_list (d : ByteArray) : (halfB d).data.toList = d.data.toList.take (d.data.toList.length / 2) := by
  unfold halfB
  rw [ByteArray.data_extract, Array.toList_extract, List.extract_eq_take_drop, List.drop_zero, Nat.sub_zero, size_list]
theorem snoc_file {Q : List (List UInt8)} (s : List UInt8) (k : Nat) : fileL (Q ++ [s]) k = if k = Q.length / 8 then fileL Q k ++ frameL Q.length s else fileL Q k := by
  have h1 : (Q ++ [s])[Q.length]? = some s := by simp
  have h2 : (Q ++ [s]).take (Q.length + 1) = Q ++ [s] := List.take_of_length_le (by simp)
  have h3 : (Q ++ [s]).take Q.length = Q := by simp
  by_cases hk : k = Q.length / 8
  · rw [if_pos hk, hk]
    have := file_snoc h1
    rwa [h2, h3] at this
  · rw [if_neg hk]
    have := file_snoc_other (R := Q ++ [s]) hk
    rwa [h2, h3] at this
/-- One more is written. -/
theorem write_clean {now : Fls} {Q : List (List UInt8)} {s : List UInt8} (hN : NamesOK now) (hC : CleanF now Q) (hs : recOk s = true) (hl : Q.length < 800) :
    CleanF (doD now ⟨false, nameS (Q.length / 8), (fileL Q (Q.length / 8)).length, mkB (frameL Q.length s)⟩ false) (Q ++ [s]) ∧ NamesOK (doD now ⟨false, nameS (Q.length / 8), (fileL Q (Q.length / 8)).length, mkB (frameL Q.length s)⟩ false) := by
  have hc := hC.has (Q.length / 8) (by omega)
  have hlist : (laidB (hasD now (nameS (Q.length / 8))) (fileL Q (Q.length / 8)).length (mkB (frameL Q.length s))).data.toList = fileL Q (Q.length / 8) ++ frameL Q.length s := by
    rw [laid_list, hc, laid_end, mkB_list]
  have hr : ∀ x ∈ Q ++ [s], recOk x = true := fun x hx => by
    rcases List.mem_append.1 hx with hx | hx
    · exact hC.right x hx
    · rw [List.mem_singleton.1 hx]
      exact hs
  unfold doD
  dsimp only
  rw [if_neg (by decide), if_neg (by decide)]
  refine ⟨⟨by rw [List.length_append, List.length_singleton]; omega, hr, fun k hk => ?_⟩, hN.put (by omega) ?_⟩
  · rw [hasD_put hN.nodup, snoc_file]
    by_cases hkk : k = Q.length / 8
    · rw [if_pos (by rw [hkk]), if_pos hkk, hkk]
      exact hlist
    · rw [if_neg (fun e => hkk (nameS_inj e)), if_neg hkk]
      exact hC.has k hk
  · rw [size_list, hlist]
    have := file_le hr (Q.length / 8)
    rw [snoc_file, if_pos rfl] at this
    omega
/-- One more is torn. -/
theorem write_torn {now : Fls} {Q : List (List UInt8)} {s : List UInt8} (hN : NamesOK now) (hC : CleanF now Q) (hs : recOk s = true) (hl : Q.length < 800) :
    DirtyF (doD now ⟨false, nameS (Q.length / 8), (fileL Q (Q.length / 8)).length, mkB (frameL Q.length s)⟩ true) Q ∧ NamesOK (doD now ⟨false, nameS (Q.length / 8), (fileL Q (Q.length / 8)).length, mkB (frameL Q.length s)⟩ true) := by
  have hc := hC.has (Q.length / 8) (by omega)
  have hlist : (laidB (hasD now (nameS (Q.length / 8))) (fileL Q (Q.length / 8)).length (halfB (mkB (frameL Q.length s)))).data.toList = fileL Q (Q.length / 8) ++ (frameL Q.length s).take ((frameL Q.length s).length / 2) := by
    rw [laid_list, hc, laid_end, half_list, mkB_list]
  have h4 := frame_len Q.length s
  have h5 := frame_le (n := Q.length) hs
  unfold doD
  dsimp only
  rw [if_neg (by decide), if_pos rfl]
  refine ⟨⟨hC.len, hC.right, fun k hk => ?_, fun _ => ?_⟩, hN.put (by omega) ?_⟩
  · rw [hasD_put hN.nodup]
    split
    · rename_i e
      rw [nameS_inj e, hlist]
      exact ⟨_, rfl⟩
    · exact ⟨[], by rw [hC.has k hk, List.append_nil]⟩
  · rw [hasD_put hN.nodup, if_pos rfl, hlist, List.drop_left' rfl]
    refine first_torn (n := Q.length) (s := s) (q := (frameL Q.length s).drop ((frameL Q.length s).length / 2)) (by omega) hs (by rw [List.take_append_drop]) fun e => ?_
    have := congrArg List.length e
    rw [List.length_drop, List.length_nil] at this
    omega
  · have hr : ∀ x ∈ Q ++ [s], recOk x = true := fun x hx => by
      rcases List.mem_append.1 hx with hx | hx
      · exact hC.right x hx
      · rw [List.mem_singleton.1 hx]
        exact hs
    rw [size_list, hlist, List.length_append, List.length_take]
    have := file_le hr (Q.length / 8)
    rw [snoc_file, if_pos rfl, List.length_append] at this
    omega
/-- Behind the records there is nothing, or a hole. -/
structure HoleF (now : Fls) (Q : List (List UInt8)) : Prop where
  len : Q.length ≤ 800
  right : ∀ s ∈ Q, recOk s = true
  has : ∀ k, k < 100 → ∃ more, (hasD now (nameS k)).data.toList = fileL Q k ++ more ∧ (k = Q.length / 8 → more = [] ∨ ∃ m, more = 0 :: 0 :: m)
theorem HoleF.dirty {now : Fls} {Q : List (List UInt8)} (h : HoleF now Q) : DirtyF now Q := by
  refine ⟨h.len, h.right, fun k hk => (h.has k hk).imp fun _ h => h.1, fun hl => ?_⟩
  obtain ⟨more, e1, e2⟩ := h.has (Q.length / 8) (by omega)
  rw [e1, List.drop_left' rfl]
  rcases e2 rfl with rfl | ⟨m, rfl⟩
  · exact first_nil _
  · exact first_hole _ _
theorem CleanF.hole {now : Fls} {Q : List (List UInt8)} (h : CleanF now Q) : HoleF now Q :=
  ⟨h.len, h.right, fun k hk => ⟨[], by rw [h.has k hk, List.append_nil], fun _ => .inl rfl⟩⟩
structure FarA (Q : List (List UInt8)) (a : ActD) : Prop where
  cut : a.cut = false
  at_ : ∃ k, k < 100 ∧ a.name = nameS k ∧ a.n + a.data.size ≤ 16300 ∧ (Q.length / 8 < k ∨ (k = Q.length / 8 ∧ (fileL Q k).length + 2 ≤ a.n))
theorem laid_hole {F t : List UInt8} {o : Nat} (d : List UInt8) (ht : t = [] ∨ ∃ m, t = 0 :: 0 :: m) (ho : F.length + 2 ≤ o) : ∃ m, laidL (F ++ t) o d = F ++ 0 :: 0 :: m := by
  have h1 : ∃ m, padL (F ++ t) o = F ++ 0 :: 0 :: m := by
    unfold padL
    rcases ht with rfl | ⟨m, rfl⟩
    · rw [List.append_nil]
      obtain ⟨j, hj⟩ : ∃ j, o - F.length = j + 1 + 1 := ⟨o - F.length - 2, by omega⟩
      exact ⟨List.replicate j 0, by rw [hj, List.replicate_succ, List.replicate_succ]⟩
    · exact ⟨m ++ List.replicate (o - (F ++ 0 :: 0 :: m).length) 0, by simp⟩
  obtain ⟨m, hm⟩ := h1
  obtain ⟨j, rfl⟩ : ∃ j, o = F.length + (j + 1 + 1) := ⟨o - F.length - 2, by omega⟩
  refine ⟨m.take j ++ (d ++ (padL (F ++ t) (F.length + (j + 1 + 1))).drop (F.length + (j + 1 + 1) + d.length)), ?_⟩
  unfold laidL
  rw [hm, List.take_length_add_append, List.take_succ_cons, List.take_succ_cons]
  simp
theorem far_hole {now : Fls} {Q : List (List UInt8)} {a : ActD} (torn : Bool) (hN : NamesOK now) (h : HoleF now Q) (ha : FarA Q a) : HoleF (doD now a torn) Q ∧ NamesOK (doD now a torn) := by
  obtain ⟨cut, name, n, data⟩ := a
  obtain ⟨rfl, k, hk, rfl, hsz, hat⟩ := ha
  dsimp only at *
  have hds : (if torn = true then halfB data else data).size ≤ data.size := by
    split
    · rw [size_list, half_list, List.length_take, size_list]
      omega
    · exact Nat.le_refl _
  unfold doD
  dsimp only
  rw [if_neg (by decide)]
  generalize (if torn = true then halfB data else data) = d at *
  refine ⟨⟨h.len, h.right, fun j hj => ?_⟩, hN.put hk ?_⟩
  · rw [hasD_put hN.nodup]
    by_cases e : nameS j = nameS k
    · rw [if_pos e]
      obtain rfl := nameS_inj e
      obtain ⟨more, e1, e2⟩ := h.has j hj
      rcases hat with hlt | ⟨he, hle⟩
      · exact ⟨_, by rw [file_none (by omega)]; rfl, fun e => by omega⟩
      · rw [laid_list, e1]
        obtain ⟨m, hm⟩ := laid_hole d.data.toList (e2 he) hle
        exact ⟨_, hm, fun _ => .inr ⟨m, rfl⟩⟩
    · rw [if_neg e]
      exact h.has j hj
  · have := hN.small (nameS k)
    rw [size_list] at this
    rw [size_list, laid_list, laid_len, ← size_list d]
    omega
theorem far_run {Q : List (List UInt8)} (torn : Bool) : ∀ (acts : List ActD) (now : Fls), NamesOK now → HoleF now Q → (∀ a ∈ acts, FarA Q a) → HoleF (runD torn now acts) Q ∧ NamesOK (runD torn now acts)
  | [], now, hN, h, _ => ⟨h, hN⟩
  | [a], now, hN, h, ha => far_hole torn hN h (ha a (by simp))
  | a :: b :: r, now, hN, h, ha => by
    obtain ⟨h1, h2⟩ := far_hole false hN h (ha a (by simp))
    exact far_run torn (b :: r) _ h2 h1 (fun x hx => ha x (List.mem_cons_of_mem _ hx))
theorem kept_mem {keep : Int} : ∀ (l : List ActD) (i : Nat), ∀ a ∈ keptD keep i l, a ∈ l
  | [], _, a, h => by cases h
  | b :: r, i, a, h => by
    rw [keptD] at h
    split at h
    · rcases List.mem_cons.1 h with rfl | h
      · simp
      · exact List.mem_cons_of_mem _ (kept_mem r (i + 1) a h)
    · exact List.mem_cons_of_mem _ (kept_mem r (i + 1) a h)
theorem far_wr {Q : List (List UInt8)} : ∀ (r u : List (List UInt8)), u ≠ [] → (Q ++ u).length + r.length ≤ 800 → (∀ s ∈ Q ++ u ++ r, recOk s = true) → ∀ a ∈ wrA (Q ++ u) r, FarA Q a
  | [], _, _, _, _, a, h => by cases h
  | s :: r, u, hu, hl, hr, a, h => by
    rw [wrA] at h
    rw [List.length_cons] at hl
    rcases List.mem_cons.1 h with rfl | h
    · refine ⟨rfl, (Q ++ u).length / 8, by omega, rfl, ?_, ?_⟩
      · dsimp only
        rw [mkB_size]
        have hr2 : ∀ x ∈ (Q ++ u) ++ [s], recOk x = true := fun x hx => hr x (List.mem_append.2 ((List.mem_append.1 hx).imp id (fun h => by rw [List.mem_singleton.1 h]; simp)))
        have := file_le hr2 ((Q ++ u).length / 8)
        rw [snoc_file, if_pos rfl, List.length_append] at this
        omega
      · by_cases hlt : Q.length / 8 < (Q ++ u).length / 8
        · exact .inl hlt
        · have hge : Q.length / 8 ≤ (Q ++ u).length / 8 := Nat.div_le_div_right (by rw [List.length_append]; omega)
          have he : (Q ++ u).length / 8 = Q.length / 8 := by omega
          refine .inr ⟨he, ?_⟩
          dsimp only
          rw [he]
          obtain ⟨x, u', rfl⟩ : ∃ x u', u = x :: u' := by
            cases u with
            | nil => exact absurd rfl hu
            | cons x u' => exact ⟨x, u', rfl⟩
          obtain ⟨more, hm⟩ := file_next (R := Q ++ x :: u') (i := Q.length) (s := x) (by simp)
          rw [show (Q ++ x :: u').take Q.length = Q by simp] at hm
          rw [hm, List.length_append, List.length_append]
          have := frame_len Q.length x
          omega
    · rw [List.append_assoc] at h
      refine far_wr r (u ++ [s]) (by simp) (by simp only [List.length_append, List.length_singleton] at hl ⊢; omega) (fun x hx => hr x ?_) a h
      rw [show Q ++ u ++ s :: r = Q ++ (u ++ [s]) ++ r by simp]
      exact hx
/-- What a crash leaves of an append. -/
theorem crash_writes (keep : Int) (torn : Bool) : ∀ (r : List (List UInt8)) (Q : List (List UInt8)) (i : Nat) (now : Fls), NamesOK now → CleanF now Q → Q.length + r.length ≤ 800 → (∀ s ∈ r, recOk s = true) →
    ∃ j, j ≤ r.length ∧ DirtyF (runD torn now (keptD keep i (wrA Q r))) (Q ++ r.take j) ∧ NamesOK (runD torn now (keptD keep i (wrA Q r)))
  | [], Q, i, now, hN, hC, _, _ => ⟨0, Nat.le_refl _, by simpa [wrA, keptD, runD] using hC.dirty, by simpa [wrA, keptD, runD] using hN⟩
  | s :: r, Q, i, now, hN, hC, hl, hr => by
    rw [List.length_cons] at hl
    have hs := hr s (by simp)
    have hr' : ∀ x ∈ r, recOk x = true := fun x hx => hr x (by simp [hx])
    rw [wrA, keptD]
    split
    · cases hk : keptD keep (i + 1) (wrA (Q ++ [s]) r) with
      | nil =>
        cases torn with
        | true =>
          obtain ⟨h1, h2⟩ := write_torn hN hC hs (by omega)
          exact ⟨0, Nat.zero_le _, by simpa [runD] using h1, by simpa [runD] using h2⟩
        | false =>
          obtain ⟨h1, h2⟩ := write_clean hN hC hs (by omega)
          exact ⟨1, by simp, by simpa [runD] using h1.dirty, by simpa [runD] using h2⟩
      | cons b t =>
        obtain ⟨h1, h2⟩ := write_clean hN hC hs (by omega)
        obtain ⟨j, hj, e1, e2⟩ := crash_writes keep torn r (Q ++ [s]) (i + 1) _ h2 h1 (by simp; omega) hr'
        rw [hk] at e1 e2
        refine ⟨j + 1, by simp; omega, ?_, ?_⟩
        · rw [List.take_succ_cons]
          rw [List.append_assoc] at e1
          exact e1
        · exact e2
    · have hfar := far_wr (Q := Q) r [s] (by simp) (by simp; omega) (fun x hx => by
        simp only [List.mem_append, List.mem_singleton] at hx
        rcases hx with (hx | rfl) | hx
        · exact hC.right x hx
        · exact hs
        · exact hr' x hx)
      obtain ⟨h1, h2⟩ := far_run torn (keptD keep (i + 1) (wrA (Q ++ [s]) r)) now hN hC.hole (fun a ha => hfar a (kept_mem _ _ a ha))
      exact ⟨0, Nat.zero_le _, by simpa using h1.dirty, h2⟩
/-- What a crash leaves of an opening. -/
theorem crash_cuts {R : List (List UInt8)} {E : Ends} (hE : EndsOf R E) (torn : Bool) : ∀ (acts : List ActD) (now : Fls), NamesOK now → DirtyF now R → (∀ a ∈ acts, KeepsA E a) → DirtyF (runD torn now acts) R ∧ NamesOK (runD torn now acts)
  | [], now, hN, h, _ => ⟨h, hN⟩
  | [a], now, hN, h, ha => by
    obtain ⟨h1, h2, _⟩ := cut_dirty torn hN h hE (ha a (by simp))
    exact ⟨h1, h2⟩
  | a :: b :: r, now, hN, h, ha => by
    obtain ⟨h1, h2, _⟩ := cut_dirty false hN h hE (ha a (by simp))
    exact crash_cuts hE torn (b :: r) _ h2 h1 (fun x hx => ha x (List.mem_cons_of_mem _ hx))
end Go.Proofs.YtgglheelhbfgiaaGreatDoor

namespace Go.Proofs.YtgglheelhbfgiaaGreatDoor
open Go Go.RowKit
def ActOK (a : ActD) : Prop := a.n ≤ 4194304 ∧ a.data.size ≤ 8000 ∧ a.name.size ≤ 24 ∧ a.name.size ≠ 0
theorem before_ltK : ∀ x y : List UInt8, bytesBefore x y = decide (x < y)
  | [], [] => by simp [bytesBefore]
  | _ :: _, [] => by simp [bytesBefore]
  | [], _ :: _ => by simp [bytesBefore]
  | a :: x, b :: y => by
    rw [bytesBefore, before_ltK x y]
    simp only [List.cons_lt_cons_iff]
    by_cases h1 : a < b <;> by_cases h2 : a = b <;> by_cases h3 : x < y <;> simp [h1, h2, h3]
def RisK (es : Fls) : Prop := es.Pairwise fun x y => bytesBefore (pK x) (pK y) = true
theorem ris_ins {x : ByteArray × ByteArray} {es : Fls} (h : RisK es) (hx : ∀ y ∈ es, y.1 ≠ x.1) : RisK (insK x es) := by
  induction es with
  | nil => exact List.pairwise_singleton _ _
  | cons y r ih =>
    obtain ⟨h1, h2⟩ := List.pairwise_cons.1 h
    unfold insK
    split
    · rename_i hb
      refine List.pairwise_cons.2 ⟨fun z hz => ?_, h⟩
      rcases List.mem_cons.1 hz with rfl | hz
      · exact hb
      · have h3 := h1 z hz
        rw [before_ltK, decide_eq_true_eq] at h3 hb ⊢
        exact List.lt_trans hb h3
    · rename_i hb
      have hyx : bytesBefore (pK y) (pK x) = true := (WideAt.bytes_total _ _ (fun e => hx y List.mem_cons_self (bytesK_inj.1 e))).resolve_right hb
      refine List.pairwise_cons.2 ⟨fun z hz => ?_, ih h2 fun z hz => hx z (List.mem_cons_of_mem _ hz)⟩
      rcases List.mem_cons.1 ((insK_perm x r).mem_iff.1 hz) with rfl | hz
      · exact hyx
      · exact h1 z hz
theorem ris_put {es : Fls} (h : RisK es) (p s : ByteArray) : RisK (putK es p s) :=
  ris_ins (List.Pairwise.filter _ h) fun y hy => by
    have := (List.mem_filter.1 hy).2
    simpa using this
theorem ris_sorted {es : Fls} (h : RisK es) : (es.map pK).mergeSort (fun x y => decide (x ≤ y)) = es.map pK := by
  refine List.mergeSort_of_pairwise ?_
  rw [List.pairwise_map]
  refine h.imp fun {x y} hb => ?_
  rw [before_ltK, decide_eq_true_eq] at hb
  simp only [decide_eq_true_eq]
  exact List.le_of_lt hb
structure FilesOK (es : Fls) : Prop where
  rise : RisK es
  nodup : (es.map (·.1)).Nodup
  keys : ∀ x ∈ es, x.1.size ≤ 24 ∧ x.1.size ≠ 0
  sizes : ∀ x ∈ es, x.2.size ≤ 4202304
structure DkOK (d : Dk) : Prop where
  limit : d.limit ≤ 4194304
  now : FilesOK d.now
  firm : FilesOK d.firm
  acts : ∀ a ∈ d.acts, ActOK a
theorem mem_putK {es : Fls} {p s : ByteArray} (z : ByteArray × ByteArray) : z ∈ putK es p s ↔ z = (p, s) ∨ (z ∈ es ∧ z.1 ≠ p) := by
  unfold putK
  rw [(insK_perm (p, s) (delK es p)).mem_iff, List.mem_cons, delK, List.mem_filter, Bool.not_eq_true', decide_eq_false_iff_not]
theorem FilesOK.nil : FilesOK [] := ⟨List.Pairwise.nil, List.nodup_nil, fun x h => (by cases h), fun x h => (by cases h)⟩
theorem FilesOK.put {es : Fls} (h : FilesOK es) {p s : ByteArray} (hp : p.size ≤ 24 ∧ p.size ≠ 0) (hs : s.size ≤ 4202304) : FilesOK (putK es p s) := by
  refine ⟨ris_put h.rise p s, keysK_put es p s h.nodup, fun x hx => ?_, fun x hx => ?_⟩
  · rcases (mem_putK x).1 hx with rfl | ⟨h1, _⟩
    · exact hp
    · exact h.keys x h1
  · rcases (mem_putK x).1 hx with rfl | ⟨h1, _⟩
    · exact hs
    · exact h.sizes x h1
theorem FilesOK.find {es : Fls} (h : FilesOK es) {p s : ByteArray} (hf : findK es p = some s) : s.size ≤ 4202304 := h.sizes _ (findK_some hf)
theorem FilesOK.has {es : Fls} (h : FilesOK es) (p : ByteArray) : (hasD es p).size ≤ 4202304 := by
  unfold hasD
  cases hf : findK es p with
  | none => decide
  | some s => exact h.find hf
theorem half_le (d : ByteArray) : (halfB d).size ≤ d.size := by
  unfold halfB
  rw [ByteArray.size_extract]
  omega
theorem laid_size (s : ByteArray) (n : Nat) (d : ByteArray) : (laidB s n d).size = max s.size (n + d.size) := laid_len s.data.toList d.data.toList n
theorem doD_ok {es : Fls} {a : ActD} (torn : Bool) (h : FilesOK es) (ha : ActOK a) : FilesOK (doD es a torn) := by
  obtain ⟨h1, h2, h3⟩ := ha
  unfold doD
  split
  · cases hf : findK es a.name with
    | none => exact h
    | some s =>
      exact h.put h3 (Nat.le_trans (short_size s a.n) (h.find hf))
  · refine h.put h3 ?_
    rw [laid_size]
    have e1 := h.has a.name
    have e2 := half_le a.data
    cases torn
    · show max (hasD es a.name).size (a.n + a.data.size) ≤ _
      omega
    · show max (hasD es a.name).size (a.n + (halfB a.data).size) ≤ _
      omega
theorem doD_len (es : Fls) (a : ActD) (torn : Bool) : (doD es a torn).length ≤ es.length + 1 := by
  unfold doD
  split
  · cases findK es a.name with
    | none => exact Nat.le_succ _
    | some s => exact lenK_put es a.name _
  · exact lenK_put es a.name _
theorem del_len {es : Fls} {p s : ByteArray} (h : findK es p = some s) : (delK es p).length + 1 ≤ es.length := by
  have h1 := findK_some h
  clear h
  induction es with
  | nil => cases h1
  | cons y r ih =>
    rw [delK, List.filter_cons]
    rcases List.mem_cons.1 h1 with rfl | h1
    · rw [if_neg (by simp)]
      have := List.length_filter_le (fun y : ByteArray × ByteArray => !decide (y.1 = p)) r
      rw [List.length_cons]
      omega
    · have := ih h1
      rw [delK] at this
      split
      · rw [List.length_cons, List.length_cons]
        omega
      · rw [List.length_cons]
        omega
theorem cut_len (es : Fls) {a : ActD} (h : a.cut = true) (torn : Bool) : (doD es a torn).length ≤ es.length := by
  unfold doD
  rw [if_pos h]
  cases hf : findK es a.name with
  | none => exact Nat.le_refl _
  | some s =>
    show (putK es a.name _).length ≤ _
    unfold putK
    rw [(insK_perm _ (delK es a.name)).length_eq, List.length_cons]
    exact del_len hf
theorem run_ok (torn : Bool) : ∀ (l : List ActD) (es : Fls), FilesOK es → (∀ a ∈ l, ActOK a) → FilesOK (runD torn es l)
  | [], _, h, _ => h
  | [a], _, h, ha => doD_ok torn h (ha a (List.mem_cons_self ..))
  | a :: b :: r, _, h, ha => run_ok torn (b :: r) _ (doD_ok false h (ha a (List.mem_cons_self ..))) fun x hx => ha x (List.mem_cons_of_mem _ hx)
theorem run_len (torn : Bool) : ∀ (l : List ActD) (es : Fls), (runD torn es l).length ≤ es.length + l.length
  | [], _ => Nat.le_refl _
  | [a], es => doD_len es a torn
  | a :: b :: r, es => by
    have h1 := run_len torn (b :: r) (doD es a false)
    have h2 := doD_len es a false
    show (runD torn (doD es a false) (b :: r)).length ≤ _
    simp only [List.length_cons] at h1 ⊢
    omega
theorem kept_len (keep : Int) : ∀ (l : List ActD) (i : Nat), (keptD keep i l).length ≤ l.length
  | [], _ => Nat.le_refl _
  | a :: r, i => by
    have := kept_len keep r (i + 1)
    unfold keptD
    split <;> simp only [List.length_cons] <;> omega
theorem DkOK.dies {d : Dk} (h : DkOK d) : DkOK (diesD d) := by
  unfold diesD
  split
  · exact ⟨h.limit, h.now, h.firm, h.acts⟩
  · exact h
theorem DkOK.more {d : Dk} {a : ActD} (h : DkOK d) (ha : ActOK a) : DkOK { d with acts := d.acts ++ [a] } :=
  ⟨h.limit, h.now, h.firm, fun x hx => by
    rcases List.mem_append.1 hx with hx | hx
    · exact h.acts x hx
    · rw [List.mem_singleton.1 hx]
      exact ha⟩
theorem dies_same (d : Dk) : (diesD d).now = d.now ∧ (diesD d).firm = d.firm ∧ (diesD d).acts = d.acts ∧ (diesD d).limit = d.limit := by
  unfold diesD
  split <;> exact ⟨rfl, rfl, rfl, rfl⟩
theorem DkOK.does {d : Dk} {a : ActD} (h : DkOK d) (ha : ActOK a) : DkOK (doesD d a).1 := by
  have h1 := (h.more ha).dies
  unfold doesD
  split
  · exact h1
  · exact ⟨h1.limit, doD_ok false h.now ha, h1.firm, h1.acts⟩
theorem DkOK.arm {d : Dk} (h : DkOK d) (n : Int) : DkOK (armD d n) := ⟨h.limit, h.now, h.firm, h.acts⟩
theorem DkOK.sync {d : Dk} (h : DkOK d) : DkOK (syncD d).1 := by
  unfold syncD
  split
  · exact h
  · split
    · exact h.dies
    · have e := dies_same d
      exact ⟨by show (diesD d).limit ≤ _; rw [e.2.2.2]; exact h.limit, by show FilesOK (diesD d).now; rw [e.1]; exact h.now, h.now, fun a ha => by cases ha⟩
theorem DkOK.crash {d : Dk} (h : DkOK d) (keep : Int) (torn : Bool) : DkOK (crashD d keep torn) := by
  have h1 := run_ok torn (keptD keep 0 d.acts) d.firm h.firm fun a ha => h.acts a (kept_mem _ _ a ha)
  exact ⟨h.limit, h1, h1, fun a ha => by cases ha⟩
theorem DkOK.new {n : Nat} (h : n ≤ 4194304) : DkOK (newD n) := ⟨h, FilesOK.nil, FilesOK.nil, fun a ha => by cases ha⟩
theorem wrongD_ok {d : Dk} {name : ByteArray} {n : Int} (h : wrongD d name n = 0) : d.dead = false ∧ name.size ≠ 0 ∧ name.size ≤ 24 ∧ 0 ≤ n ∧ n ≤ d.limit := by
  unfold wrongD at h
  cases hd : d.dead with
  | true => rw [hd] at h; simp at h
  | false =>
    rw [hd, if_neg (by decide)] at h
    by_cases hc : name.size = 0 ∨ 24 < name.size ∨ n < 0 ∨ (d.limit : Int) < n
    · rw [if_pos hc] at h
      cases h
    · exact ⟨rfl, by omega, by omega, by omega, by omega⟩
theorem DkOK.write {d : Dk} (h : DkOK d) (name : ByteArray) (n : Int) (data : ByteArray) (hd : data.size ≤ 8000) : DkOK (writeD d name n data).1 := by
  unfold writeD
  by_cases hw : wrongD d name n ≠ 0
  · rw [if_pos hw]
    exact h
  · rw [if_neg hw]
    split
    · exact h
    · obtain ⟨_, h2, h3, h4, h5⟩ := wrongD_ok (Decidable.not_not.1 hw)
      have := h.limit
      exact h.does ⟨by show n.toNat ≤ _; omega, hd, h3, h2⟩
theorem DkOK.cut {d : Dk} (h : DkOK d) (name : ByteArray) (n : Int) : DkOK (cutD d name n).1 := by
  unfold cutD
  by_cases hw : wrongD d name n ≠ 0
  · rw [if_pos hw]
    exact h
  · rw [if_neg hw]
    split
    · exact h
    · obtain ⟨_, h2, h3, h4, h5⟩ := wrongD_ok (Decidable.not_not.1 hw)
      have := h.limit
      exact h.does ⟨by show n.toNat ≤ _; omega, by show (0 : Nat) ≤ 8000; omega, h3, h2⟩
end Go.Proofs.YtgglheelhbfgiaaGreatDoor

namespace Go.Proofs.YtgglheelhbfgiaaGreatDoor
open Go Go.RowKit
theorem frame_le2 {n : Nat} {s : List UInt8} : (frameL n s).length ≤ 36 + s.length := by
  unfold frameL bodyL textL numL natL
  simp only [List.length_append, List.length_cons, beF_len]
  have h1 := wid_le (u64 n)
  have h2 := wid_le s.length
  generalize sumC _ = c
  generalize wid (u64 n) = a at *
  generalize wid s.length = b at *
  have h3 := wid_le (u64 c)
  have h4 := wid_le (a + 1 + (b + 1 + s.length))
  omega
theorem frames_le2 {c : Nat} : ∀ (l : List (List UInt8)) (n : Nat), (∀ s ∈ l, s.length ≤ c) → (framesF n l).length ≤ l.length * (36 + c)
  | [], _, _ => by simp [framesF]
  | s :: r, n, h => by
    have h1 := frame_le2 (n := n) (s := s)
    have h0 := h s (by simp)
    have h2 := frames_le2 r (n + 1) (fun x hx => h x (by simp [hx]))
    rw [framesF, List.length_append, List.length_cons, Nat.succ_mul]
    omega
theorem file_le2 {R : List (List UInt8)} {c : Nat} (h : ∀ s ∈ R, s.length ≤ c) (k : Nat) : (fileL R k).length ≤ 8 * (36 + c) := by
  have h1 := frames_le2 ((R.drop (8 * k)).take 8) (8 * k) (fun s hs => h s (List.mem_of_mem_drop (List.mem_of_mem_take hs)))
  have h2 : ((R.drop (8 * k)).take 8).length ≤ 8 := by rw [List.length_take]; omega
  have h3 := Nat.mul_le_mul_right (36 + c) h2
  unfold fileL
  omega
theorem nodup_sub {α : Type} [DecidableEq α] : ∀ {l m : List α}, l.Nodup → (∀ x ∈ l, x ∈ m) → l.length ≤ m.length
  | [], _, _, _ => Nat.zero_le _
  | x :: r, m, hn, h => by
    have hx := h x (by simp)
    obtain ⟨hn1, hn2⟩ := List.nodup_cons.1 hn
    have := nodup_sub (m := m.erase x) hn2 fun y hy => (List.mem_erase_of_ne (fun e => hn1 (by rw [← e]; exact hy))).2 (h y (by simp [hy]))
    rw [List.length_erase_of_mem hx] at this
    have := List.length_pos_of_mem hx
    rw [List.length_cons]
    omega
theorem sum_le {M : Nat} : ∀ (l : List Nat), (∀ x ∈ l, x ≤ M) → l.sum ≤ l.length * M
  | [], _ => by simp
  | x :: r, h => by
    have h1 := h x (by simp)
    have h2 := sum_le r (fun y hy => h y (by simp [hy]))
    rw [List.sum_cons, List.length_cons, Nat.succ_mul]
    omega
theorem size_bound {now : Fls} {M : Nat} (hN : NamesOK now) (h : ∀ k, k < 100 → (hasD now (nameS k)).size ≤ M) : sizeF now ≤ 100 * M := by
  have h1 : now.length ≤ 100 := by
    have h2 := nodup_sub (l := now.map (·.1)) (m := (List.range 100).map nameS) hN.nodup fun p hp => by
      obtain ⟨k, hk, e⟩ := hN.names p (mem_keysK.1 hp)
      exact List.mem_map.2 ⟨k, List.mem_range.2 hk, e.symm⟩
    simpa using h2
  have h3 := sum_le (M := M) (now.map fun x => x.2.size) fun y hy => by
    obtain ⟨x, hx, rfl⟩ := List.mem_map.1 hy
    have hf := findK_of hN.nodup (p := x.1) (a := x.2) hx
    obtain ⟨k, hk, e⟩ := hN.names x.1 (by rw [hf]; rfl)
    have := h k hk
    rw [← e, hasD_some hf] at this
    exact this
  rw [List.length_map] at h3
  have h4 := Nat.mul_le_mul_right M h1
  unfold sizeF
  omega
theorem clean_room {now : Fls} {Q : List (List UInt8)} {c : Nat} (hN : NamesOK now) (hC : CleanF now Q) (hc : ∀ s ∈ Q, s.length ≤ c) : sizeF now ≤ 100 * (8 * (36 + c)) :=
  size_bound hN fun k hk => by
    rw [size_list, hC.has k hk]
    exact file_le2 hc k
def rsL (rs : List ByteArray) : List (List UInt8) := rs.map fun s => s.data.toList
/-- What the writes of an append leave. -/
theorem lay_cases {many c : Nat} : ∀ (rs : List ByteArray) (Q : List (List UInt8)) (i : Nat) (at_ : Int) (d : Dk), many + i = Q.length → d.dead = false → NamesOK d.now → CleanF d.now Q → Q.length + rs.length ≤ 800 → (∀ s ∈ rsL rs, recOk s = true) → (∀ s ∈ Q ++ rsL rs, s.length ≤ c) → 100 * (8 * (36 + c)) + 17000 ≤ d.limit → (Q.length % 8 ≠ 0 → at_ = (fileL Q (Q.length / 8)).length) →
    (∃ m, m ≤ rs.length ∧ (layG many i at_ rs d).2.2 = 42 ∧ (layG many i at_ rs d).1.dead = true ∧ (layG many i at_ rs d).1.firm = d.firm ∧ (layG many i at_ rs d).1.limit = d.limit ∧ (layG many i at_ rs d).1.acts = d.acts ++ wrA Q ((rsL rs).take m) ∧ 0 < d.armed) ∨
    ((layG many i at_ rs d).2.2 = 0 ∧ (layG many i at_ rs d).1.dead = false ∧ (layG many i at_ rs d).1.firm = d.firm ∧ (layG many i at_ rs d).1.limit = d.limit ∧ (layG many i at_ rs d).1.acts = d.acts ++ wrA Q (rsL rs) ∧ (d.armed ≤ 0 → (layG many i at_ rs d).1.armed = d.armed) ∧
      NamesOK (layG many i at_ rs d).1.now ∧ CleanF (layG many i at_ rs d).1.now (Q ++ rsL rs) ∧ ((Q ++ rsL rs).length % 8 ≠ 0 → (layG many i at_ rs d).2.1 = (fileL (Q ++ rsL rs) ((Q ++ rsL rs).length / 8)).length) ∧
      (∀ p, (findK (layG many i at_ rs d).1.now p).isSome = true ↔ ((findK d.now p).isSome = true ∨ ∃ j, Q.length ≤ j ∧ j < Q.length + rs.length ∧ p = nameS (j / 8))))
  | [], Q, i, at_, d, _, hd, hN, hC, _, _, _, _, hat => .inr ⟨rfl, hd, rfl, rfl, by simp [rsL, wrA, layG], fun _ => rfl, hN, by simpa [rsL, layG] using hC, by simpa [rsL, layG] using hat, fun p => ⟨.inl, fun h => by
      rcases h with h | ⟨j, h1, h2, _⟩
      · exact h
      · simp at h2
        omega⟩⟩
  | s :: r, Q, i, at_, d, hq, hd, hN, hC, hl, hr, hc, hlim, hat => by
    rw [List.length_cons] at hl
    have hs : recOk s.data.toList = true := hr _ (by simp [rsL])
    have hat2 : (if (many + i) % 8 = 0 then 0 else at_) = ((fileL Q (Q.length / 8)).length : Int) := by
      rw [hq]
      split
      · rw [file_none (by omega)]
        rfl
      · exact hat ‹_›
    have hfl := frame_le2 (n := Q.length) (s := s.data.toList)
    have hsc := hc s.data.toList (by simp [rsL])
    have hs2 : 1 ≤ s.data.toList.length ∧ s.data.toList.length ≤ 2000 := by simpa [recOk] using hs
    have hfb : (frameB (many + i) s).size = (frameL Q.length s.data.toList).length := by rw [hq]; exact mkB_size _
    have hroom := clean_room hN hC (fun x hx => hc x (by simp [hx]))
    have hfile := file_le2 (R := Q) (fun x hx => hc x (by simp [hx])) (Q.length / 8)
    have hhad : (hasD d.now (nameS (Q.length / 8))).size = (fileL Q (Q.length / 8)).length := by rw [size_list, hC.has _ (by omega)]
    have hw : writeD d (nameS ((many + i) / 8)) (if (many + i) % 8 = 0 then 0 else at_) (frameB (many + i) s) = doesD d ⟨false, nameS (Q.length / 8), (fileL Q (Q.length / 8)).length, mkB (frameL Q.length s.data.toList)⟩ := by
      rw [hat2]
      unfold writeD
      rw [hq, wrong_none hd (by omega) (by omega) (by omega), if_neg (by decide), if_neg ?_, Int.toNat_natCast]
      · rfl
      · rw [hhad, show (frameB Q.length s).size = (frameL Q.length s.data.toList).length from mkB_size _]
        omega
    rw [layG, hw]
    have hwr : wrA Q (rsL (s :: r)) = ⟨false, nameS (Q.length / 8), (fileL Q (Q.length / 8)).length, mkB (frameL Q.length s.data.toList)⟩ :: wrA (Q ++ [s.data.toList]) (rsL r) := rfl
    rcases does_cases d ⟨false, nameS (Q.length / 8), (fileL Q (Q.length / 8)).length, mkB (frameL Q.length s.data.toList)⟩ hd with ⟨e1, e2, e3, e4, e5, e6⟩ | ⟨e1, e2, e3, e4, e5, e6, e7⟩
    · rw [if_pos (by rw [e1]; decide)]
      exact .inl ⟨1, by simp, e1, e2, e3, e4, by rw [e5]; rfl, e6⟩
    · rw [if_neg (by rw [e1]; decide), hat2, hfb]
      obtain ⟨w1, w2⟩ := write_clean hN hC hs (by omega)
      rw [← e6] at w1 w2
      have hfk : ∀ p, (findK (doesD d ⟨false, nameS (Q.length / 8), (fileL Q (Q.length / 8)).length, mkB (frameL Q.length s.data.toList)⟩).1.now p).isSome = true ↔ ((findK d.now p).isSome = true ∨ p = nameS (Q.length / 8)) := fun p => by
        rw [e6]
        unfold doD
        dsimp only
        rw [if_neg (by decide), findK_put hN.nodup]
        split
        · rename_i e
          exact ⟨fun _ => .inr e, fun _ => rfl⟩
        · rename_i e
          exact ⟨.inl, fun h => h.resolve_right e⟩
      have hlen1 : (Q ++ [s.data.toList]).length = Q.length + 1 := by simp
      have happ : Q ++ rsL (s :: r) = Q ++ [s.data.toList] ++ rsL r := by simp [rsL]
      have ih := lay_cases (many := many) (c := c) r (Q ++ [s.data.toList]) (i + 1) (((fileL Q (Q.length / 8)).length : Int) + ((frameL Q.length s.data.toList).length : Int)) (doesD d ⟨false, nameS (Q.length / 8), (fileL Q (Q.length / 8)).length, mkB (frameL Q.length s.data.toList)⟩).1 (by rw [hlen1]; omega) e2 w2 w1 (by rw [hlen1]; omega) (fun x hx => hr x (by simp only [rsL, List.map_cons, List.mem_cons] at hx ⊢; exact .inr hx)) (fun x hx => hc x (by rw [happ]; exact hx)) (by rw [e4]; exact hlim) (fun h8 => by
        rw [hlen1] at h8 ⊢
        rw [show (Q.length + 1) / 8 = Q.length / 8 by omega, snoc_file, if_pos rfl, List.length_append]
        omega)
      rcases ih with ⟨m, f1, f2, f3, f4, f5, f6, f7⟩ | ⟨f1, f2, f3, f4, f5, f6, f7, f8, f9, f10⟩
      · refine .inl ⟨m + 1, by simp; omega, f2, f3, f4.trans e3, f5.trans e4, ?_, ?_⟩
        · rw [f6, e5, show (rsL (s :: r)).take (m + 1) = s.data.toList :: (rsL r).take m from rfl, wrA, List.append_assoc]
          rfl
        · refine Classical.byContradiction fun h0 => ?_
          rw [e7 (by omega)] at f7
          exact h0 f7
      · refine .inr ⟨f1, f2, f3.trans e3, f4.trans e4, by rw [f5, e5, hwr, List.append_assoc]; rfl, fun h => (by rw [f6 (by rw [e7 h]; exact h), e7 h]), f7, by rw [happ]; exact f8, by rw [happ]; exact f9, fun p => ?_⟩
        rw [f10, hfk, hlen1]
        constructor
        · rintro ((h | h) | ⟨j, h1, h2, h3⟩)
          · exact .inl h
          · exact .inr ⟨Q.length, Nat.le_refl _, by simp, h⟩
          · exact .inr ⟨j, by omega, by simp; omega, h3⟩
        · rintro (h | ⟨j, h1, h2, h3⟩)
          · exact .inl (.inl h)
          · by_cases hj : j = Q.length
            · rw [hj] at h3
              exact .inl (.inr h3)
            · rw [List.length_cons] at h2
              exact .inr ⟨j, by omega, by omega, h3⟩
end Go.Proofs.YtgglheelhbfgiaaGreatDoor

namespace Go.Proofs.YtgglheelhbfgiaaGreatDoor
open Go Go.RowKit
def logOf (R : List (List UInt8)) : Lg := ⟨R.length, (fileL R (R.length / 8)).length, false⟩
/-- Behind a crash. -/
structure MidL (lim : Nat) (d : Dk) (R : List (List UInt8)) : Prop where
  dead : d.dead = false
  limit : d.limit = lim
  acts : d.acts = []
  firm : d.firm = d.now
  armed : d.armed = 0
  names : NamesOK d.now
  dirty : DirtyF d.now R
/-- Behind an opening. -/
structure StL (lim : Nat) (d : Dk) (R : List (List UInt8)) : Prop where
  dead : d.dead = false
  limit : d.limit = lim
  acts : d.acts = []
  firm : d.firm = d.now
  armed : d.armed = 0
  names : NamesOK d.now
  clean : CleanF d.now R
theorem StL.mid {lim : Nat} {d : Dk} {R : List (List UInt8)} (h : StL lim d R) : MidL lim d R := ⟨h.dead, h.limit, h.acts, h.firm, h.armed, h.names, h.clean.dirty⟩
theorem new_mid {lim : Nat} : MidL lim (newD lim) [] := by
  refine ⟨rfl, rfl, rfl, rfl, rfl, ⟨List.nodup_nil, fun p h => (by cases h), fun p => (by rw [hasD_none rfl]; decide)⟩, ⟨Nat.zero_le _, fun s h => (by cases h), fun k _ => ⟨[], by rw [hasD_none rfl, file_none (Nat.zero_le _)]; rfl⟩, fun _ => ?_⟩⟩
  rw [hasD_none rfl]
  exact first_nil _
/-- An opening behind a crash, at which the disk may die. -/
theorem open_mid {lim : Nat} {d : Dk} {R : List (List UInt8)} (h : MidL lim d R) (hl : 16300 ≤ lim) (n : Int) :
    ((openD (armD d n)).log = none ∧ (openD (armD d n)).out = [] ∧ (openD (armD d n)).err = 42 ∧ 0 < n ∧ ∀ keep torn, MidL lim (crashD (openD (armD d n)).d keep torn) R) ∨
    ((openD (armD d n)).log = some (logOf R) ∧ (openD (armD d n)).out = R.map mkB ∧ (openD (armD d n)).err = 0 ∧ StL lim (armD (openD (armD d n)).d 0) R ∧ (n ≤ 0 → StL lim (openD (armD d n)).d R) ∧ ∀ p, (findK (openD (armD d n)).d.now p).isSome = (findK d.now p).isSome) := by
  obtain ⟨E, cuts, hE, hc, h1 | h1⟩ := open_dirty (d := armD d n) h.dead (by show 16300 ≤ d.limit; rw [h.limit]; exact hl) h.names h.dirty
  · obtain ⟨e1, e2, e3, e4, e5, e6, e7, e8⟩ := h1
    have e8' : 0 < max n 0 := e8
    refine .inl ⟨e1, e2, e3, by omega, fun keep torn => ?_⟩
    have e5' : (openD (armD d n)).d.firm = d.now := e5.trans h.firm
    have e7' : (openD (armD d n)).d.acts = cuts := by
      rw [e7]
      show d.acts ++ cuts = cuts
      rw [h.acts, List.nil_append]
    obtain ⟨c1, c2⟩ := crash_cuts hE torn (keptD keep 0 (openD (armD d n)).d.acts) (openD (armD d n)).d.firm (by rw [e5']; exact h.names) (by rw [e5']; exact h.dirty) (fun a ha => hc a (by rw [← e7']; exact kept_mem _ _ a ha))
    exact ⟨rfl, e6.trans h.limit, rfl, rfl, rfl, c2, c1⟩
  · obtain ⟨e1, e2, e3, e4, e5, e6, e7, e8, e9, e10, e11⟩ := h1
    refine .inr ⟨e1, e2, e3, ⟨e4, e6.trans h.limit, e7, e5, rfl, e9, e10⟩, fun hn => ⟨e4, e6.trans h.limit, e7, e5, (e8 (show max n 0 ≤ 0 by omega)).trans (show max n 0 = 0 by omega), e9, e10⟩, e11⟩
/-- An opening behind a crash. -/
theorem open_still {lim : Nat} {d : Dk} {R : List (List UInt8)} (h : MidL lim d R) (hl : 16300 ≤ lim) : (openD d).log = some (logOf R) ∧ (openD d).out = R.map mkB ∧ (openD d).err = 0 ∧ StL lim (openD d).d R ∧ ∀ p, (findK (openD d).d.now p).isSome = (findK d.now p).isSome := by
  have e : armD d 0 = d := by
    obtain ⟨a, b, c, d', arm, f⟩ := d
    have := h.armed
    dsimp only at this
    subst this
    rfl
  have h1 := open_mid h hl 0
  rw [e] at h1
  rcases h1 with ⟨_, _, _, h2, _⟩ | ⟨e1, e2, e3, _, e4, e5⟩
  · omega
  · exact ⟨e1, e2, e3, e4 (Int.le_refl _), e5⟩
theorem rightR_eq (rs : List ByteArray) (h : rs.all rightR = true) : ∀ s ∈ rsL rs, recOk s = true := fun s hs => by
  obtain ⟨x, hx, rfl⟩ := List.mem_map.1 hs
  exact List.all_eq_true.1 h x hx
/-- An append, at which the disk may die. -/
theorem append_st {lim c : Nat} {d : Dk} {R : List (List UInt8)} (h : StL lim d R) (rs : List ByteArray) (n : Int) (hR : ∀ s ∈ R, s.length ≤ c) (hrs : rs.all rightR = true → ∀ s ∈ rsL rs, s.length ≤ c) (hlim : 100 * (8 * (36 + c)) + 17000 ≤ lim) :
    (rs.all rightR = false → (appendD (logOf R) rs (armD d n)).2.2 = 1) ∧
    (rs.all rightR = true → (appendD (logOf R) rs (armD d n)).2.2 = 0 ∨ ((appendD (logOf R) rs (armD d n)).2.2 = 42 ∧ 0 < n) ∨ ((appendD (logOf R) rs (armD d n)).2.2 = 40 ∧ 800 < R.length + rs.length)) ∧
    (rs.all rightR = true → R.length + rs.length ≤ 800 → n ≤ 0 → (appendD (logOf R) rs (armD d n)).2.2 = 0 ∧ (appendD (logOf R) rs (armD d n)).1.many = R.length + rs.length ∧ (appendD (logOf R) rs (armD d n)).1.dead = false ∧ StL lim (appendD (logOf R) rs (armD d n)).2.1 (R ++ rsL rs) ∧
      ((R ++ rsL rs).length % 8 ≠ 0 → (appendD (logOf R) rs (armD d n)).1.fin = (fileL (R ++ rsL rs) ((R ++ rsL rs).length / 8)).length) ∧
      ∀ p, (findK (appendD (logOf R) rs (armD d n)).2.1.now p).isSome = true ↔ ((findK d.now p).isSome = true ∨ ∃ j, R.length ≤ j ∧ j < R.length + rs.length ∧ p = nameS (j / 8))) ∧
    ∀ keep torn, ∃ j, MidL lim (crashD (appendD (logOf R) rs (armD d n)).2.1 keep torn) (R ++ (rsL rs).take j) ∧ ((appendD (logOf R) rs (armD d n)).2.2 = 0 → (rsL rs).take j = rsL rs) ∧
      (rs.all rightR = false → (rsL rs).take j = []) ∧ ((appendD (logOf R) rs (armD d n)).2.2 = 40 → (rsL rs).take j = []) := by
  have hsame : ∀ keep torn, MidL lim (crashD (armD d n) keep torn) R := fun keep torn => by
    have e : crashD (armD d n) keep torn = { d with armed := 0, acts := [], dead := false } := by
      unfold crashD armD
      simp only [h.acts, h.firm, keptD, runD]
    rw [e]
    exact ⟨rfl, h.limit, rfl, h.firm, rfl, h.names, h.clean.dirty⟩
  unfold appendD
  rw [if_neg (by simp [logOf])]
  by_cases hr : rs.all rightR = false
  · rw [if_pos hr]
    exact ⟨fun _ => rfl, fun h2 => (by rw [hr] at h2; cases h2), fun h2 => (by rw [hr] at h2; cases h2), fun keep torn => ⟨0, by simpa using hsame keep torn, fun h2 => (by cases h2), fun _ => rfl, fun _ => rfl⟩⟩
  · rw [if_neg hr]
    have hrt : rs.all rightR = true := by simpa using hr
    by_cases hb : 800 < (logOf R).many + rs.length
    · rw [if_pos hb]
      exact ⟨fun h2 => absurd h2 hr, fun _ => .inr (.inr ⟨rfl, hb⟩), fun _ h2 => absurd hb (Nat.not_lt.2 h2), fun keep torn => ⟨0, by simpa using hsame keep torn, fun h2 => (by cases h2), fun _ => rfl, fun _ => rfl⟩⟩
    · rw [if_neg hb]
      have hb' : R.length + rs.length ≤ 800 := Nat.not_lt.1 hb
      by_cases h0 : rs.length = 0
      · rw [if_pos h0]
        obtain rfl := List.length_eq_zero_iff.1 h0
        refine ⟨fun h2 => absurd h2 hr, fun _ => .inl rfl, fun _ _ hn => ⟨rfl, rfl, rfl, ?_, ?_, fun p => ⟨.inl, fun h => ?_⟩⟩, fun keep torn => ⟨0, by simpa using hsame keep torn, fun _ => rfl, fun _ => rfl, fun _ => rfl⟩⟩
        · have e : armD d n = d := by
            obtain ⟨a, b, c, d', arm, f⟩ := d
            have := h.armed
            dsimp only at this
            subst this
            unfold armD
            rw [show max n 0 = 0 by omega]
          rw [e]
          simpa [rsL] using h
        · intro _
          simp [rsL, logOf]
        · rcases h with h | ⟨j, h1, h2, _⟩
          · exact h
          · simp at h2
            omega
      · rw [if_neg h0]
        have hrl : (rsL rs).length = rs.length := by simp [rsL]
        have hlay := lay_cases (many := R.length) (c := c) rs R 0 (logOf R).fin (armD d n) rfl h.dead h.names h.clean hb' (rightR_eq rs hrt) (fun s hs => by
          rcases List.mem_append.1 hs with hs | hs
          · exact hR s hs
          · exact hrs hrt s hs) (by show _ ≤ d.limit; rw [h.limit]; exact hlim) (fun _ => rfl)
        unfold layD
        rw [show (logOf R).many = R.length from rfl]
        rcases hlay with ⟨m, f1, f2, f3, f4, f5, f6, f7⟩ | ⟨f1, f2, f3, f4, f5, f6, f7, f8, f9, f10⟩
        · have f7' : 0 < max n 0 := f7
          rw [if_pos (show (layG R.length 0 (logOf R).fin rs (armD d n)).2.2 ≠ 0 by rw [f2]; decide), if_pos (by rw [f2]; decide)]
          refine ⟨fun h2 => absurd h2 hr, fun _ => .inr (.inl ⟨f2, by omega⟩), fun _ _ hn => by omega, fun keep torn => ?_⟩
          dsimp only
          have g1 : (layG R.length 0 (logOf R).fin rs (armD d n)).1.acts = wrA R ((rsL rs).take m) := by
            rw [f6]
            show d.acts ++ _ = _
            rw [h.acts, List.nil_append]
          have g2 : (layG R.length 0 (logOf R).fin rs (armD d n)).1.firm = d.now := f4.trans h.firm
          obtain ⟨j, hj, c1, c2⟩ := crash_writes keep torn ((rsL rs).take m) R 0 d.now h.names h.clean (by rw [List.length_take]; omega) (fun s hs => rightR_eq rs hrt s (List.mem_of_mem_take hs))
          rw [List.take_take] at c1
          rw [← g1, ← g2] at c1 c2
          exact ⟨min j m, ⟨rfl, f5.trans h.limit, rfl, rfl, rfl, c2, c1⟩, fun h2 => (by rw [f2] at h2; cases h2), fun h2 => absurd h2 hr, fun h2 => (by rw [f2] at h2; cases h2)⟩
        · rw [if_neg (show ¬ (layG R.length 0 (logOf R).fin rs (armD d n)).2.2 ≠ 0 by rw [f1]; decide)]
          dsimp only
          rcases sync_cases (layG R.length 0 (logOf R).fin rs (armD d n)).1 f2 with ⟨e1, e2, e3, e4, e5, e6⟩ | ⟨e1, e2, e3, e4, e5, e6, e7⟩
          · have e6' : 0 < max n 0 := Classical.byContradiction fun hz => by
              rw [f6 (show max n 0 ≤ 0 by omega)] at e6
              exact hz e6
            rw [if_pos (by rw [e1]; decide)]
            refine ⟨fun h2 => absurd h2 hr, fun _ => .inr (.inl ⟨e1, by omega⟩), fun _ _ hn => by omega, fun keep torn => ?_⟩
            dsimp only
            have g1 : (syncD (layG R.length 0 (logOf R).fin rs (armD d n)).1).1.acts = wrA R (rsL rs) := by
              rw [e5, f5]
              show d.acts ++ _ = _
              rw [h.acts, List.nil_append]
            have g2 : (syncD (layG R.length 0 (logOf R).fin rs (armD d n)).1).1.firm = d.now := e3.trans (f3.trans h.firm)
            obtain ⟨j, hj, c1, c2⟩ := crash_writes keep torn (rsL rs) R 0 d.now h.names h.clean (by omega) (rightR_eq rs hrt)
            rw [← g1, ← g2] at c1 c2
            exact ⟨j, ⟨rfl, e4.trans (f4.trans h.limit), rfl, rfl, rfl, c2, c1⟩, fun h2 => (by rw [e1] at h2; cases h2), fun h2 => absurd h2 hr, fun h2 => (by rw [e1] at h2; cases h2)⟩
          · rw [if_neg (by rw [e1]; decide)]
            refine ⟨fun h2 => absurd h2 hr, fun _ => .inl rfl, fun _ _ hn => ⟨rfl, rfl, rfl, ⟨e2, e5.trans (f4.trans h.limit), e6, e3.trans e4.symm, ((e7 (by rw [f6 (show max n 0 ≤ 0 by omega)]; show max n 0 ≤ 0; omega)).trans (f6 (show max n 0 ≤ 0 by omega))).trans (show max n 0 = 0 by omega), by dsimp only; rw [e4]; exact f7, by dsimp only; rw [e4]; exact f8⟩, f9, fun p => by dsimp only; rw [e4]; exact f10 p⟩, fun keep torn => ?_⟩
            dsimp only
            have e : crashD (syncD (layG R.length 0 (logOf R).fin rs (armD d n)).1).1 keep torn = { (syncD (layG R.length 0 (logOf R).fin rs (armD d n)).1).1 with armed := 0, acts := [], dead := false } := by
              unfold crashD
              rw [e6]
              simp only [keptD, runD]
              rw [e3, ← e4]
            refine ⟨(rsL rs).length, ?_, fun _ => List.take_length, fun h2 => absurd h2 hr, fun h2 => (by cases h2)⟩
            rw [e, List.take_length]
            exact ⟨rfl, e5.trans (f4.trans h.limit), rfl, e3.trans e4.symm, rfl, by dsimp only; rw [e4]; exact f7, by dsimp only; rw [e4]; exact f8.dirty⟩
end Go.Proofs.YtgglheelhbfgiaaGreatDoor

namespace Go.Proofs.YtgglheelhbfgiaaGreatDoor
open Go Go.RowKit
theorem names_len {now : Fls} (hN : NamesOK now) : now.length ≤ 100 := by
  have h2 := nodup_sub (l := now.map (·.1)) (m := (List.range 100).map nameS) hN.nodup fun p hp => by
    obtain ⟨k, hk, e⟩ := hN.names p (mem_keysK.1 hp)
    exact List.mem_map.2 ⟨k, List.mem_range.2 hk, e.symm⟩
  simpa using h2
theorem arm_none {d : Dk} (h : d.armed = 0) : armD d 0 = d := by
  obtain ⟨a, b, c, d', arm, f⟩ := d
  dsimp only at h
  subst h
  rfl
/-- A log that knows of these records. -/
structure LgFor (l : Lg) (R : List (List UInt8)) : Prop where
  many : l.many = R.length
  dead : l.dead = false
  fin : R.length % 8 ≠ 0 → l.fin = (fileL R (R.length / 8)).length
theorem LgFor.of (R : List (List UInt8)) : LgFor (logOf R) R := ⟨rfl, rfl, fun _ => rfl⟩
theorem layG_fin {many : Nat} {f1 f2 : Int} {rs : List ByteArray} {d : Dk} (hrs : rs ≠ []) (h : many % 8 ≠ 0 → f1 = f2) : layG many 0 f1 rs d = layG many 0 f2 rs d := by
  cases rs with
  | nil => exact absurd rfl hrs
  | cons s r =>
    have e : (if (many + 0) % 8 = 0 then (0 : Int) else f1) = (if (many + 0) % 8 = 0 then 0 else f2) := by
      by_cases h8 : (many + 0) % 8 = 0
      · rw [if_pos h8, if_pos h8]
      · rw [if_neg h8, if_neg h8]
        exact h h8
    rw [layG, layG, e]
theorem append_alive {many : Nat} {fin : Int} {rs : List ByteArray} {d : Dk} : appendD ⟨many, fin, false⟩ rs d = if rs.all rightR = false then (⟨many, fin, false⟩, d, 1)
  else if 800 < many + rs.length then (⟨many, fin, false⟩, d, 40)
  else if rs.length = 0 then (⟨many, fin, false⟩, d, 0)
  else if (layD ⟨many, fin, false⟩ rs d).2.2 ≠ 0 then (⟨many, fin, true⟩, (layD ⟨many, fin, false⟩ rs d).1, (layD ⟨many, fin, false⟩ rs d).2.2)
  else (⟨many + rs.length, (layD ⟨many, fin, false⟩ rs d).2.1, false⟩, (layD ⟨many, fin, false⟩ rs d).1, 0) := if_neg (fun h : false = true => Bool.noConfusion h)
theorem append_lg {l : Lg} {R : List (List UInt8)} {rs : List ByteArray} {d : Dk} (h : LgFor l R) (hrs : rs ≠ []) : (appendD l rs d).2 = (appendD (logOf R) rs d).2 ∧ ((appendD (logOf R) rs d).2.2 = 0 → (appendD l rs d).1 = (appendD (logOf R) rs d).1) := by
  obtain ⟨many, fin, dead⟩ := l
  obtain ⟨h1, h2, h3⟩ := h
  dsimp only at h1 h2 h3
  subst h1 h2
  have e : layD ⟨R.length, fin, false⟩ rs d = layD (logOf R) rs d := by
    unfold layD
    show (if (layG R.length 0 fin rs d).2.2 ≠ 0 then _ else _) = (if (layG R.length 0 (fileL R (R.length / 8)).length rs d).2.2 ≠ 0 then _ else _)
    rw [layG_fin (f2 := (fileL R (R.length / 8)).length) hrs h3]
    rfl
  have hl : rs.length ≠ 0 := fun h => hrs (List.length_eq_zero_iff.1 h)
  rw [show logOf R = ⟨R.length, (fileL R (R.length / 8)).length, false⟩ from rfl] at *
  rw [append_alive, append_alive, e]
  by_cases c2 : rs.all rightR = false
  · rw [if_pos c2, if_pos c2]
    exact ⟨rfl, fun h => by cases h⟩
  · rw [if_neg c2, if_neg c2]
    by_cases c3 : 800 < R.length + rs.length
    · rw [if_pos c3, if_pos c3]
      exact ⟨rfl, fun h => by cases h⟩
    · rw [if_neg c3, if_neg c3, if_neg hl, if_neg hl]
      by_cases c4 : (layD ⟨R.length, (fileL R (R.length / 8)).length, false⟩ rs d).2.2 ≠ 0
      · rw [if_pos c4, if_pos c4]
        exact ⟨rfl, fun h => absurd h c4⟩
      · rw [if_neg c4, if_neg c4]
        exact ⟨rfl, fun _ => rfl⟩
/-- An append at a disk that is not armed. -/
theorem append_still {lim c : Nat} {d : Dk} {R : List (List UInt8)} {l : Lg} (h : StL lim d R) (hl : LgFor l R) (rs : List ByteArray) (hright : rs.all rightR = true) (hR : ∀ s ∈ R, s.length ≤ c) (hrs : ∀ s ∈ rsL rs, s.length ≤ c) (hlim : 100 * (8 * (36 + c)) + 17000 ≤ lim) (hn : R.length + rs.length ≤ 800) :
    (appendD l rs d).2.2 = 0 ∧ StL lim (appendD l rs d).2.1 (R ++ rsL rs) ∧ LgFor (appendD l rs d).1 (R ++ rsL rs) ∧
      ∀ p, (findK (appendD l rs d).2.1.now p).isSome = true ↔ ((findK d.now p).isSome = true ∨ ∃ j, R.length ≤ j ∧ j < R.length + rs.length ∧ p = nameS (j / 8)) := by
  by_cases h0 : rs = []
  · subst h0
    have e : appendD l [] d = (l, d, 0) := by
      unfold appendD
      rw [if_neg (by rw [hl.dead]; exact Bool.noConfusion), if_neg (by decide), if_neg (by rw [hl.many]; exact Nat.not_lt.2 hn), if_pos (show ([] : List ByteArray).length = 0 from rfl)]
    rw [e]
    refine ⟨rfl, by simpa [rsL] using h, by simpa [rsL] using hl, fun p => ⟨.inl, fun h => ?_⟩⟩
    rcases h with h | ⟨j, h1, h2, _⟩
    · exact h
    · simp at h2
      omega
  · obtain ⟨e1, e2⟩ := append_lg (d := d) hl h0
    obtain ⟨_, _, h3, _⟩ := append_st h rs 0 hR (fun _ => hrs) hlim
    rw [arm_none h.armed] at h3
    obtain ⟨a1, a2, a3, a4, a5, a6⟩ := h3 hright hn (Int.le_refl _)
    have e3 := e2 a1
    rw [e1, e3]
    exact ⟨a1, a4, ⟨by rw [a2, List.length_append]; simp [rsL], a3, a5⟩, a6⟩
/-- Which names there are, rising. -/
theorem names_are {now : Fls} (hr : RisK now) {l : List ByteArray} (hl : (l.map fun p => p.data.toList).Pairwise fun x y => bytesBefore x y = true) (h : ∀ p, (findK now p).isSome = true ↔ p ∈ l) : now.map (·.1) = l := by
  have irr : ∀ x : List UInt8, bytesBefore x x = false := fun x => WideAt.bytes_irrefl x
  have h1 : (now.map (·.1)).Pairwise fun x y => bytesBefore x.data.toList y.data.toList = true := by
    rw [List.pairwise_map]
    exact hr
  have h2 : l.Pairwise fun x y => bytesBefore x.data.toList y.data.toList = true := List.pairwise_map.1 hl
  have nd : ∀ {m : List ByteArray}, (m.Pairwise fun x y => bytesBefore x.data.toList y.data.toList = true) → m.Nodup := fun hm => hm.imp fun {x y} hb e => by
    rw [e, irr] at hb
    cases hb
  refine List.Perm.eq_of_pairwise (le := fun x y => bytesBefore x.data.toList y.data.toList = true) (fun x y _ _ a b => ?_) h1 h2 ((List.perm_ext_iff_of_nodup (nd h1) (nd h2)).2 fun p => ?_)
  · rw [before_ltK, decide_eq_true_eq] at a b
    exact absurd (List.lt_trans a b) (List.lt_irrefl _)
  · rw [mem_keysK]
    exact h p
/-- How many names there are. -/
theorem names_count {now : Fls} (hn : (now.map (·.1)).Nodup) {n : Nat} (h : ∀ p, (findK now p).isSome = true ↔ ∃ j, j < n ∧ p = nameS j) : now.length = n := by
  have h2 : ((List.range n).map nameS).Nodup := by
    refine List.Pairwise.map _ (fun a b (hab : a ≠ b) e => hab (nameS_inj e)) List.nodup_range
  have hp : (now.map (·.1)).Perm ((List.range n).map nameS) := (List.perm_ext_iff_of_nodup hn h2).2 fun p => by
    rw [mem_keysK, h p]
    constructor
    · rintro ⟨j, hj, rfl⟩
      exact List.mem_map.2 ⟨j, List.mem_range.2 hj, rfl⟩
    · intro hm
      obtain ⟨j, hj, rfl⟩ := List.mem_map.1 hm
      exact ⟨j, List.mem_range.1 hj, rfl⟩
  have := hp.length_eq
  simpa using this
/-! ### the chapter's example -/
def sB (l : List UInt8) : ByteArray := ⟨l.toArray⟩
def rA : List ByteArray := [⟨#[97]⟩, ⟨#[98, 99]⟩]
def rB : List ByteArray := [⟨#[51]⟩, ⟨#[52]⟩, ⟨#[53]⟩, ⟨#[54]⟩, ⟨#[55]⟩, ⟨#[56]⟩, ⟨#[57]⟩]
def aD0 : Dk := newD 100000
def aO1 : OpenR := openD aD0
def aA1 : Lg × Dk × Int := appendD (logOf []) rA aO1.d
def aO2 : OpenR := openD aA1.2.1
def aA2 : Lg × Dk × Int := appendD aA1.1 rB aO2.d
theorem awake_plain : aO1.log = some (logOf []) ∧ aO1.out = [] ∧ aO1.err = 0 ∧ StL 100000 aO1.d [] ∧ aA1.2.2 = 0 ∧ StL 100000 aA1.2.1 (rsL rA) ∧ LgFor aA1.1 (rsL rA) ∧ aO2.out = rA ∧ aO2.err = 0 ∧ aO2.log ≠ none ∧ StL 100000 aO2.d (rsL rA) ∧ aA2.2.2 = 0 ∧ aA2.1.many = 9 ∧ StL 100000 aA2.2.1 (rsL rA ++ rsL rB) ∧ ∀ p, (findK aA2.2.1.now p).isSome = true ↔ p ∈ [nameS 0, nameS 1] := by
  obtain ⟨a1, a2, a3, a4, a5⟩ := open_still (new_mid (lim := 100000)) (by decide)
  obtain ⟨b1, b2, b3, b4⟩ := append_still (c := 2) a4 (LgFor.of []) rA (by decide) (fun s hs => by cases hs) (by decide) (by decide) (by decide)
  rw [List.nil_append] at b2 b3
  obtain ⟨c1, c2, c3, c4, c5⟩ := open_still b2.mid (by decide)
  obtain ⟨d1, d2, d3, d4⟩ := append_still (c := 2) c4 b3 rB (by decide) (by decide) (by decide) (by decide) (by decide)
  refine ⟨a1, a2, a3, a4, b1, b2, b3, c2.trans rfl, c3, fun h => (by rw [show aO2.log = _ from c1] at h; cases h), c4, d1, d3.many, d2, fun p => ?_⟩
  have e0 : ¬ (findK (newD 100000).now p).isSome = true := by
    show ¬ (none : Option ByteArray).isSome = true
    decide
  have q1 : (findK aO1.d.now p).isSome = true ↔ False := by
    rw [show (findK aO1.d.now p).isSome = (findK (newD 100000).now p).isSome from a5 p]
    exact ⟨e0, False.elim⟩
  have q2 : (findK aA1.2.1.now p).isSome = true ↔ p = nameS 0 := by
    refine (b4 p).trans ?_
    refine (or_congr q1 Iff.rfl).trans ?_
    rw [false_or]
    constructor
    · rintro ⟨j, h1, h2, rfl⟩
      have h2' : j < 2 := h2
      rw [show j / 8 = 0 by omega]
    · rintro rfl
      exact ⟨0, Nat.le_refl _, (by decide), rfl⟩
  have q3 : (findK aO2.d.now p).isSome = true ↔ p = nameS 0 := by
    rw [show (findK aO2.d.now p).isSome = (findK aA1.2.1.now p).isSome from c5 p]
    exact q2
  refine (d4 p).trans ((or_congr q3 Iff.rfl).trans ?_)
  simp only [List.mem_cons, List.mem_nil_iff, or_false]
  constructor
  · rintro (h | ⟨j, h1, h2, rfl⟩)
    · exact .inl h
    · have h1' : 2 ≤ j := h1
      have h2' : j < 9 := h2
      by_cases h8 : j < 8
      · left
        rw [show j / 8 = 0 by omega]
      · right
        rw [show j / 8 = 1 by omega]
  · rintro (rfl | rfl)
    · exact .inl rfl
    · exact .inr ⟨8, (by decide), (by decide), rfl⟩
end Go.Proofs.YtgglheelhbfgiaaGreatDoor

namespace Go.Proofs.YtgglheelhbfgiaaGreatDoor
open Go Go.RowKit
def oneR : ByteArray := ⟨#[114]⟩
structure FilesSt (n : Nat) (d : Dk) (l : Lg) : Prop where
  st : StL 100000 d (List.replicate n [114])
  lg : LgFor l (List.replicate n [114])
  names : ∀ p, (findK d.now p).isSome = true ↔ ∃ j, j < n ∧ p = nameS (j / 8)
theorem rep_all (j : Nat) : (List.replicate j oneR).all rightR = true := by
  refine List.all_eq_true.2 fun x hx => ?_
  rw [List.eq_of_mem_replicate hx]
  decide
theorem rep_rsL (j : Nat) : rsL (List.replicate j oneR) = List.replicate j [114] := by
  unfold rsL
  rw [List.map_replicate]
  rfl
theorem files_start : FilesSt 0 aO1.d (logOf []) := by
  obtain ⟨a1, a2, a3, a4, a5⟩ := open_still (new_mid (lim := 100000)) (by decide)
  refine ⟨a4, LgFor.of [], fun p => ?_⟩
  rw [show (findK aO1.d.now p).isSome = (findK (newD 100000).now p).isSome from a5 p]
  refine ⟨fun h => ?_, fun ⟨j, h, _⟩ => absurd h (Nat.not_lt_zero j)⟩
  have : (none : Option ByteArray).isSome = true := h
  cases this
theorem files_step {n j : Nat} {d : Dk} {l : Lg} (h : FilesSt n d l) (hn : n + j ≤ 100) : (appendD l (List.replicate j oneR) d).2.2 = 0 ∧ FilesSt (n + j) (appendD l (List.replicate j oneR) d).2.1 (appendD l (List.replicate j oneR) d).1 := by
  have hle : ∀ {m : Nat}, ∀ s ∈ List.replicate m ([114] : List UInt8), s.length ≤ 1 := fun {m} s hs => by
    rw [List.eq_of_mem_replicate hs]
    decide
  obtain ⟨b1, b2, b3, b4⟩ := append_still (c := 1) h.st h.lg (List.replicate j oneR) (rep_all j) hle (by rw [rep_rsL]; exact hle) (by decide) (by rw [List.length_replicate, List.length_replicate]; omega)
  rw [rep_rsL, List.replicate_append_replicate] at b2 b3
  refine ⟨b1, b2, b3, fun p => (b4 p).trans ?_⟩
  rw [h.names p, List.length_replicate, List.length_replicate]
  constructor
  · rintro (⟨i, h1, h2⟩ | ⟨i, h1, h2, h3⟩)
    · exact ⟨i, by omega, h2⟩
    · exact ⟨i, h2, h3⟩
  · rintro ⟨i, h1, h2⟩
    by_cases hi : i < n
    · exact .inl ⟨i, hi, h2⟩
    · exact .inr ⟨i, by omega, h1, h2⟩
theorem files_end {n : Nat} {d : Dk} {l : Lg} (h : FilesSt n d l) : (openD d).err = 0 ∧ (openD d).out.length = n ∧ (openD d).log ≠ none ∧ (openD d).d.now.length = (n + 7) / 8 := by
  obtain ⟨a1, a2, a3, a4, a5⟩ := open_still h.st.mid (by decide)
  refine ⟨a3, by rw [a2, List.length_map, List.length_replicate], fun hh => (by rw [a1] at hh; cases hh), names_count a4.names.nodup fun p => ?_⟩
  rw [a5 p, h.names p]
  constructor
  · rintro ⟨j, h1, h2⟩
    exact ⟨j / 8, by omega, h2⟩
  · rintro ⟨i, h1, h2⟩
    exact ⟨8 * i, by omega, by rw [Nat.mul_div_cancel_left i (by decide)]; exact h2⟩
end Go.Proofs.YtgglheelhbfgiaaGreatDoor

namespace Go.Proofs.YtgglheelhbfgiaaGreatDoor
open Go Go.RowKit
/-! ### bounds -/
structure BndD (n : Nat) (d : Dk) : Prop where
  now : d.now.length ≤ n
  firm : d.firm.length ≤ n
  acts : d.acts.length ≤ n
theorem BndD.le {n m : Nat} {d : Dk} (h : BndD n d) (hn : n ≤ m) : BndD m d := ⟨Nat.le_trans h.now hn, Nat.le_trans h.firm hn, Nat.le_trans h.acts hn⟩
theorem BndD.arm {n : Nat} {d : Dk} (h : BndD n d) (k : Int) : BndD n (armD d k) := ⟨h.now, h.firm, h.acts⟩
theorem BndD.dies {n : Nat} {d : Dk} (h : BndD n d) : BndD n (diesD d) := by
  unfold diesD
  split
  · exact ⟨h.now, h.firm, h.acts⟩
  · exact h
theorem BndD.does {n : Nat} {d : Dk} (h : BndD n d) (a : ActD) : BndD (n + 1) (doesD d a).1 := by
  have h1 : BndD (n + 1) { d with acts := d.acts ++ [a] } := ⟨Nat.le_succ_of_le h.now, Nat.le_succ_of_le h.firm, by show (d.acts ++ [a]).length ≤ _; rw [List.length_append]; exact Nat.succ_le_succ h.acts⟩
  unfold doesD
  split
  · exact h1.dies
  · exact ⟨Nat.le_trans (doD_len d.now a false) (Nat.succ_le_succ h.now), h1.dies.firm, h1.dies.acts⟩
theorem BndD.write {n : Nat} {d : Dk} (h : BndD n d) (p : ByteArray) (k : Int) (x : ByteArray) : BndD (n + 1) (writeD d p k x).1 := by
  unfold writeD
  split
  · exact h.le (Nat.le_succ n)
  · split
    · exact h.le (Nat.le_succ n)
    · exact h.does _
theorem BndD.cut {n : Nat} {d : Dk} (h : BndD n d) (p : ByteArray) (k : Int) : BndD (n + 1) (cutD d p k).1 := by
  unfold cutD
  split
  · exact h.le (Nat.le_succ n)
  · split
    · exact h.le (Nat.le_succ n)
    · exact h.does _
theorem BndD.sync {n : Nat} {d : Dk} (h : BndD n d) : BndD n (syncD d).1 := by
  unfold syncD
  split
  · exact h
  · split
    · exact h.dies
    · exact ⟨h.dies.now, h.now, Nat.zero_le _⟩
theorem BndD.lays {many : Nat} : ∀ (rs : List ByteArray) (i : Nat) (k : Int) (d : Dk) (n : Nat), BndD n d → BndD (n + rs.length) (layG many i k rs d).1
  | [], _, _, _, _, h => h
  | s :: r, i, k, d, n, h => by
    have h1 := h.write (nameS ((many + i) / 8)) (if (many + i) % 8 = 0 then 0 else k) (frameB (many + i) s)
    by_cases hq : (writeD d (nameS ((many + i) / 8)) (if (many + i) % 8 = 0 then 0 else k) (frameB (many + i) s)).2 = 0
    · rw [layG, if_neg (fun e => e hq)]
      exact (BndD.lays r _ _ _ _ h1).le (show n + 1 + r.length ≤ n + (r.length + 1) by omega)
    · rw [layG, if_pos hq]
      exact h1.le (show n + 1 ≤ n + (r.length + 1) by omega)
theorem BndD.append {n : Nat} {d : Dk} (h : BndD n d) (l : Lg) (rs : List ByteArray) : BndD (n + rs.length) (appendD l rs d).2.1 := by
  have h1 := BndD.lays (many := l.many) rs 0 l.fin d n h
  have h0 : BndD (n + rs.length) d := h.le (Nat.le_add_right _ _)
  have h2 : BndD (n + rs.length) (layD l rs d).1 := by
    unfold layD
    split
    · exact h1
    · exact h1.sync
  unfold appendD
  split
  · exact h0
  · split
    · exact h0
    · split
      · exact h0
      · split
        · exact h0
        · split
          · exact h2
          · exact h2
theorem BndD.cuts {E : Ends} : ∀ (ps : List ByteArray) (d : Dk) (n : Nat), BndD n d → BndD (n + ps.length) (cutsD E ps d).1
  | [], _, _, h => h
  | p :: r, d, n, h => by
    rw [cutsD]
    have h1 := h.cut p (endOf E p)
    split
    · split
      · exact h1.le (show n + 1 ≤ n + (r.length + 1) by omega)
      · exact (BndD.cuts r _ _ h1).le (show n + 1 + r.length ≤ n + (r.length + 1) by omega)
    · exact (BndD.cuts r _ _ h).le (show n + r.length ≤ n + (r.length + 1) by omega)
theorem BndD.opened {n : Nat} {d : Dk} (h : BndD n d) : BndD (n + n) (openD d).d := by
  have hl : (namesD d).length ≤ n := by
    unfold namesD
    rw [List.length_map]
    exact h.now
  have h1 := (BndD.cuts (E := (scanG d.now 800 [] []).2) (namesD d) d n h).le (Nat.add_le_add_left hl n)
  unfold openD
  split
  · exact h.le (Nat.le_add_right _ _)
  · split
    · exact h1
    · split
      · exact h1.sync
      · exact h1.sync
theorem StL.bnd {lim : Nat} {d : Dk} {R : List (List UInt8)} (h : StL lim d R) : BndD 100 d := ⟨names_len h.names, by rw [h.firm]; exact names_len h.names, by rw [h.acts]; exact Nat.zero_le _⟩
theorem MidL.bnd {lim : Nat} {d : Dk} {R : List (List UInt8)} (h : MidL lim d R) : BndD 100 d := ⟨names_len h.names, by rw [h.firm]; exact names_len h.names, by rw [h.acts]; exact Nat.zero_le _⟩
/-! ### the round -/
theorem back_B (rs : List ByteArray) : (rsL rs).map mkB = rs := by
  unfold rsL
  rw [List.map_map]
  refine (List.map_congr_left fun x _ => ?_).trans (List.map_id rs)
  show mkB x.data.toList = x
  exact mkB_of x
/-- What is known behind the crash of a round. -/
structure RoundL (R : List (List UInt8)) (p : List ByteArray) (cut : Int) (e : Int) (d : Dk) (Q : List (List UInt8)) : Prop where
  wrong : p.all rightR = false → e = 1
  fine : p.all rightR = true → e = 0 ∨ (e = 42 ∧ 0 < cut) ∨ (e = 40 ∧ 800 < R.length + p.length)
  mid : MidL 4194304 d Q
  has : (if e = 0 then R.map mkB ++ p else R.map mkB) <+: Q.map mkB
  within : Q.map mkB <+: (if p.all rightR = true ∧ e ≠ 40 then R.map mkB ++ p else R.map mkB)
theorem round_append {d : Dk} {R : List (List UInt8)} (h : StL 4194304 d R) (p : List ByteArray) (cut keep : Int) (torn : Bool) : ∃ Q, RoundL R p cut (appendD (logOf R) p (armD d cut)).2.2 (crashD (appendD (logOf R) p (armD d cut)).2.1 keep torn) Q := by
  have hR : ∀ s ∈ R, s.length ≤ 2000 := fun s hs => by
    have := h.clean.right s hs
    unfold recOk at this
    simp only [Bool.and_eq_true, decide_eq_true_eq] at this
    exact this.2
  have hp : p.all rightR = true → ∀ s ∈ rsL p, s.length ≤ 2000 := fun ha s hs => by
    have := rightR_eq p ha s hs
    unfold recOk at this
    simp only [Bool.and_eq_true, decide_eq_true_eq] at this
    exact this.2
  obtain ⟨a1, a2, _, a4⟩ := append_st h p cut hR hp (by decide)
  obtain ⟨j, b1, b2, b3, b4⟩ := a4 keep torn
  refine ⟨R ++ (rsL p).take j, a1, a2, b1, ?_, ?_⟩
  · split
    · rename_i e0
      rw [b2 e0, List.map_append, back_B]
      exact List.prefix_refl _
    · rw [List.map_append]
      exact List.prefix_append _ _
  · split
    · rw [List.map_append]
      refine (List.prefix_append_right_inj _).2 ?_
      have e : (rsL p).take j = rsL (p.take j) := (List.map_take ..).symm
      rw [e, back_B]
      exact List.take_prefix _ _
    · rename_i hn
      have : (rsL p).take j = [] := by
        cases hr : p.all rightR with
        | false => exact b3 hr
        | true =>
          refine b4 ?_
          rcases Decidable.em ((appendD (logOf R) p (armD d cut)).2.2 = 40) with h40 | h40
          · exact h40
          · exact absurd ⟨hr, h40⟩ hn
      rw [this, List.append_nil]
      exact List.prefix_refl _
/-- The openings of a round. -/
theorem round_open {d : Dk} {Q : List (List UInt8)} (h : MidL 4194304 d Q) (cut keep : Int) (torn : Bool) :
    ((openD (armD d cut)).log = none ∧ (openD (armD d cut)).out = [] ∧ (openD (armD d cut)).err = 42 ∧ (openD (crashD (openD (armD d cut)).d keep torn)).log = some (logOf Q) ∧ (openD (crashD (openD (armD d cut)).d keep torn)).out = Q.map mkB ∧ (openD (crashD (openD (armD d cut)).d keep torn)).err = 0 ∧ StL 4194304 (openD (crashD (openD (armD d cut)).d keep torn)).d Q ∧ MidL 4194304 (crashD (openD (armD d cut)).d keep torn) Q) ∨
    ((openD (armD d cut)).log = some (logOf Q) ∧ (openD (armD d cut)).out = Q.map mkB ∧ (openD (armD d cut)).err = 0 ∧ StL 4194304 (armD (openD (armD d cut)).d 0) Q) := by
  rcases open_mid h (by decide) cut with ⟨a1, a2, a3, _, a5⟩ | ⟨a1, a2, a3, a4, _⟩
  · obtain ⟨b1, b2, b3, b4, _⟩ := open_still (a5 keep torn) (by decide)
    exact .inl ⟨a1, a2, a3, b1, b2, b3, b4, a5 keep torn⟩
  · exact .inr ⟨a1, a2, a3, a4⟩
theorem StL.arm0 {lim : Nat} {d : Dk} {R : List (List UInt8)} (h : StL lim d R) : StL lim (armD d 0) R := by
  rw [arm_none h.armed]
  exact h
end Go.Proofs.YtgglheelhbfgiaaGreatDoor

