/-
  A frame: below B nothing has turned but the blocks of S. Of no program. Several cells of one block, written one behind the other. Of no program. Messages as bytes: the plain law. session.all: there are no more than so many, and each is so. session.right: which messages may be. session.laid: things as bytes, how many they are ahead. session.Encode: a message as bytes.
-/
import Derived.Test.YtlenpifjkbcmdaaGreatDoorStructs
import Derived.Test.YtlenpifjkbcmdaaGreatDoorCells
import Derived.Test.YtlenpifjkbcmdaaGreatDoorOpsBack
import Derived.Test.YtlenpifjkbcmdaaGreatDoorNums
import Derived.Test.YtlenpifjkbcmdaaGreatDoorOpsW5
import Derived.Test.YtlenpifjkbcmdaaGreatDoorOpsW6
import Derived.Lib.QuietBelow
namespace Go.Proofs.YtlenpifjkbcmdaaGreatDoor
open Go Go.RowKit

structure Turned (S : Nat → Prop) (B : Nat) (W W' : World) : Prop where
  os : W'.os = W.os
  tape : W'.tape = W.tape
  output : W'.output = W.output
  size : W.heap.size ≤ W'.heap.size
  block : ∀ k, k < B → ¬ S k → W'.heap[k]? = W.heap[k]?
theorem Turned.refl (S : Nat → Prop) (B : Nat) (W : World) : Turned S B W W := ⟨rfl, rfl, rfl, Nat.le_refl _, fun _ _ _ => rfl⟩
theorem Turned.trans {S : Nat → Prop} {B : Nat} {W W1 W2 : World} (h1 : Turned S B W W1) (h2 : Turned S B W1 W2) : Turned S B W W2 :=
  ⟨h2.os.trans h1.os, h2.tape.trans h1.tape, h2.output.trans h1.output, Nat.le_trans h1.size h2.size, fun k hk hs => (h2.block k hk hs).trans (h1.block k hk hs)⟩
theorem Turned.of_below {S : Nat → Prop} {B B' : Nat} {W W' : World} (h : Below B' W W') (hB : B ≤ B') : Turned S B W W' :=
  ⟨h.os, h.tape, h.output, h.size, fun k hk _ => h.block k (Nat.lt_of_lt_of_le hk hB)⟩
theorem Turned.of_grown {S : Nat → Prop} {B : Nat} {W W' : World} {row : Option Nat} (h : W.grownBy W' row) (hB : B ≤ W.heap.size) (hS : ∀ k, row = some k → k < B → S k) : Turned S B W W' :=
  ⟨h.os, h.tape, h.output, h.size, fun k hk hs => h.block k (Nat.lt_of_lt_of_le hk hB) (fun e => hs (hS k e.symm hk))⟩
theorem Turned.mono {S S' : Nat → Prop} {B B' : Nat} {W W' : World} (h : Turned S B W W') (hB : B' ≤ B) (hS : ∀ k, k < B' → S k → S' k) : Turned S' B' W W' :=
  ⟨h.os, h.tape, h.output, h.size, fun k hk hs => h.block k (Nat.lt_of_lt_of_le hk hB) (fun e => hs (hS k hk e))⟩
theorem Turned.below {S : Nat → Prop} {B B' : Nat} {W W' : World} (h : Turned S B W W') (hB : B' ≤ B) (hS : ∀ k, k < B' → ¬ S k) : Below B' W W' :=
  ⟨h.os, h.tape, h.output, h.size, fun k hk => h.block k (Nat.lt_of_lt_of_le hk hB) (hS k hk)⟩
theorem Turned.set {S : Nat → Prop} {B b : Nat} {W W' : World} (h : Turned S B W W') (i : Nat) (v : Value) (hb : b < B → S b) : Turned S B W (W'.setCell ⟨b, i, none⟩ v) :=
  ⟨h.os, h.tape, h.output, by simpa using h.size, fun k hk hs => by
    rw [Below.heap_setCell W' ⟨b, i, none⟩ v k (fun e => hs (by
      have e2 : k = b := e
      rw [e2]
      exact hb (by rw [← e2]; exact hk)))]
    exact h.block k hk hs⟩
theorem Turned.alloc {S : Nat → Prop} {B : Nat} {W W' : World} (h : Turned S B W W') (hB : B ≤ W'.heap.size) (o : Obj) : Turned S B W (W'.alloc o) :=
  h.trans (Turned.of_below ((Below.refl W'.heap.size W').alloc (Nat.le_refl _) o) hB)
theorem Turned.drewN {S : Nat → Prop} {B : Nat} {W W' : World} (h : Turned S B W W') (n : Nat) : Turned S B W (W'.drewN n) :=
  ⟨h.os, h.tape, h.output, h.size, h.block⟩
theorem OwnRows.turned {α : Type} {L : Lay α} {W W' : World} {S : Nat → Prop} {base : Nat} {e : TypeId} {v : Value} {xs : List α} (h : OwnRows L W base e v xs) (ht : Turned S W.heap.size W W') (hS : ∀ k, S k → k < base) : OwnRows L W' base e v xs := by
  refine ⟨h.1, ?_⟩
  rcases h.2 with hn | ⟨g, cap, cur, rfl, hg, hgg, rest⟩
  · exact .inl hn
  · refine .inr ⟨g, cap, cur, rfl, hg, ?_, rest⟩
    rw [ht.block g (Array.getElem?_eq_some_iff.1 hgg).1 (fun hs => by have := hS g hs; omega)]
    exact hgg
theorem RowsAt.turned {α : Type} {L : Lay α} {W W' : World} {S : Nat → Prop} {B : Nat} {a : Option Addr} {xs : List α} (h : RowsAt L W a xs) (ht : Turned S B W W') (hB : ∀ ad, a = some ad → ad.block < B ∧ ¬ S ad.block) : RowsAt L W' a xs := by
  intro j x hj
  obtain ⟨b, off, rfl, hlt, hc⟩ := h j x hj
  obtain ⟨h1, h2⟩ := hB _ rfl
  refine ⟨b, off, rfl, Nat.lt_of_lt_of_le hlt ht.size, fun f v hf => ?_⟩
  have e : W'.cell? ⟨b, off + j * L.sz + f, none⟩ = W.cell? ⟨b, off + j * L.sz + f, none⟩ := World.cell?_of_block (ht.block b h1 h2)
  rw [e]
  exact hc f v hf
end Go.Proofs.YtlenpifjkbcmdaaGreatDoor

namespace Go.Proofs.YtlenpifjkbcmdaaGreatDoor
open Go Go.RowKit

def putRow (W : World) (b : Nat) : Nat → List Value → World
  | _, [] => W
  | i, v :: vs => putRow (W.setCell ⟨b, i, none⟩ v) b (i + 1) vs
theorem putRow_block {b k : Nat} (h : k ≠ b) : ∀ (vs : List Value) (i : Nat) (W : World), (putRow W b i vs).heap[k]? = W.heap[k]?
  | [], _, _ => rfl
  | v :: vs, i, W => (putRow_block h vs (i + 1) _).trans (heap_other W v h)
theorem putRow_size {b : Nat} : ∀ (vs : List Value) (i : Nat) (W : World), (putRow W b i vs).heap.size = W.heap.size
  | [], _, _ => rfl
  | v :: vs, i, W => (putRow_size vs (i + 1) _).trans (by simp)
theorem VarAt.putFrom {b : Nat} : ∀ (vs : List Value) (i : Nat) (W : World) (cs : List Value), VarAt W b cs → cs.length = i + vs.length → VarAt (putRow W b i vs) b (cs.take i ++ vs)
  | [], i, W, cs, h, hl => by
    rw [List.append_nil, List.take_of_length_le (by simp at hl; omega)]
    exact h
  | v :: vs, i, W, cs, h, hl => by
    have hi : i < cs.length := by simp at hl; omega
    have := VarAt.putFrom vs (i + 1) _ _ (h.set i v hi) (by simp at hl ⊢; omega)
    rw [List.take_succ_eq_append_getElem (by simpa using hi), List.getElem_set_self, List.take_set_of_le (Nat.le_refl _), List.append_assoc] at this
    exact this
theorem VarAt.put {b : Nat} {W : World} {cs : List Value} (h : VarAt W b cs) (vs : List Value) (hl : cs.length = vs.length) : VarAt (putRow W b 0 vs) b vs := by
  have := VarAt.putFrom vs 0 W cs h (by omega)
  simpa using this
theorem VarAt.putOther {b k : Nat} {W : World} {cs : List Value} (h : VarAt W k cs) (vs : List Value) (i : Nat) (hne : k ≠ b) : VarAt (putRow W b i vs) k cs :=
  h.same (putRow_block hne vs i W) (Nat.le_of_eq (putRow_size vs i W).symm)
theorem Turned.put {S : Nat → Prop} {B b : Nat} {W W' : World} (h : Turned S B W W') (vs : List Value) (i : Nat) (hb : b < B → S b) : Turned S B W (putRow W' b i vs) := by
  induction vs generalizing W' i with
  | nil => exact h
  | cons v vs ih => exact ih (h.set i v hb) (i + 1)
theorem belowPut {B b : Nat} {W W' : World} (h : Below B W W') (vs : List Value) (i : Nat) (hb : B ≤ b) : Below B W (putRow W' b i vs) := by
  induction vs generalizing W' i with
  | nil => exact h
  | cons v vs ih => exact ih (h.setCell (p := ⟨b, i, none⟩) hb v) (i + 1)
end Go.Proofs.YtlenpifjkbcmdaaGreatDoor

namespace Go.Proofs.YtlenpifjkbcmdaaGreatDoor
open Go Go.RowKit Go.Lib

structure Msg where
  kind : Int
  vec : List Int
  wants : List ByteArray
  ops : List Opr
  pcs : List ByteArray
def noMsg : Msg := ⟨0, [], [], [], []⟩
def numOk (n : Int) : Bool := decide (0 ≤ n) && decide (n ≤ 1099511627776)
def keyOk (s : ByteArray) : Bool := s.size == 32
def opOk (x : Opr) : Bool := rightO x == 0
def pieceOk (s : ByteArray) : Bool := decide (1 ≤ s.size) && decide (s.size ≤ 256)
def kindM (m : Msg) : Bool := decide (1 ≤ m.kind) && decide (m.kind ≤ 3) && (m.kind == 1 || (m.vec.isEmpty && m.wants.isEmpty)) && (m.kind == 2 || m.ops.isEmpty) && (m.kind == 3 || m.pcs.isEmpty)
def allB {α : Type} (l : List α) (most : Nat) (p : α → Bool) : Bool := decide (l.length ≤ most) && l.all p
def rightM (m : Msg) : Bool := kindM m && allB m.vec 15 numOk && allB m.wants 16 keyOk && allB m.ops 20 opOk && allB m.pcs 16 pieceOk
def flatB {α : Type} (f : α → List UInt8) (l : List α) : List UInt8 := numL (l.length : Int) ++ l.flatMap f
def strL (s : ByteArray) : List UInt8 := textL s.data.toList
def oprL (x : Opr) : List UInt8 := textL (encL x)
def encM (m : Msg) : List UInt8 :=
  numL m.kind ++ (if m.kind = 1 then flatB numL m.vec ++ flatB strL m.wants else if m.kind = 2 then flatB oprL m.ops else flatB strL m.pcs)

def takeN {α : Type} (f : Rd → α × Rd) : Nat → Rd → List α × Rd
  | 0, r => ([], r)
  | n + 1, r => ((f r).1 :: (takeN f n (f r).2).1, (takeN f n (f r).2).2)
def manyR (r : Rd) (most : Int) : Nat × Rd :=
  if r.num.2.err ≠ 0 then (0, r.num.2) else if r.num.1 < 0 ∨ most < r.num.1 then (0, ⟨11, []⟩) else (r.num.1.toNat, r.num.2)
def listR {α : Type} (f : Rd → α × Rd) (r : Rd) (most : Int) : List α × Rd := takeN f (manyR r most).1 (manyR r most).2
def Rd.str (r : Rd) : ByteArray × Rd := (⟨r.text.1.toArray⟩, r.text.2)
def kindR (l : List UInt8) : Rd := if (Rd.num ⟨0, l⟩).2.err = 0 ∧ ((Rd.num ⟨0, l⟩).1 < 1 ∨ 3 < (Rd.num ⟨0, l⟩).1) then ⟨11, []⟩ else (Rd.num ⟨0, l⟩).2
def readM (l : List UInt8) : Msg × Bool × Rd :=
  let k := (Rd.num ⟨0, l⟩).1
  if k = 1 then
    let v := listR Rd.num (kindR l) 15
    let s := listR Rd.str v.2 16
    (⟨1, v.1, s.1, [], []⟩, false, s.2)
  else if k = 2 then
    let s := listR Rd.str (kindR l) 20
    (⟨2, [], [], s.1.map fun t => (decO t.data.toList).1, []⟩, s.1.any fun t => (decO t.data.toList).2 != 0, s.2)
  else if k = 3 then
    let s := listR Rd.str (kindR l) 16
    (⟨3, [], [], [], s.1⟩, false, s.2)
  else (⟨k, [], [], [], []⟩, false, kindR l)
def decM (l : List UInt8) : Msg × Int :=
  if (readM l).2.2.fin ≠ 0 then (noMsg, (readM l).2.2.fin) else if (readM l).2.1 = true ∨ rightM (readM l).1 = false then (noMsg, 11) else ((readM l).1, 0)

theorem num_err {r : Rd} (h : r.err ≠ 0) : r.num = (0, r) := by
  unfold Rd.num
  rw [raw_err h]
  rfl
theorem text_err {r : Rd} (h : r.err ≠ 0) : r.text = ([], r) := by
  unfold Rd.text
  rw [raw_err h, if_pos h]
theorem str_err {r : Rd} (h : r.err ≠ 0) : r.str.2 = r := by
  unfold Rd.str
  rw [text_err h]
theorem takeN_err {α : Type} {f : Rd → α × Rd} (hf : ∀ r : Rd, r.err ≠ 0 → (f r).2 = r) (n : Nat) {r : Rd} (h : r.err ≠ 0) : (takeN f n r).2 = r := by
  induction n generalizing r with
  | zero => rfl
  | succ n ih =>
    simp only [takeN]
    rw [hf r h]
    exact ih h
theorem takeN_len {α : Type} (f : Rd → α × Rd) (n : Nat) (r : Rd) : (takeN f n r).1.length = n := by
  induction n generalizing r with
  | zero => rfl
  | succ n ih => simp only [takeN, List.length_cons, ih]
/-- One more is read. -/
theorem takeN_succ {α : Type} (f : Rd → α × Rd) (n : Nat) (r : Rd) : takeN f (n + 1) r = ((takeN f n r).1 ++ [(f (takeN f n r).2).1], (f (takeN f n r).2).2) := by
  induction n generalizing r with
  | zero => rfl
  | succ n ih =>
    have e : takeN f (n + 1 + 1) r = ((f r).1 :: (takeN f (n + 1) (f r).2).1, (takeN f (n + 1) (f r).2).2) := rfl
    rw [e, ih (f r).2]
    rfl
theorem takeN_flat {α : Type} {f : Rd → α × Rd} {g : α → List UInt8} {l : List α} (h : ∀ x ∈ l, ∀ rest, f ⟨0, g x ++ rest⟩ = (x, ⟨0, rest⟩)) (rest : List UInt8) : takeN f l.length ⟨0, l.flatMap g ++ rest⟩ = (l, ⟨0, rest⟩) := by
  induction l with
  | nil => rfl
  | cons x l ih =>
    have e : (x :: l).flatMap g ++ rest = g x ++ (l.flatMap g ++ rest) := by simp
    rw [e]
    simp only [List.length_cons, takeN]
    rw [h x List.mem_cons_self, ih (fun y hy => h y (List.mem_cons_of_mem _ hy))]
theorem takeN_back {α : Type} {f : Rd → α × Rd} {g : α → List UInt8} (h : ∀ (r : Rd), (f r).2.err = 0 → r.err = 0 ∧ r.rest = g (f r).1 ++ (f r).2.rest) (n : Nat) {r : Rd} (he : (takeN f n r).2.err = 0) : r.err = 0 ∧ r.rest = (takeN f n r).1.flatMap g ++ (takeN f n r).2.rest := by
  induction n generalizing r with
  | zero => exact ⟨he, by simp [takeN]⟩
  | succ n ih =>
    simp only [takeN] at he ⊢
    obtain ⟨h1, h2⟩ := ih he
    obtain ⟨h3, h4⟩ := h r h1
    refine ⟨h3, ?_⟩
    rw [h4, h2]
    simp
theorem numL_nat {n : Nat} (h : n < 18446744073709551616) : numL (n : Int) = natL n := by
  unfold numL
  rw [u64_nat h]
theorem many_flat {n : Nat} {most : Int} (h : (n : Int) ≤ most) (hm : most ≤ 1000) (rest : List UInt8) : manyR ⟨0, numL (n : Int) ++ rest⟩ most = (n, ⟨0, rest⟩) := by
  unfold manyR
  rw [num_numL (by omega) (by omega)]
  simp only [ne_eq, not_true, if_false]
  rw [if_neg (by omega)]
  rfl
theorem list_flat {α : Type} {f : Rd → α × Rd} {g : α → List UInt8} {l : List α} {most : Int} (hm : most ≤ 1000) (hl : (l.length : Int) ≤ most) (h : ∀ x ∈ l, ∀ rest, f ⟨0, g x ++ rest⟩ = (x, ⟨0, rest⟩)) (rest : List UInt8) : listR f ⟨0, flatB g l ++ rest⟩ most = (l, ⟨0, rest⟩) := by
  unfold listR flatB
  rw [List.append_assoc, many_flat hl hm]
  exact takeN_flat h rest
theorem many_err {r : Rd} {most : Int} (h : r.err ≠ 0) : manyR r most = (0, r) := by
  unfold manyR
  rw [num_err h, if_pos h]
theorem many_back {r : Rd} {most : Int} (h : (manyR r most).2.err = 0) : r.err = 0 ∧ r.rest = numL ((manyR r most).1 : Int) ++ (manyR r most).2.rest := by
  have key : manyR r most = (r.num.1.toNat, r.num.2) ∧ r.num.2.err = 0 ∧ 0 ≤ r.num.1 := by
    unfold manyR at h ⊢
    split at h
    · rename_i h1
      exact absurd h h1
    · rename_i h1
      have h1' : r.num.2.err = 0 := Decidable.not_not.1 h1
      split at h
      · cases h
      · rename_i h2
        rw [if_neg h1, if_neg h2]
        exact ⟨rfl, h1', by omega⟩
  obtain ⟨k1, k2, k3⟩ := key
  rw [k1]
  obtain ⟨b1, b2⟩ := num_back (r := r) (a := r.num.1) (r' := r.num.2) rfl k2
  refine ⟨b1, ?_⟩
  rw [b2]
  show _ = numL ((r.num.1.toNat : Nat) : Int) ++ _
  rw [Int.toNat_of_nonneg k3]
theorem list_err {α : Type} {f : Rd → α × Rd} {r : Rd} {most : Int} (h : r.err ≠ 0) : listR f r most = ([], r) := by
  unfold listR
  rw [many_err h]
  rfl
theorem list_back {α : Type} {f : Rd → α × Rd} {g : α → List UInt8} {r : Rd} {most : Int} (hg : ∀ (r : Rd), (f r).2.err = 0 → r.err = 0 ∧ r.rest = g (f r).1 ++ (f r).2.rest) (h : (listR f r most).2.err = 0) :
    r.err = 0 ∧ r.rest = flatB g (listR f r most).1 ++ (listR f r most).2.rest := by
  unfold listR at h ⊢
  obtain ⟨h1, h2⟩ := takeN_back hg _ h
  obtain ⟨h3, h4⟩ := many_back h1
  refine ⟨h3, ?_⟩
  rw [h4, h2]
  unfold flatB
  rw [takeN_len, List.append_assoc]
theorem num_g (r : Rd) (h : r.num.2.err = 0) : r.err = 0 ∧ r.rest = numL r.num.1 ++ r.num.2.rest := num_back rfl h
theorem str_g (r : Rd) (h : r.str.2.err = 0) : r.err = 0 ∧ r.rest = strL r.str.1 ++ r.str.2.rest := by
  have := text_back (r := r) (s := r.text.1) (r' := r.text.2) rfl h
  exact this
theorem str_strL {s : ByteArray} (hs : s.size ≤ 100000) (rest : List UInt8) : Rd.str ⟨0, strL s ++ rest⟩ = (s, ⟨0, rest⟩) := by
  unfold Rd.str strL
  rw [text_textL (by rw [← size_eq]; omega)]
theorem kind_flat {k : Int} (h1 : 1 ≤ k) (h2 : k ≤ 3) (rest : List UInt8) : (Rd.num ⟨0, numL k ++ rest⟩).1 = k ∧ kindR (numL k ++ rest) = ⟨0, rest⟩ := by
  have e := num_numL (n := k) (by omega) (by omega) rest
  unfold kindR
  rw [e]
  exact ⟨rfl, if_neg (by omega)⟩
theorem kind_back {l : List UInt8} (h : (kindR l).err = 0) : l = numL (Rd.num ⟨0, l⟩).1 ++ (kindR l).rest ∧ 1 ≤ (Rd.num ⟨0, l⟩).1 ∧ (Rd.num ⟨0, l⟩).1 ≤ 3 := by
  unfold kindR at h ⊢
  split at h
  · cases h
  · rename_i h1
    rw [if_neg h1]
    obtain ⟨_, b2⟩ := num_g ⟨0, l⟩ h
    exact ⟨b2, by omega⟩
theorem fin_zero {rest : List UInt8} : Rd.fin ⟨0, rest⟩ = if rest ≠ [] then 12 else 0 := rfl
def encBA (x : Opr) : ByteArray := ⟨(encL x).toArray⟩
theorem encBA_list (x : Opr) : (encBA x).data.toList = encL x := rfl
theorem flat_oprs (l : List Opr) : flatB oprL l = flatB strL (l.map encBA) := by
  unfold flatB
  rw [List.length_map, List.flatMap_map]
  rfl
theorem textL_le {s : List UInt8} (h : s.length < 18446744073709551616) : (textL s).length ≤ 9 + s.length := by
  unfold textL
  rw [← numL_nat h, List.length_append]
  have := numL_len (s.length : Int)
  omega
theorem encL_len {x : Opr} (hn : x.name.size ≤ 10000) (hm : x.man.size ≤ 10000) : (encL x).length ≤ 99 + x.name.size + x.man.size := by
  unfold encL
  rw [List.length_append, List.length_append]
  have h1 := flatN_len (numsO x)
  have h2 := textL_le (s := x.name.data.toList) (by rw [← size_eq]; omega)
  have h3 := textL_le (s := x.man.data.toList) (by rw [← size_eq]; omega)
  rw [← size_eq] at h2 h3
  have : (numsO x).length = 9 := rfl
  omega
theorem encBA_size {x : Opr} (hn : x.name.size ≤ 10000) (hm : x.man.size ≤ 10000) : (encBA x).size ≤ 100000 := by
  rw [size_eq, encBA_list]
  have := encL_len hn hm
  omega
theorem allB_iff {α : Type} {l : List α} {n : Nat} {p : α → Bool} : allB l n p = true ↔ l.length ≤ n ∧ ∀ x ∈ l, p x = true := by
  simp [allB]
theorem rightM_iff {m : Msg} : rightM m = true ↔ kindM m = true ∧ (m.vec.length ≤ 15 ∧ ∀ x ∈ m.vec, numOk x = true) ∧ (m.wants.length ≤ 16 ∧ ∀ x ∈ m.wants, keyOk x = true) ∧ (m.ops.length ≤ 20 ∧ ∀ x ∈ m.ops, opOk x = true) ∧ m.pcs.length ≤ 16 ∧ ∀ x ∈ m.pcs, pieceOk x = true := by
  unfold rightM
  rw [Bool.and_eq_true, Bool.and_eq_true, Bool.and_eq_true, Bool.and_eq_true, allB_iff, allB_iff, allB_iff, allB_iff]
  constructor
  · rintro ⟨⟨⟨⟨a, b⟩, c⟩, d⟩, e⟩; exact ⟨a, b, c, d, e⟩
  · rintro ⟨a, b, c, d, e⟩; exact ⟨⟨⟨⟨a, b⟩, c⟩, d⟩, e⟩
theorem kindM_iff {m : Msg} : kindM m = true ↔ 1 ≤ m.kind ∧ m.kind ≤ 3 ∧ (m.kind ≠ 1 → m.vec = [] ∧ m.wants = []) ∧ (m.kind ≠ 2 → m.ops = []) ∧ (m.kind ≠ 3 → m.pcs = []) := by
  simp only [kindM, Bool.and_eq_true, Bool.or_eq_true, decide_eq_true_eq, beq_iff_eq, List.isEmpty_iff]
  constructor
  · rintro ⟨⟨⟨⟨a, b⟩, c⟩, d⟩, e⟩
    exact ⟨a, b, fun h => c.resolve_left h, fun h => d.resolve_left h, fun h => e.resolve_left h⟩
  · rintro ⟨a, b, c, d, e⟩
    refine ⟨⟨⟨⟨a, b⟩, ?_⟩, ?_⟩, ?_⟩
    · by_cases h : m.kind = 1
      · exact .inl h
      · exact .inr (c h)
    · by_cases h : m.kind = 2
      · exact .inl h
      · exact .inr (d h)
    · by_cases h : m.kind = 3
      · exact .inl h
      · exact .inr (e h)
theorem str_small {s : ByteArray} (h : s.size ≤ 100000) (rest : List UInt8) : Rd.str ⟨0, strL s ++ rest⟩ = (s, ⟨0, rest⟩) := str_strL h rest
theorem read_encM {m : Msg} (hr : rightM m = true) (ho : ∀ x ∈ m.ops, x.name.size ≤ 10000 ∧ x.man.size ≤ 10000) : readM (encM m) = (m, false, ⟨0, []⟩) := by
  obtain ⟨hk, ⟨v1, v2⟩, ⟨w1, w2⟩, ⟨o1, o2⟩, p1, p2⟩ := rightM_iff.1 hr
  obtain ⟨k1, k2, k3, k4, k5⟩ := kindM_iff.1 hk
  obtain ⟨kind, vec, wants, ops, pcs⟩ := m
  simp only at *
  have hkind := fun rest => kind_flat k1 k2 rest
  unfold encM
  simp only
  have hN : ∀ x ∈ vec, ∀ rest, Rd.num ⟨0, numL x ++ rest⟩ = (x, ⟨0, rest⟩) := fun x hx rest => by
    have := v2 x hx
    simp only [numOk, Bool.and_eq_true, decide_eq_true_eq] at this
    exact num_numL (by omega) (by omega) rest
  have hW : ∀ x ∈ wants, ∀ rest, Rd.str ⟨0, strL x ++ rest⟩ = (x, ⟨0, rest⟩) := fun x hx rest => by
    have := w2 x hx
    simp only [keyOk, beq_iff_eq] at this
    exact str_small (by omega) rest
  have hP : ∀ x ∈ pcs, ∀ rest, Rd.str ⟨0, strL x ++ rest⟩ = (x, ⟨0, rest⟩) := fun x hx rest => by
    have := p2 x hx
    simp only [pieceOk, Bool.and_eq_true, decide_eq_true_eq] at this
    exact str_small (by omega) rest
  have hO : ∀ t ∈ ops.map encBA, ∀ rest, Rd.str ⟨0, strL t ++ rest⟩ = (t, ⟨0, rest⟩) := fun t ht rest => by
    obtain ⟨x, hx, rfl⟩ := List.mem_map.1 ht
    exact str_small (encBA_size (ho x hx).1 (ho x hx).2) rest
  have hD : ∀ x ∈ ops, decO (encL x) = (x, 0) := fun x hx => by
    have := o2 x hx
    simp only [opOk, beq_iff_eq] at this
    exact dec_enc this (by have := ho x hx; omega) (by have := ho x hx; omega)
  have L1 := fun rest => list_flat (f := Rd.num) (g := numL) (l := vec) (most := 15) (by omega) (by omega) hN rest
  have L2 := list_flat (f := Rd.str) (g := strL) (l := wants) (most := 16) (by omega) (by omega) hW []
  have L3 := list_flat (f := Rd.str) (g := strL) (l := ops.map encBA) (most := 20) (by omega) (by rw [List.length_map]; omega) hO []
  have L4 := list_flat (f := Rd.str) (g := strL) (l := pcs) (most := 16) (by omega) (by omega) hP []
  rw [List.append_nil] at L2 L3 L4
  unfold readM
  simp only
  rw [(hkind _).1, (hkind _).2]
  by_cases c1 : kind = 1
  · subst c1
    simp only [if_true]
    rw [L1, L2, k4 (by omega), k5 (by omega)]
  · rw [if_neg c1]
    by_cases c2 : kind = 2
    · subst c2
      obtain ⟨rfl, rfl⟩ := k3 (by omega)
      simp only [if_true, if_neg c1]
      rw [flat_oprs, L3, k5 (by omega)]
      have e1 : (ops.map encBA).map (fun t => (decO t.data.toList).1) = ops := by
        rw [List.map_map]
        conv => rhs; rw [← List.map_id ops]
        exact List.map_congr_left fun x hx => by simp only [Function.comp, encBA_list, hD x hx, id]
      have e2 : (ops.map encBA).any (fun t => (decO t.data.toList).2 != 0) = false := by
        rw [List.any_eq_false]
        intro t ht
        obtain ⟨x, hx, rfl⟩ := List.mem_map.1 ht
        rw [encBA_list, hD x hx]
        simp
      rw [e1, e2]
    · have c3 : kind = 3 := by omega
      subst c3
      obtain ⟨rfl, rfl⟩ := k3 (by omega)
      simp only [if_true, if_neg c1, if_neg c2]
      rw [L4, k4 (by omega)]
theorem dec_encM {m : Msg} (hr : rightM m = true) (ho : ∀ x ∈ m.ops, x.name.size ≤ 10000 ∧ x.man.size ≤ 10000) : decM (encM m) = (m, 0) := by
  unfold decM
  rw [read_encM hr ho]
  simp [Rd.fin, hr]
theorem enc_decM {l : List UInt8} {m : Msg} (h : decM l = (m, 0)) : rightM m = true ∧ encM m = l := by
  unfold decM at h
  split at h
  · rename_i h1
    exact absurd (congrArg Prod.snd h) h1
  · rename_i h1
    split at h
    · cases h
    · rename_i h2
      have hm : (readM l).1 = m := congrArg Prod.fst h
      subst hm
      have hr : rightM (readM l).1 = true := by
        cases hh : rightM (readM l).1 with
        | true => rfl
        | false => exact absurd (.inr hh) h2
      have hbad : ¬ (readM l).2.1 = true := fun e => h2 (.inl e)
      refine ⟨hr, ?_⟩
      obtain ⟨hfe, hfr⟩ := fin_back (Decidable.not_not.1 h1)
      clear h h1 h2 hr
      have fin1 : ∀ {k : Int} {g rest : List UInt8}, l = numL k ++ (kindR l).rest → (kindR l).rest = g ++ rest → rest = [] → numL k ++ g = l := fun h1 h2 h3 => by
        rw [h3, List.append_nil] at h2
        rw [← h2]
        exact h1.symm
      revert hfe hfr hbad
      unfold readM
      simp only
      split
      · rename_i c1
        simp only
        intro _ hfe hfr
        obtain ⟨a1, a2⟩ := list_back (g := strL) str_g hfe
        obtain ⟨b1, b2⟩ := list_back (g := numL) num_g a1
        obtain ⟨d1, _, _⟩ := kind_back b1
        rw [c1] at d1
        unfold encM
        simp only [if_true]
        rw [a2, hfr, List.append_nil] at b2
        exact fin1 d1 (b2.trans (List.append_nil _).symm) rfl
      · split
        · rename_i c1 c2
          simp only
          intro hbad hfe hfr
          obtain ⟨a1, a2⟩ := list_back (g := strL) str_g hfe
          obtain ⟨d1, _, _⟩ := kind_back a1
          rw [c2] at d1
          unfold encM
          simp only [if_true, if_neg (show ¬ (2 : Int) = 1 by omega)]
          refine fin1 d1 ?_ hfr
          have e : flatB oprL ((listR Rd.str (kindR l) 20).1.map fun t => (decO t.data.toList).1) = flatB strL (listR Rd.str (kindR l) 20).1 := by
            unfold flatB
            rw [List.length_map, List.flatMap_map]
            congr 1
            rw [List.flatMap_def, List.flatMap_def]
            congr 1
            refine List.map_congr_left fun t ht => ?_
            have h0 : (decO t.data.toList).2 = 0 := by
              by_cases h0 : (decO t.data.toList).2 = 0
              · exact h0
              · refine absurd (List.any_eq_true.2 ⟨t, ht, by simpa using h0⟩) hbad
            have := (enc_dec (l := t.data.toList) (y := (decO t.data.toList).1) (Prod.ext rfl h0)).2
            unfold oprL strL
            rw [this]
          rw [e]
          exact a2
        · split
          · rename_i c1 c2 c3
            simp only
            intro _ hfe hfr
            obtain ⟨a1, a2⟩ := list_back (g := strL) str_g hfe
            obtain ⟨d1, _, _⟩ := kind_back a1
            rw [c3] at d1
            unfold encM
            simp only [if_neg (show ¬ (3 : Int) = 1 by omega), if_neg (show ¬ (3 : Int) = 2 by omega)]
            exact fin1 d1 a2 hfr
          · rename_i c1 c2 c3
            simp only
            intro _ hfe _
            obtain ⟨_, d2, d3⟩ := kind_back hfe
            omega
theorem dec_noneM {l : List UInt8} {m : Msg} {e : Int} (h : decM l = (m, e)) (he : e ≠ 0) : m = noMsg := by
  unfold decM at h
  split at h
  · exact (congrArg Prod.fst h).symm
  · split at h
    · exact (congrArg Prod.fst h).symm
    · exact absurd (congrArg Prod.snd h).symm he
end Go.Proofs.YtlenpifjkbcmdaaGreatDoor

namespace Go.Proofs.YtlenpifjkbcmdaaGreatDoor
open Go Go.RowKit Go.Lib

theorem idx_hit {α : Type} {l : List α} {p : α → Bool} {k : Nat} {y : α} (hy : l[k]? = some y) (hp : p y = true) (hk : ∀ j z, j < k → l[j]? = some z → p z = false) : l.findIdx p = k := by
  have hlt := (List.getElem?_eq_some_iff.1 hy).1
  refine (List.findIdx_eq hlt).2 ⟨?_, fun j hj => hk j _ hj (List.getElem?_eq_getElem (by omega))⟩
  rw [List.getElem?_eq_getElem hlt] at hy
  cases hy
  exact hp
theorem idx_miss {α : Type} {l : List α} {p : α → Bool} (hk : ∀ j z, j < l.length → l[j]? = some z → p z = false) : l.findIdx p = l.length :=
  List.findIdx_eq_length.2 fun z hz => by
    obtain ⟨j, hj, e⟩ := List.mem_iff_getElem.1 hz
    exact hk j z hj (by rw [List.getElem?_eq_getElem hj, e])
/-- Where the first one is that is so, or -1. -/
def whereB {α : Type} (p : α → Bool) (l : List α) : Int := if l.findIdx p < l.length then (l.findIdx p : Int) else -1
theorem where_hit {α : Type} {l : List α} {p : α → Bool} {k : Nat} {y : α} (hy : l[k]? = some y) (hp : p y = true) (hk : ∀ j z, j < k → l[j]? = some z → p z = false) : whereB p l = k := by
  unfold whereB
  rw [idx_hit hy hp hk, if_pos (List.getElem?_eq_some_iff.1 hy).1]
theorem where_miss {α : Type} {l : List α} {p : α → Bool} (hk : ∀ j z, j < l.length → l[j]? = some z → p z = false) : whereB p l = -1 := by
  unfold whereB
  rw [idx_miss hk, if_neg (Nat.lt_irrefl _)]
theorem where_in {α : Type} (p : α → Bool) (l : List α) : -1 ≤ whereB p l ∧ whereB p l ≤ l.length := by
  unfold whereB
  split <;> omega
theorem where_any {α : Type} (p : α → Bool) (l : List α) : decide (0 ≤ whereB p l) = l.any p := by
  unfold whereB
  by_cases h : l.findIdx p < l.length
  · rw [if_pos h]
    have : l.any p = true := List.any_eq_true.2 ⟨_, List.getElem_mem h, List.findIdx_getElem (w := h)⟩
    rw [this]
    simp
  · rw [if_neg h]
    have : l.any p = false := by
      rw [List.any_eq_false]
      intro x hx hp
      exact h (List.findIdx_lt_length_of_exists ⟨x, hx, hp⟩)
    rw [this]
    rfl
theorem any_not {α : Type} (p : α → Bool) (l : List α) : (l.any fun x => !p x) = !l.all p := by
  induction l with
  | nil => rfl
  | cons x l ih => simp [List.any_cons, List.all_cons, ih, Bool.not_and]

/-! ### int -/
set_option maxRecDepth 100000 in
theorem notf_v (b : Nat) (x : Int) (w : World) (hv : VarAt w b [.func (.func 57) #[] #[]]) (h : ∀ W, Calls Tryz.prog 57 #[(.int .i64 x)] W fun e w' => e = .returned (.bool (numOk x)) ∧ Below W.heap.size W w') :
    Calls Tryz.prog 77 #[(.int .i64 x), .pointer (some ⟨b, 0, none⟩)] w fun e w' => e = .returned (.bool (!numOk x)) ∧ Below w.heap.size w w' := by
  have c0 := hv.2.2 0 _ rfl
  have H := Lib.hid h
  have HP := Lib.hid (rfl : numOk x = numOk x)
  generalize numOk x = r at *
  clear h hv HP
  go_enter Tryz.func77, Tryz.ntmps77
  go_wp2_with fail
  refine (H.out _).mono ?_
  rintro e w1 ⟨rfl, hb⟩
  go_wp2_with fail
  go_ret
  exact ⟨rfl, hb⟩
set_option maxRecDepth 100000 in
set_option maxHeartbeats 1600000 in
theorem indexf_v (b : Nat) (a : Option Addr) (cap : Nat) (l : List Int) (w : World) (hl : l.length ≤ 1000000) (ha : RowsAt numLay w a l) (hv : VarAt w b [.func (.func 57) #[] #[]]) (h : ∀ x ∈ l, ∀ W, Calls Tryz.prog 57 #[(.int .i64 x)] W fun e w' => e = .returned (.bool (numOk x)) ∧ Below W.heap.size W w') :
    Calls Tryz.prog 95 #[.slice a l.length cap, .func (.func 77) #[] #[.pointer (some ⟨b, 0, none⟩)]] w fun e w' => e = .returned (.int .i64 (whereB (fun x => !numOk x) l)) ∧ Below w.heap.size w w' := by
  have HA := Lib.hid ha
  have HF := Lib.hid fun (x : Int) (hx : x ∈ l) W (hv : VarAt W b [.func (.func 57) #[] #[]]) => notf_v b x W hv (h x hx)
  have HW := Lib.hid (rfl : whereB (fun x => !numOk x) l = whereB (fun x => !numOk x) l)
  obtain ⟨r, hr⟩ : ∃ r, whereB (fun x => !numOk x) l = r := ⟨_, rfl⟩
  rw [hr]
  have Hr := Lib.hid hr
  clear ha h HW hr
  go_enter Tryz.func95, Tryz.ntmps95
  go_wp2_with fail
  go_loopw [5, 8] (fun _ i wr => ∃ k : Nat, k ≤ l.length ∧ i = .int .i64 k ∧ Hid (∀ j y, j < k → l[j]? = some y → (!numOk y) = false) ∧ Below w.heap.size w wr) (fun _ i _ => l.length - (RowKit.intOf i).toNat)
  case atStart => exact ⟨0, Nat.zero_le _, rfl, Lib.hid (fun j _ hj => absurd hj (Nat.not_lt_zero _)), Below.refl _ _⟩
  case round =>
    obtain ⟨k, hk, rfl, Hk, hb⟩ := hrel
    by_cases hlt : k < l.length
    · obtain ⟨y, hy⟩ := at_some hlt
      obtain ⟨b1, off, rfl, hbl, c0⟩ := num_at (HA.out.keeps hb) hy
      have Hy := Lib.hid hy
      have HFy := Lib.hid (HF.out y (List.mem_of_getElem? hy) wr (hv.keeps hb hv.1))
      clear hy
      obtain ⟨v, hv'⟩ : ∃ v, (!numOk y) = v := ⟨_, rfl⟩
      rw [hv'] at HFy
      have Hv := Lib.hid hv'
      clear hv'
      cases v with
      | true =>
        have Hq := Lib.hid (where_hit Hy.out Hv.out Hk.out)
        go_wp2_with fail
        refine HFy.out.mono ?_
        rintro e w1 ⟨rfl, hb1⟩
        have hb2 := hb.trans (hb1.mono hb.size)
        go_wp2_with fail
        go_ret
        exact ⟨ret_int (by rw [← Hr.out, Hq.out]), hb2⟩
      | false =>
        go_wp2_with fail
        refine HFy.out.mono ?_
        rintro e w1 ⟨rfl, hb1⟩
        have hb2 := hb.trans (hb1.mono hb.size)
        go_wp2_with fail
        go_roundw
        case rel =>
          refine ⟨k + 1, by omega, by go_num, Lib.hid (fun j z hj hz => ?_), hb2⟩
          by_cases e : j = k
          · subst e
            rw [Hy.out] at hz
            cases hz
            exact Hv.out
          · exact Hk.out j z (by omega) hz
        case measure => simp [RowKit.intOf]; omega
    · have Hq := Lib.hid (where_miss (l := l) (p := fun x => !numOk x) (fun j z hj hz => Hk.out j z (by omega) hz))
      go_wp2_with fail
      go_ret
      exact ⟨ret_int (by rw [← Hr.out, Hq.out]), hb⟩
set_option maxRecDepth 100000 in
theorem containsf_v (b : Nat) (a : Option Addr) (cap : Nat) (l : List Int) (w : World) (hl : l.length ≤ 1000000) (ha : RowsAt numLay w a l) (hv : VarAt w b [.func (.func 57) #[] #[]]) (h : ∀ x ∈ l, ∀ W, Calls Tryz.prog 57 #[(.int .i64 x)] W fun e w' => e = .returned (.bool (numOk x)) ∧ Below W.heap.size W w') :
    Calls Tryz.prog 76 #[.slice a l.length cap, .func (.func 77) #[] #[.pointer (some ⟨b, 0, none⟩)]] w fun e w' => e = .returned (.bool (!l.all numOk)) ∧ Below w.heap.size w w' := by
  have H := Lib.hid (indexf_v b a cap l w hl ha hv h)
  have HW := Lib.hid ((where_any (fun x => !numOk x) l).trans (any_not numOk l))
  generalize whereB (fun x => !numOk x) l = r at *
  generalize (!l.all numOk) = q at *
  clear ha hv h
  go_enter Tryz.func76, Tryz.ntmps76
  go_wp2_with fail
  refine H.out.mono ?_
  rintro e w1 ⟨rfl, hb⟩
  go_wp2_with fail
  go_ret
  exact ⟨ret_bool HW.out, hb⟩
set_option maxRecDepth 100000 in
theorem all_v (most : Nat) (a : Option Addr) (cap : Nat) (l : List Int) (w : World) (hl : l.length ≤ 1000000) (ha : RowsAt numLay w a l) (h : ∀ x ∈ l, ∀ W, Calls Tryz.prog 57 #[(.int .i64 x)] W fun e w' => e = .returned (.bool (numOk x)) ∧ Below W.heap.size W w') :
    Calls Tryz.prog 56 #[.slice a l.length cap, .int .i64 most, .func (.func 57) #[] #[]] w fun e w' => e = .returned (.bool (allB l most numOk)) ∧ Below w.heap.size w w' := by
  have hb1 := (Below.refl w.heap.size w).alloc (Nat.le_refl _) (.cells #[.func (.func 57) #[] #[]] 88)
  have hv := VarAt.new w #[.func (.func 57) #[] #[]] 88
  have H := Lib.hid (containsf_v w.heap.size a cap l _ hl (ha.keeps hb1) hv h)
  have HQ := Lib.hid (show allB l most numOk = (decide (l.length ≤ most) && l.all numOk) from rfl)
  generalize allB l most numOk = q at *
  generalize l.all numOk = r at *
  clear ha hv h
  by_cases hm : l.length ≤ most
  · go_enter Tryz.func56, Tryz.ntmps56
    go_wp2_with fail
    refine H.out.mono ?_
    rintro e w1 ⟨rfl, hb⟩
    go_wp2_with fail
    go_ret
    exact ⟨ret_bool (by rw [HQ.out]; simp [hm]), hb1.trans (hb.mono hb1.size)⟩
  · go_enter Tryz.func56, Tryz.ntmps56
    go_wp2_with fail
    go_ret
    exact ⟨ret_bool (by rw [HQ.out]; simp [hm]), hb1⟩

/-! ### string -/
set_option maxRecDepth 100000 in
theorem notf_k (b : Nat) (x : ByteArray) (w : World) (hv : VarAt w b [.func (.func 59) #[] #[]]) (h : ∀ W, Calls Tryz.prog 59 #[(.string x)] W fun e w' => e = .returned (.bool (keyOk x)) ∧ Below W.heap.size W w') :
    Calls Tryz.prog 79 #[(.string x), .pointer (some ⟨b, 0, none⟩)] w fun e w' => e = .returned (.bool (!keyOk x)) ∧ Below w.heap.size w w' := by
  have c0 := hv.2.2 0 _ rfl
  have H := Lib.hid h
  have HP := Lib.hid (rfl : keyOk x = keyOk x)
  generalize keyOk x = r at *
  clear h hv HP
  go_enter Tryz.func79, Tryz.ntmps79
  go_wp2_with fail
  refine (H.out _).mono ?_
  rintro e w1 ⟨rfl, hb⟩
  go_wp2_with fail
  go_ret
  exact ⟨rfl, hb⟩
set_option maxRecDepth 100000 in
set_option maxHeartbeats 1600000 in
theorem indexf_k (b : Nat) (a : Option Addr) (cap : Nat) (l : List ByteArray) (w : World) (hl : l.length ≤ 1000000) (ha : RowsAt strLay w a l) (hv : VarAt w b [.func (.func 59) #[] #[]]) (h : ∀ x ∈ l, ∀ W, Calls Tryz.prog 59 #[(.string x)] W fun e w' => e = .returned (.bool (keyOk x)) ∧ Below W.heap.size W w') :
    Calls Tryz.prog 96 #[.slice a l.length cap, .func (.func 79) #[] #[.pointer (some ⟨b, 0, none⟩)]] w fun e w' => e = .returned (.int .i64 (whereB (fun x => !keyOk x) l)) ∧ Below w.heap.size w w' := by
  have HA := Lib.hid ha
  have HF := Lib.hid fun (x : ByteArray) (hx : x ∈ l) W (hv : VarAt W b [.func (.func 59) #[] #[]]) => notf_k b x W hv (h x hx)
  have HW := Lib.hid (rfl : whereB (fun x => !keyOk x) l = whereB (fun x => !keyOk x) l)
  obtain ⟨r, hr⟩ : ∃ r, whereB (fun x => !keyOk x) l = r := ⟨_, rfl⟩
  rw [hr]
  have Hr := Lib.hid hr
  clear ha h HW hr
  go_enter Tryz.func96, Tryz.ntmps96
  go_wp2_with fail
  go_loopw [5, 8] (fun _ i wr => ∃ k : Nat, k ≤ l.length ∧ i = .int .i64 k ∧ Hid (∀ j y, j < k → l[j]? = some y → (!keyOk y) = false) ∧ Below w.heap.size w wr) (fun _ i _ => l.length - (RowKit.intOf i).toNat)
  case atStart => exact ⟨0, Nat.zero_le _, rfl, Lib.hid (fun j _ hj => absurd hj (Nat.not_lt_zero _)), Below.refl _ _⟩
  case round =>
    obtain ⟨k, hk, rfl, Hk, hb⟩ := hrel
    by_cases hlt : k < l.length
    · obtain ⟨y, hy⟩ := at_some hlt
      obtain ⟨b1, off, rfl, hbl, c0⟩ := str_at (HA.out.keeps hb) hy
      have Hy := Lib.hid hy
      have HFy := Lib.hid (HF.out y (List.mem_of_getElem? hy) wr (hv.keeps hb hv.1))
      clear hy
      obtain ⟨v, hv'⟩ : ∃ v, (!keyOk y) = v := ⟨_, rfl⟩
      rw [hv'] at HFy
      have Hv := Lib.hid hv'
      clear hv'
      cases v with
      | true =>
        have Hq := Lib.hid (where_hit Hy.out Hv.out Hk.out)
        go_wp2_with fail
        refine HFy.out.mono ?_
        rintro e w1 ⟨rfl, hb1⟩
        have hb2 := hb.trans (hb1.mono hb.size)
        go_wp2_with fail
        go_ret
        exact ⟨ret_int (by rw [← Hr.out, Hq.out]), hb2⟩
      | false =>
        go_wp2_with fail
        refine HFy.out.mono ?_
        rintro e w1 ⟨rfl, hb1⟩
        have hb2 := hb.trans (hb1.mono hb.size)
        go_wp2_with fail
        go_roundw
        case rel =>
          refine ⟨k + 1, by omega, by go_num, Lib.hid (fun j z hj hz => ?_), hb2⟩
          by_cases e : j = k
          · subst e
            rw [Hy.out] at hz
            cases hz
            exact Hv.out
          · exact Hk.out j z (by omega) hz
        case measure => simp [RowKit.intOf]; omega
    · have Hq := Lib.hid (where_miss (l := l) (p := fun x => !keyOk x) (fun j z hj hz => Hk.out j z (by omega) hz))
      go_wp2_with fail
      go_ret
      exact ⟨ret_int (by rw [← Hr.out, Hq.out]), hb⟩
set_option maxRecDepth 100000 in
theorem containsf_k (b : Nat) (a : Option Addr) (cap : Nat) (l : List ByteArray) (w : World) (hl : l.length ≤ 1000000) (ha : RowsAt strLay w a l) (hv : VarAt w b [.func (.func 59) #[] #[]]) (h : ∀ x ∈ l, ∀ W, Calls Tryz.prog 59 #[(.string x)] W fun e w' => e = .returned (.bool (keyOk x)) ∧ Below W.heap.size W w') :
    Calls Tryz.prog 78 #[.slice a l.length cap, .func (.func 79) #[] #[.pointer (some ⟨b, 0, none⟩)]] w fun e w' => e = .returned (.bool (!l.all keyOk)) ∧ Below w.heap.size w w' := by
  have H := Lib.hid (indexf_k b a cap l w hl ha hv h)
  have HW := Lib.hid ((where_any (fun x => !keyOk x) l).trans (any_not keyOk l))
  generalize whereB (fun x => !keyOk x) l = r at *
  generalize (!l.all keyOk) = q at *
  clear ha hv h
  go_enter Tryz.func78, Tryz.ntmps78
  go_wp2_with fail
  refine H.out.mono ?_
  rintro e w1 ⟨rfl, hb⟩
  go_wp2_with fail
  go_ret
  exact ⟨ret_bool HW.out, hb⟩
set_option maxRecDepth 100000 in
theorem all_k (most : Nat) (a : Option Addr) (cap : Nat) (l : List ByteArray) (w : World) (hl : l.length ≤ 1000000) (ha : RowsAt strLay w a l) (h : ∀ x ∈ l, ∀ W, Calls Tryz.prog 59 #[(.string x)] W fun e w' => e = .returned (.bool (keyOk x)) ∧ Below W.heap.size W w') :
    Calls Tryz.prog 58 #[.slice a l.length cap, .int .i64 most, .func (.func 59) #[] #[]] w fun e w' => e = .returned (.bool (allB l most keyOk)) ∧ Below w.heap.size w w' := by
  have hb1 := (Below.refl w.heap.size w).alloc (Nat.le_refl _) (.cells #[.func (.func 59) #[] #[]] 92)
  have hv := VarAt.new w #[.func (.func 59) #[] #[]] 92
  have H := Lib.hid (containsf_k w.heap.size a cap l _ hl (ha.keeps hb1) hv h)
  have HQ := Lib.hid (show allB l most keyOk = (decide (l.length ≤ most) && l.all keyOk) from rfl)
  generalize allB l most keyOk = q at *
  generalize l.all keyOk = r at *
  clear ha hv h
  by_cases hm : l.length ≤ most
  · go_enter Tryz.func58, Tryz.ntmps58
    go_wp2_with fail
    refine H.out.mono ?_
    rintro e w1 ⟨rfl, hb⟩
    go_wp2_with fail
    go_ret
    exact ⟨ret_bool (by rw [HQ.out]; simp [hm]), hb1.trans (hb.mono hb1.size)⟩
  · go_enter Tryz.func58, Tryz.ntmps58
    go_wp2_with fail
    go_ret
    exact ⟨ret_bool (by rw [HQ.out]; simp [hm]), hb1⟩

/-! ### string -/
set_option maxRecDepth 100000 in
theorem notf_p (b : Nat) (x : ByteArray) (w : World) (hv : VarAt w b [.func (.func 62) #[] #[]]) (h : ∀ W, Calls Tryz.prog 62 #[(.string x)] W fun e w' => e = .returned (.bool (pieceOk x)) ∧ Below W.heap.size W w') :
    Calls Tryz.prog 79 #[(.string x), .pointer (some ⟨b, 0, none⟩)] w fun e w' => e = .returned (.bool (!pieceOk x)) ∧ Below w.heap.size w w' := by
  have c0 := hv.2.2 0 _ rfl
  have H := Lib.hid h
  have HP := Lib.hid (rfl : pieceOk x = pieceOk x)
  generalize pieceOk x = r at *
  clear h hv HP
  go_enter Tryz.func79, Tryz.ntmps79
  go_wp2_with fail
  refine (H.out _).mono ?_
  rintro e w1 ⟨rfl, hb⟩
  go_wp2_with fail
  go_ret
  exact ⟨rfl, hb⟩
set_option maxRecDepth 100000 in
set_option maxHeartbeats 1600000 in
theorem indexf_p (b : Nat) (a : Option Addr) (cap : Nat) (l : List ByteArray) (w : World) (hl : l.length ≤ 1000000) (ha : RowsAt strLay w a l) (hv : VarAt w b [.func (.func 62) #[] #[]]) (h : ∀ x ∈ l, ∀ W, Calls Tryz.prog 62 #[(.string x)] W fun e w' => e = .returned (.bool (pieceOk x)) ∧ Below W.heap.size W w') :
    Calls Tryz.prog 96 #[.slice a l.length cap, .func (.func 79) #[] #[.pointer (some ⟨b, 0, none⟩)]] w fun e w' => e = .returned (.int .i64 (whereB (fun x => !pieceOk x) l)) ∧ Below w.heap.size w w' := by
  have HA := Lib.hid ha
  have HF := Lib.hid fun (x : ByteArray) (hx : x ∈ l) W (hv : VarAt W b [.func (.func 62) #[] #[]]) => notf_p b x W hv (h x hx)
  have HW := Lib.hid (rfl : whereB (fun x => !pieceOk x) l = whereB (fun x => !pieceOk x) l)
  obtain ⟨r, hr⟩ : ∃ r, whereB (fun x => !pieceOk x) l = r := ⟨_, rfl⟩
  rw [hr]
  have Hr := Lib.hid hr
  clear ha h HW hr
  go_enter Tryz.func96, Tryz.ntmps96
  go_wp2_with fail
  go_loopw [5, 8] (fun _ i wr => ∃ k : Nat, k ≤ l.length ∧ i = .int .i64 k ∧ Hid (∀ j y, j < k → l[j]? = some y → (!pieceOk y) = false) ∧ Below w.heap.size w wr) (fun _ i _ => l.length - (RowKit.intOf i).toNat)
  case atStart => exact ⟨0, Nat.zero_le _, rfl, Lib.hid (fun j _ hj => absurd hj (Nat.not_lt_zero _)), Below.refl _ _⟩
  case round =>
    obtain ⟨k, hk, rfl, Hk, hb⟩ := hrel
    by_cases hlt : k < l.length
    · obtain ⟨y, hy⟩ := at_some hlt
      obtain ⟨b1, off, rfl, hbl, c0⟩ := str_at (HA.out.keeps hb) hy
      have Hy := Lib.hid hy
      have HFy := Lib.hid (HF.out y (List.mem_of_getElem? hy) wr (hv.keeps hb hv.1))
      clear hy
      obtain ⟨v, hv'⟩ : ∃ v, (!pieceOk y) = v := ⟨_, rfl⟩
      rw [hv'] at HFy
      have Hv := Lib.hid hv'
      clear hv'
      cases v with
      | true =>
        have Hq := Lib.hid (where_hit Hy.out Hv.out Hk.out)
        go_wp2_with fail
        refine HFy.out.mono ?_
        rintro e w1 ⟨rfl, hb1⟩
        have hb2 := hb.trans (hb1.mono hb.size)
        go_wp2_with fail
        go_ret
        exact ⟨ret_int (by rw [← Hr.out, Hq.out]), hb2⟩
      | false =>
        go_wp2_with fail
        refine HFy.out.mono ?_
        rintro e w1 ⟨rfl, hb1⟩
        have hb2 := hb.trans (hb1.mono hb.size)
        go_wp2_with fail
        go_roundw
        case rel =>
          refine ⟨k + 1, by omega, by go_num, Lib.hid (fun j z hj hz => ?_), hb2⟩
          by_cases e : j = k
          · subst e
            rw [Hy.out] at hz
            cases hz
            exact Hv.out
          · exact Hk.out j z (by omega) hz
        case measure => simp [RowKit.intOf]; omega
    · have Hq := Lib.hid (where_miss (l := l) (p := fun x => !pieceOk x) (fun j z hj hz => Hk.out j z (by omega) hz))
      go_wp2_with fail
      go_ret
      exact ⟨ret_int (by rw [← Hr.out, Hq.out]), hb⟩
set_option maxRecDepth 100000 in
theorem containsf_p (b : Nat) (a : Option Addr) (cap : Nat) (l : List ByteArray) (w : World) (hl : l.length ≤ 1000000) (ha : RowsAt strLay w a l) (hv : VarAt w b [.func (.func 62) #[] #[]]) (h : ∀ x ∈ l, ∀ W, Calls Tryz.prog 62 #[(.string x)] W fun e w' => e = .returned (.bool (pieceOk x)) ∧ Below W.heap.size W w') :
    Calls Tryz.prog 78 #[.slice a l.length cap, .func (.func 79) #[] #[.pointer (some ⟨b, 0, none⟩)]] w fun e w' => e = .returned (.bool (!l.all pieceOk)) ∧ Below w.heap.size w w' := by
  have H := Lib.hid (indexf_p b a cap l w hl ha hv h)
  have HW := Lib.hid ((where_any (fun x => !pieceOk x) l).trans (any_not pieceOk l))
  generalize whereB (fun x => !pieceOk x) l = r at *
  generalize (!l.all pieceOk) = q at *
  clear ha hv h
  go_enter Tryz.func78, Tryz.ntmps78
  go_wp2_with fail
  refine H.out.mono ?_
  rintro e w1 ⟨rfl, hb⟩
  go_wp2_with fail
  go_ret
  exact ⟨ret_bool HW.out, hb⟩
set_option maxRecDepth 100000 in
theorem all_p (most : Nat) (a : Option Addr) (cap : Nat) (l : List ByteArray) (w : World) (hl : l.length ≤ 1000000) (ha : RowsAt strLay w a l) (h : ∀ x ∈ l, ∀ W, Calls Tryz.prog 62 #[(.string x)] W fun e w' => e = .returned (.bool (pieceOk x)) ∧ Below W.heap.size W w') :
    Calls Tryz.prog 58 #[.slice a l.length cap, .int .i64 most, .func (.func 62) #[] #[]] w fun e w' => e = .returned (.bool (allB l most pieceOk)) ∧ Below w.heap.size w w' := by
  have hb1 := (Below.refl w.heap.size w).alloc (Nat.le_refl _) (.cells #[.func (.func 62) #[] #[]] 92)
  have hv := VarAt.new w #[.func (.func 62) #[] #[]] 92
  have H := Lib.hid (containsf_p w.heap.size a cap l _ hl (ha.keeps hb1) hv h)
  have HQ := Lib.hid (show allB l most pieceOk = (decide (l.length ≤ most) && l.all pieceOk) from rfl)
  generalize allB l most pieceOk = q at *
  generalize l.all pieceOk = r at *
  clear ha hv h
  by_cases hm : l.length ≤ most
  · go_enter Tryz.func58, Tryz.ntmps58
    go_wp2_with fail
    refine H.out.mono ?_
    rintro e w1 ⟨rfl, hb⟩
    go_wp2_with fail
    go_ret
    exact ⟨ret_bool (by rw [HQ.out]; simp [hm]), hb1.trans (hb.mono hb1.size)⟩
  · go_enter Tryz.func58, Tryz.ntmps58
    go_wp2_with fail
    go_ret
    exact ⟨ret_bool (by rw [HQ.out]; simp [hm]), hb1⟩

/-! ### arbour/api.Op -/
set_option maxRecDepth 100000 in
theorem notf_o (b : Nat) (x : Opr) (w : World) (hv : VarAt w b [.func (.func 61) #[] #[]]) (h : ∀ W, Calls Tryz.prog 61 #[(.agg #[.int .i64 x.cnt, .int .i64 x.who, .int .i64 x.seq, .int .i64 x.kind, .int .i64 x.nc, .int .i64 x.nw, .bool x.dir, .int .i64 x.pc, .int .i64 x.pw, .string x.name, .string x.man])] W fun e w' => e = .returned (.bool (opOk x)) ∧ Below W.heap.size W w') :
    Calls Tryz.prog 81 #[(.agg #[.int .i64 x.cnt, .int .i64 x.who, .int .i64 x.seq, .int .i64 x.kind, .int .i64 x.nc, .int .i64 x.nw, .bool x.dir, .int .i64 x.pc, .int .i64 x.pw, .string x.name, .string x.man]), .pointer (some ⟨b, 0, none⟩)] w fun e w' => e = .returned (.bool (!opOk x)) ∧ Below w.heap.size w w' := by
  have c0 := hv.2.2 0 _ rfl
  have hbx := (Below.refl w.heap.size w).alloc (Nat.le_refl _) (.cells #[.int .i64 x.cnt, .int .i64 x.who, .int .i64 x.seq, .int .i64 x.kind, .int .i64 x.nc, .int .i64 x.nw, .bool x.dir, .int .i64 x.pc, .int .i64 x.pw, .string x.name, .string x.man] 28)
  have z0 := (hv.keeps hbx hv.1).2.2 0 _ rfl
  have hlt := hv.1
  have H := Lib.hid h
  have HP := Lib.hid (rfl : opOk x = opOk x)
  generalize opOk x = r at *
  clear h hv HP
  go_enter Tryz.func81, Tryz.ntmps81
  go_wp2_with fail
  refine (H.out _).mono ?_
  rintro e w1 ⟨rfl, hb⟩
  go_wp2_with fail
  go_ret
  exact ⟨rfl, hbx.trans (hb.mono hbx.size)⟩
set_option maxRecDepth 100000 in
set_option maxHeartbeats 1600000 in
theorem indexf_o (b : Nat) (a : Option Addr) (cap : Nat) (l : List Opr) (w : World) (hl : l.length ≤ 1000000) (ha : RowsAt oprLay w a l) (hv : VarAt w b [.func (.func 61) #[] #[]]) (h : ∀ x ∈ l, ∀ W, Calls Tryz.prog 61 #[(.agg #[.int .i64 x.cnt, .int .i64 x.who, .int .i64 x.seq, .int .i64 x.kind, .int .i64 x.nc, .int .i64 x.nw, .bool x.dir, .int .i64 x.pc, .int .i64 x.pw, .string x.name, .string x.man])] W fun e w' => e = .returned (.bool (opOk x)) ∧ Below W.heap.size W w') :
    Calls Tryz.prog 15 #[.slice a l.length cap, .func (.func 81) #[] #[.pointer (some ⟨b, 0, none⟩)]] w fun e w' => e = .returned (.int .i64 (whereB (fun x => !opOk x) l)) ∧ Below w.heap.size w w' := by
  have HA := Lib.hid ha
  have HF := Lib.hid fun (x : Opr) (hx : x ∈ l) W (hv : VarAt W b [.func (.func 61) #[] #[]]) => notf_o b x W hv (h x hx)
  have HW := Lib.hid (rfl : whereB (fun x => !opOk x) l = whereB (fun x => !opOk x) l)
  obtain ⟨r, hr⟩ : ∃ r, whereB (fun x => !opOk x) l = r := ⟨_, rfl⟩
  rw [hr]
  have Hr := Lib.hid hr
  clear ha h HW hr
  go_enter Tryz.func15, Tryz.ntmps15
  go_wp2_with fail
  go_loopw [5, 8] (fun _ i wr => ∃ k : Nat, k ≤ l.length ∧ i = .int .i64 k ∧ Hid (∀ j y, j < k → l[j]? = some y → (!opOk y) = false) ∧ Below w.heap.size w wr) (fun _ i _ => l.length - (RowKit.intOf i).toNat)
  case atStart => exact ⟨0, Nat.zero_le _, rfl, Lib.hid (fun j _ hj => absurd hj (Nat.not_lt_zero _)), Below.refl _ _⟩
  case round =>
    obtain ⟨k, hk, rfl, Hk, hb⟩ := hrel
    by_cases hlt : k < l.length
    · obtain ⟨y, hy⟩ := at_some hlt
      obtain ⟨b1, off, rfl, hbl, c0, c1, c2, c3, c4, c5, c6, c7, c8, c9, c10⟩ := opr_at (HA.out.keeps hb) hy
      have Hy := Lib.hid hy
      have HFy := Lib.hid (HF.out y (List.mem_of_getElem? hy) wr (hv.keeps hb hv.1))
      clear hy
      obtain ⟨v, hv'⟩ : ∃ v, (!opOk y) = v := ⟨_, rfl⟩
      rw [hv'] at HFy
      have Hv := Lib.hid hv'
      clear hv'
      cases v with
      | true =>
        have Hq := Lib.hid (where_hit Hy.out Hv.out Hk.out)
        go_wp2_with fail
        refine HFy.out.mono ?_
        rintro e w1 ⟨rfl, hb1⟩
        have hb2 := hb.trans (hb1.mono hb.size)
        go_wp2_with fail
        go_ret
        exact ⟨ret_int (by rw [← Hr.out, Hq.out]), hb2⟩
      | false =>
        go_wp2_with fail
        refine HFy.out.mono ?_
        rintro e w1 ⟨rfl, hb1⟩
        have hb2 := hb.trans (hb1.mono hb.size)
        go_wp2_with fail
        go_roundw
        case rel =>
          refine ⟨k + 1, by omega, by go_num, Lib.hid (fun j z hj hz => ?_), hb2⟩
          by_cases e : j = k
          · subst e
            rw [Hy.out] at hz
            cases hz
            exact Hv.out
          · exact Hk.out j z (by omega) hz
        case measure => simp [RowKit.intOf]; omega
    · have Hq := Lib.hid (where_miss (l := l) (p := fun x => !opOk x) (fun j z hj hz => Hk.out j z (by omega) hz))
      go_wp2_with fail
      go_ret
      exact ⟨ret_int (by rw [← Hr.out, Hq.out]), hb⟩
set_option maxRecDepth 100000 in
theorem containsf_o (b : Nat) (a : Option Addr) (cap : Nat) (l : List Opr) (w : World) (hl : l.length ≤ 1000000) (ha : RowsAt oprLay w a l) (hv : VarAt w b [.func (.func 61) #[] #[]]) (h : ∀ x ∈ l, ∀ W, Calls Tryz.prog 61 #[(.agg #[.int .i64 x.cnt, .int .i64 x.who, .int .i64 x.seq, .int .i64 x.kind, .int .i64 x.nc, .int .i64 x.nw, .bool x.dir, .int .i64 x.pc, .int .i64 x.pw, .string x.name, .string x.man])] W fun e w' => e = .returned (.bool (opOk x)) ∧ Below W.heap.size W w') :
    Calls Tryz.prog 80 #[.slice a l.length cap, .func (.func 81) #[] #[.pointer (some ⟨b, 0, none⟩)]] w fun e w' => e = .returned (.bool (!l.all opOk)) ∧ Below w.heap.size w w' := by
  have H := Lib.hid (indexf_o b a cap l w hl ha hv h)
  have HW := Lib.hid ((where_any (fun x => !opOk x) l).trans (any_not opOk l))
  generalize whereB (fun x => !opOk x) l = r at *
  generalize (!l.all opOk) = q at *
  clear ha hv h
  go_enter Tryz.func80, Tryz.ntmps80
  go_wp2_with fail
  refine H.out.mono ?_
  rintro e w1 ⟨rfl, hb⟩
  go_wp2_with fail
  go_ret
  exact ⟨ret_bool HW.out, hb⟩
set_option maxRecDepth 100000 in
theorem all_o (most : Nat) (a : Option Addr) (cap : Nat) (l : List Opr) (w : World) (hl : l.length ≤ 1000000) (ha : RowsAt oprLay w a l) (h : ∀ x ∈ l, ∀ W, Calls Tryz.prog 61 #[(.agg #[.int .i64 x.cnt, .int .i64 x.who, .int .i64 x.seq, .int .i64 x.kind, .int .i64 x.nc, .int .i64 x.nw, .bool x.dir, .int .i64 x.pc, .int .i64 x.pw, .string x.name, .string x.man])] W fun e w' => e = .returned (.bool (opOk x)) ∧ Below W.heap.size W w') :
    Calls Tryz.prog 60 #[.slice a l.length cap, .int .i64 most, .func (.func 61) #[] #[]] w fun e w' => e = .returned (.bool (allB l most opOk)) ∧ Below w.heap.size w w' := by
  have hb1 := (Below.refl w.heap.size w).alloc (Nat.le_refl _) (.cells #[.func (.func 61) #[] #[]] 51)
  have hv := VarAt.new w #[.func (.func 61) #[] #[]] 51
  have H := Lib.hid (containsf_o w.heap.size a cap l _ hl (ha.keeps hb1) hv h)
  have HQ := Lib.hid (show allB l most opOk = (decide (l.length ≤ most) && l.all opOk) from rfl)
  generalize allB l most opOk = q at *
  generalize l.all opOk = r at *
  clear ha hv h
  by_cases hm : l.length ≤ most
  · go_enter Tryz.func60, Tryz.ntmps60
    go_wp2_with fail
    refine H.out.mono ?_
    rintro e w1 ⟨rfl, hb⟩
    go_wp2_with fail
    go_ret
    exact ⟨ret_bool (by rw [HQ.out]; simp [hm]), hb1.trans (hb.mono hb1.size)⟩
  · go_enter Tryz.func60, Tryz.ntmps60
    go_wp2_with fail
    go_ret
    exact ⟨ret_bool (by rw [HQ.out]; simp [hm]), hb1⟩
end Go.Proofs.YtlenpifjkbcmdaaGreatDoor

namespace Go.Proofs.YtlenpifjkbcmdaaGreatDoor
open Go Go.RowKit Go.Lib

set_option maxRecDepth 100000 in
theorem numOk_any (n : Int) (w : World) : Calls Tryz.prog 57 #[.int .i64 n] w fun e w' => e = .returned (.bool (numOk n)) ∧ Below w.heap.size w w' := by
  have HQ := Lib.hid (show numOk n = (decide (0 ≤ n) && decide (n ≤ 1099511627776)) from rfl)
  generalize numOk n = q at *
  by_cases h : 0 ≤ n
  · have d1 : decide (0 ≤ n) = true := by simpa using h
    go_enter Tryz.func57, Tryz.ntmps57
    go_wp2_with fail
    go_ret
    exact ⟨ret_bool (by rw [HQ.out, d1]; simp), Below.refl _ _⟩
  · have d1 : decide (0 ≤ n) = false := by simpa using h
    go_enter Tryz.func57, Tryz.ntmps57
    go_wp2_with fail
    go_ret
    exact ⟨ret_bool (by rw [HQ.out, d1]; rfl), Below.refl _ _⟩
set_option maxRecDepth 100000 in
theorem keyOk_any (s : ByteArray) (w : World) : Calls Tryz.prog 59 #[.string s] w fun e w' => e = .returned (.bool (keyOk s)) ∧ Below w.heap.size w w' := by
  have HQ := Lib.hid (show keyOk s = (s.size == 32) from rfl)
  generalize keyOk s = q at *
  by_cases h : s.size = 32
  · have d1 : ((s.size : Int) == 32) = true := by rw [h]; rfl
    have d2 : (s.size == 32) = true := by rw [h]; rfl
    have D := Lib.hid d2
    clear h d2
    go_enter Tryz.func59, Tryz.ntmps59
    go_wp2_with fail
    go_ret
    exact ⟨ret_bool (by rw [HQ.out, D.out]), Below.refl _ _⟩
  · have d1 : ((s.size : Int) == 32) = false := by rw [beq_eq_false_iff_ne]; omega
    have D := Lib.hid (show (s.size == 32) = false from beq_eq_false_iff_ne.2 h)
    go_enter Tryz.func59, Tryz.ntmps59
    go_wp2_with fail
    go_ret
    exact ⟨ret_bool (by rw [HQ.out, D.out]), Below.refl _ _⟩
set_option maxRecDepth 100000 in
theorem opOk_any (x : Opr) (w : World) (hn : x.name.size ≤ 100000) (hm : x.man.size ≤ 100000) : Calls Tryz.prog 61 #[.agg #[.int .i64 x.cnt, .int .i64 x.who, .int .i64 x.seq, .int .i64 x.kind, .int .i64 x.nc, .int .i64 x.nw, .bool x.dir, .int .i64 x.pc, .int .i64 x.pw, .string x.name, .string x.man]] w fun e w' => e = .returned (.bool (opOk x)) ∧ Below w.heap.size w w' := by
  have HR := Lib.hid fun W => oright_any x W hn hm
  have HQ := Lib.hid (show opOk x = (rightO x == 0) from rfl)
  generalize opOk x = q at *
  generalize rightO x = r at *
  have hbx := (Below.refl w.heap.size w).alloc (Nat.le_refl _) (.cells #[.int .i64 x.cnt, .int .i64 x.who, .int .i64 x.seq, .int .i64 x.kind, .int .i64 x.nc, .int .i64 x.nw, .bool x.dir, .int .i64 x.pc, .int .i64 x.pw, .string x.name, .string x.man] 28)
  go_enter Tryz.func61, Tryz.ntmps61
  go_wp2_with fail
  refine (HR.out _).mono ?_
  rintro e w1 ⟨rfl, hb⟩
  go_wp2_with fail
  go_ret
  exact ⟨ret_bool (by rw [HQ.out]), hbx.trans (hb.mono hbx.size)⟩
set_option maxRecDepth 100000 in
theorem pieceOk_any (s : ByteArray) (w : World) : Calls Tryz.prog 62 #[.string s] w fun e w' => e = .returned (.bool (pieceOk s)) ∧ Below w.heap.size w w' := by
  have HQ := Lib.hid (show pieceOk s = (decide (1 ≤ s.size) && decide (s.size ≤ 256)) from rfl)
  generalize pieceOk s = q at *
  by_cases h : s = ⟨#[]⟩
  · subst h
    go_enter Tryz.func62, Tryz.ntmps62
    go_wp2_with fail
    go_ret
    exact ⟨ret_bool (by rw [HQ.out]; rfl), Below.refl _ _⟩
  · have d1 := empty_ne h
    have h1 : 1 ≤ s.size := by
      have : s.size ≠ 0 := fun e => h (ByteArray.size_eq_zero_iff.1 e)
      omega
    have D := Lib.hid (show decide (1 ≤ s.size) = true by simpa using h1)
    have d2 : (!s.toList.isEmpty) = true := by rw [d1]; rfl
    clear h
    by_cases h2 : s.size ≤ 256
    · go_enter Tryz.func62, Tryz.ntmps62
      go_wp2_with fail
      go_ret
      exact ⟨ret_bool (by rw [HQ.out, D.out]; simp; omega), Below.refl _ _⟩
    · go_enter Tryz.func62, Tryz.ntmps62
      go_wp2_with fail
      go_ret
      exact ⟨ret_bool (by rw [HQ.out, D.out]; simp; omega), Below.refl _ _⟩
theorem kind_no {m : Msg} (h : ¬ (1 ≤ m.kind ∧ m.kind ≤ 3 ∧ (m.kind ≠ 1 → m.vec = [] ∧ m.wants = []) ∧ (m.kind ≠ 2 → m.ops = []) ∧ (m.kind ≠ 3 → m.pcs = []))) : kindM m = false := by
  rw [Bool.eq_false_iff]
  exact fun e => h (kindM_iff.1 e)
theorem nil_len {α : Type} {l : List α} (h : l = []) : l.length = 0 := by rw [h]; rfl
theorem len_nil {α : Type} {l : List α} (h : l.length = 0) : l = [] := List.length_eq_zero_iff.1 h

set_option maxRecDepth 100000 in
set_option maxHeartbeats 6400000 in
theorem mright_any (m : Msg) (av aw ao ap : Option Addr) (cv cw co cp : Nat) (w : World) (l1 : m.vec.length ≤ 100000) (l2 : m.wants.length ≤ 100000) (l3 : m.ops.length ≤ 100000) (l4 : m.pcs.length ≤ 100000) (ho : ∀ x ∈ m.ops, x.name.size ≤ 100000 ∧ x.man.size ≤ 100000)
    (hv : RowsAt numLay w av m.vec) (hw : RowsAt strLay w aw m.wants) (hp : RowsAt oprLay w ao m.ops) (hc : RowsAt strLay w ap m.pcs) :
    Calls Tryz.prog 27 #[.agg #[.int .i64 m.kind, .slice av m.vec.length cv, .slice aw m.wants.length cw, .slice ao m.ops.length co, .slice ap m.pcs.length cp]] w fun e w' => e = .returned (.bool (rightM m)) ∧ Below w.heap.size w w' := by
  obtain ⟨kind, vec, wants, ops, pcs⟩ := m
  dsimp only at *
  have hbx := (Below.refl w.heap.size w).alloc (Nat.le_refl _) (.cells #[.int .i64 kind, .slice av vec.length cv, .slice aw wants.length cw, .slice ao ops.length co, .slice ap pcs.length cp] 38)
  have H1 := Lib.hid (all_v 15 av cv vec _ (by omega) (hv.keeps hbx) (fun x _ W => numOk_any x W))
  have hbox := VarAt.new w #[.int .i64 kind, .slice av vec.length cv, .slice aw wants.length cw, .slice ao ops.length co, .slice ap pcs.length cp] 38
  have H2 := Lib.hid fun W (h : RowsAt strLay W aw wants) => all_k 16 aw cw wants W (by omega) h (fun x _ W => keyOk_any x W)
  have H3 := Lib.hid fun W (h : RowsAt oprLay W ao ops) => all_o 20 ao co ops W (by omega) h (fun x hx W => opOk_any x W (ho x hx).1 (ho x hx).2)
  have H4 := Lib.hid fun W (h : RowsAt strLay W ap pcs) => all_p 16 ap cp pcs W (by omega) h (fun x _ W => pieceOk_any x W)
  have HQ := Lib.hid (show rightM ⟨kind, vec, wants, ops, pcs⟩ = (kindM ⟨kind, vec, wants, ops, pcs⟩ && allB vec 15 numOk && allB wants 16 keyOk && allB ops 20 opOk && allB pcs 16 pieceOk) from rfl)
  have HK := Lib.hid (kindM_iff (m := ⟨kind, vec, wants, ops, pcs⟩))
  have HN := Lib.hid (kind_no (m := ⟨kind, vec, wants, ops, pcs⟩))
  dsimp only at HK HN
  generalize rightM _ = q at *
  generalize kindM _ = kq at *
  generalize allB vec 15 numOk = b1 at *
  generalize allB wants 16 keyOk = b2 at *
  generalize allB ops 20 opOk = b3 at *
  generalize allB pcs 16 pieceOk = b4 at *
  clear ho
  by_cases k1 : kind < 1
  · have Hk := Lib.hid (HN.out (fun h => by omega))
    go_enter Tryz.func27, Tryz.ntmps27
    go_wp2_with fail
    go_ret
    exact ⟨ret_bool (by rw [HQ.out, Hk.out]; rfl), hbx⟩
  by_cases k3 : 3 < kind
  · have Hk := Lib.hid (HN.out (fun h => by omega))
    go_enter Tryz.func27, Tryz.ntmps27
    go_wp2_with fail
    go_ret
    exact ⟨ret_bool (by rw [HQ.out, Hk.out]; rfl), hbx⟩
  have k : kind = 1 ∨ kind = 2 ∨ kind = 3 := by omega
  rcases k with rfl | rfl | rfl
  · skip
    by_cases to : ¬ (ops.length = 0)
    · have hg : 0 < ops.length := by omega
      have hgd : decide ((0 : Int) < (ops.length : Int)) = true := decide_eq_true (by omega)
      have hge : decide (0 < ops.length) = true := decide_eq_true (by omega)
      clear to
      have Hk := Lib.hid (HN.out (fun h => by have := nil_len (h.2.2.2.1 (by omega)); omega))
      go_enter Tryz.func27, Tryz.ntmps27
      go_wp2_with fail
      go_ret
      exact ⟨ret_bool (by rw [HQ.out, Hk.out]; rfl), hbx⟩
    replace to : ops.length = 0 := Decidable.not_not.1 to
    have tdo : decide ((0 : Int) < (ops.length : Int)) = false := decide_eq_false (by omega)
    have teo : decide (0 < ops.length) = false := decide_eq_false (by omega)
    have tno : ¬ 0 < ops.length := by omega
    have To := Lib.hid to
    clear to
    by_cases tp : ¬ (pcs.length = 0)
    · have hg : 0 < pcs.length := by omega
      have hgd : decide ((0 : Int) < (pcs.length : Int)) = true := decide_eq_true (by omega)
      have hge : decide (0 < pcs.length) = true := decide_eq_true (by omega)
      clear tp
      have Hk := Lib.hid (HN.out (fun h => by have := nil_len (h.2.2.2.2 (by omega)); omega))
      go_enter Tryz.func27, Tryz.ntmps27
      go_wp2_with fail
      go_ret
      exact ⟨ret_bool (by rw [HQ.out, Hk.out]; rfl), hbx⟩
    replace tp : pcs.length = 0 := Decidable.not_not.1 tp
    have tdp : decide ((0 : Int) < (pcs.length : Int)) = false := decide_eq_false (by omega)
    have tep : decide (0 < pcs.length) = false := decide_eq_false (by omega)
    have tnp : ¬ 0 < pcs.length := by omega
    have Tp := Lib.hid tp
    clear tp
    have Hk := Lib.hid (show kq = true from HK.out.2 ⟨by omega, by omega, fun h => absurd rfl h, fun _ => len_nil To.out, fun _ => len_nil Tp.out⟩)
    go_enter Tryz.func27, Tryz.ntmps27
    go_wp2_with fail
    refine H1.out.mono ?_
    rintro e w1 ⟨rfl, hb1⟩
    have hB1 := hbx.trans (hb1.mono hbx.size)
    have hX1 := hbox.keeps hb1 hbox.1
    have x2 := hX1.2.2 2 _ rfl
    have x3 := hX1.2.2 3 _ rfl
    have x4 := hX1.2.2 4 _ rfl
    cases b1 with
    | false =>
      go_wp2_with fail
      go_ret
      exact ⟨ret_bool (by rw [HQ.out, Hk.out]; rfl), hB1⟩
    | true =>
      go_wp2_with fail
      refine (H2.out _ (hw.keeps hB1)).mono ?_
      rintro e w2 ⟨rfl, hb2⟩
      have hB2 := hB1.trans (hb2.mono hB1.size)
      have hX2 := hX1.keeps hb2 hX1.1
      clear x2 x3 x4
      have x3 := hX2.2.2 3 _ rfl
      have x4 := hX2.2.2 4 _ rfl
      cases b2 with
      | false =>
        go_wp2_with fail
        go_ret
        exact ⟨ret_bool (by rw [HQ.out, Hk.out]; rfl), hB2⟩
      | true =>
        go_wp2_with fail
        refine (H3.out _ (hp.keeps hB2)).mono ?_
        rintro e w3 ⟨rfl, hb3⟩
        have hB3 := hB2.trans (hb3.mono hB2.size)
        have hX3 := hX2.keeps hb3 hX2.1
        clear x3 x4
        have x4 := hX3.2.2 4 _ rfl
        cases b3 with
        | false =>
          go_wp2_with fail
          go_ret
          exact ⟨ret_bool (by rw [HQ.out, Hk.out]; rfl), hB3⟩
        | true =>
          go_wp2_with fail
          refine (H4.out _ (hc.keeps hB3)).mono ?_
          rintro e w4 ⟨rfl, hb4⟩
          go_wp2_with fail
          go_ret
          exact ⟨ret_bool (by rw [HQ.out, Hk.out]; cases b4 <;> rfl), hB3.trans (hb4.mono hB3.size)⟩
  · skip
    by_cases tvw : ¬ (vec.length + wants.length = 0)
    · have hg : 0 < vec.length + wants.length := by omega
      have hgd : decide ((0 : Int) < (vec.length : Int) + (wants.length : Int)) = true := decide_eq_true (by omega)
      have hge : decide (0 < vec.length + wants.length) = true := decide_eq_true (by omega)
      clear tvw
      have Hk := Lib.hid (HN.out (fun h => by have := h.2.2.1 (by omega); have h1 := nil_len this.1; have h2 := nil_len this.2; omega))
      go_enter Tryz.func27, Tryz.ntmps27
      go_wp2_with fail
      go_ret
      exact ⟨ret_bool (by rw [HQ.out, Hk.out]; rfl), hbx⟩
    replace tvw : vec.length + wants.length = 0 := Decidable.not_not.1 tvw
    have tdvw : decide ((0 : Int) < (vec.length : Int) + (wants.length : Int)) = false := decide_eq_false (by omega)
    have tevw : decide (0 < vec.length + wants.length) = false := decide_eq_false (by omega)
    have tnvw : ¬ 0 < vec.length + wants.length := by omega
    have Tvw := Lib.hid tvw
    clear tvw
    by_cases tp : ¬ (pcs.length = 0)
    · have hg : 0 < pcs.length := by omega
      have hgd : decide ((0 : Int) < (pcs.length : Int)) = true := decide_eq_true (by omega)
      have hge : decide (0 < pcs.length) = true := decide_eq_true (by omega)
      clear tp
      have Hk := Lib.hid (HN.out (fun h => by have := nil_len (h.2.2.2.2 (by omega)); omega))
      go_enter Tryz.func27, Tryz.ntmps27
      go_wp2_with fail
      go_ret
      exact ⟨ret_bool (by rw [HQ.out, Hk.out]; rfl), hbx⟩
    replace tp : pcs.length = 0 := Decidable.not_not.1 tp
    have tdp : decide ((0 : Int) < (pcs.length : Int)) = false := decide_eq_false (by omega)
    have tep : decide (0 < pcs.length) = false := decide_eq_false (by omega)
    have tnp : ¬ 0 < pcs.length := by omega
    have Tp := Lib.hid tp
    clear tp
    have Hk := Lib.hid (show kq = true from HK.out.2 ⟨by omega, by omega, fun _ => ⟨len_nil (by have := Tvw.out; omega), len_nil (by have := Tvw.out; omega)⟩, fun h => absurd rfl h, fun _ => len_nil Tp.out⟩)
    go_enter Tryz.func27, Tryz.ntmps27
    go_wp2_with fail
    refine H1.out.mono ?_
    rintro e w1 ⟨rfl, hb1⟩
    have hB1 := hbx.trans (hb1.mono hbx.size)
    have hX1 := hbox.keeps hb1 hbox.1
    have x2 := hX1.2.2 2 _ rfl
    have x3 := hX1.2.2 3 _ rfl
    have x4 := hX1.2.2 4 _ rfl
    cases b1 with
    | false =>
      go_wp2_with fail
      go_ret
      exact ⟨ret_bool (by rw [HQ.out, Hk.out]; rfl), hB1⟩
    | true =>
      go_wp2_with fail
      refine (H2.out _ (hw.keeps hB1)).mono ?_
      rintro e w2 ⟨rfl, hb2⟩
      have hB2 := hB1.trans (hb2.mono hB1.size)
      have hX2 := hX1.keeps hb2 hX1.1
      clear x2 x3 x4
      have x3 := hX2.2.2 3 _ rfl
      have x4 := hX2.2.2 4 _ rfl
      cases b2 with
      | false =>
        go_wp2_with fail
        go_ret
        exact ⟨ret_bool (by rw [HQ.out, Hk.out]; rfl), hB2⟩
      | true =>
        go_wp2_with fail
        refine (H3.out _ (hp.keeps hB2)).mono ?_
        rintro e w3 ⟨rfl, hb3⟩
        have hB3 := hB2.trans (hb3.mono hB2.size)
        have hX3 := hX2.keeps hb3 hX2.1
        clear x3 x4
        have x4 := hX3.2.2 4 _ rfl
        cases b3 with
        | false =>
          go_wp2_with fail
          go_ret
          exact ⟨ret_bool (by rw [HQ.out, Hk.out]; rfl), hB3⟩
        | true =>
          go_wp2_with fail
          refine (H4.out _ (hc.keeps hB3)).mono ?_
          rintro e w4 ⟨rfl, hb4⟩
          go_wp2_with fail
          go_ret
          exact ⟨ret_bool (by rw [HQ.out, Hk.out]; cases b4 <;> rfl), hB3.trans (hb4.mono hB3.size)⟩
  · skip
    by_cases tvw : ¬ (vec.length + wants.length = 0)
    · have hg : 0 < vec.length + wants.length := by omega
      have hgd : decide ((0 : Int) < (vec.length : Int) + (wants.length : Int)) = true := decide_eq_true (by omega)
      have hge : decide (0 < vec.length + wants.length) = true := decide_eq_true (by omega)
      clear tvw
      have Hk := Lib.hid (HN.out (fun h => by have := h.2.2.1 (by omega); have h1 := nil_len this.1; have h2 := nil_len this.2; omega))
      go_enter Tryz.func27, Tryz.ntmps27
      go_wp2_with fail
      go_ret
      exact ⟨ret_bool (by rw [HQ.out, Hk.out]; rfl), hbx⟩
    replace tvw : vec.length + wants.length = 0 := Decidable.not_not.1 tvw
    have tdvw : decide ((0 : Int) < (vec.length : Int) + (wants.length : Int)) = false := decide_eq_false (by omega)
    have tevw : decide (0 < vec.length + wants.length) = false := decide_eq_false (by omega)
    have tnvw : ¬ 0 < vec.length + wants.length := by omega
    have Tvw := Lib.hid tvw
    clear tvw
    by_cases to : ¬ (ops.length = 0)
    · have hg : 0 < ops.length := by omega
      have hgd : decide ((0 : Int) < (ops.length : Int)) = true := decide_eq_true (by omega)
      have hge : decide (0 < ops.length) = true := decide_eq_true (by omega)
      clear to
      have Hk := Lib.hid (HN.out (fun h => by have := nil_len (h.2.2.2.1 (by omega)); omega))
      go_enter Tryz.func27, Tryz.ntmps27
      go_wp2_with fail
      go_ret
      exact ⟨ret_bool (by rw [HQ.out, Hk.out]; rfl), hbx⟩
    replace to : ops.length = 0 := Decidable.not_not.1 to
    have tdo : decide ((0 : Int) < (ops.length : Int)) = false := decide_eq_false (by omega)
    have teo : decide (0 < ops.length) = false := decide_eq_false (by omega)
    have tno : ¬ 0 < ops.length := by omega
    have To := Lib.hid to
    clear to
    have Hk := Lib.hid (show kq = true from HK.out.2 ⟨by omega, by omega, fun _ => ⟨len_nil (by have := Tvw.out; omega), len_nil (by have := Tvw.out; omega)⟩, fun _ => len_nil To.out, fun h => absurd rfl h⟩)
    go_enter Tryz.func27, Tryz.ntmps27
    go_wp2_with fail
    refine H1.out.mono ?_
    rintro e w1 ⟨rfl, hb1⟩
    have hB1 := hbx.trans (hb1.mono hbx.size)
    have hX1 := hbox.keeps hb1 hbox.1
    have x2 := hX1.2.2 2 _ rfl
    have x3 := hX1.2.2 3 _ rfl
    have x4 := hX1.2.2 4 _ rfl
    cases b1 with
    | false =>
      go_wp2_with fail
      go_ret
      exact ⟨ret_bool (by rw [HQ.out, Hk.out]; rfl), hB1⟩
    | true =>
      go_wp2_with fail
      refine (H2.out _ (hw.keeps hB1)).mono ?_
      rintro e w2 ⟨rfl, hb2⟩
      have hB2 := hB1.trans (hb2.mono hB1.size)
      have hX2 := hX1.keeps hb2 hX1.1
      clear x2 x3 x4
      have x3 := hX2.2.2 3 _ rfl
      have x4 := hX2.2.2 4 _ rfl
      cases b2 with
      | false =>
        go_wp2_with fail
        go_ret
        exact ⟨ret_bool (by rw [HQ.out, Hk.out]; rfl), hB2⟩
      | true =>
        go_wp2_with fail
        refine (H3.out _ (hp.keeps hB2)).mono ?_
        rintro e w3 ⟨rfl, hb3⟩
        have hB3 := hB2.trans (hb3.mono hB2.size)
        have hX3 := hX2.keeps hb3 hX2.1
        clear x3 x4
        have x4 := hX3.2.2 4 _ rfl
        cases b3 with
        | false =>
          go_wp2_with fail
          go_ret
          exact ⟨ret_bool (by rw [HQ.out, Hk.out]; rfl), hB3⟩
        | true =>
          go_wp2_with fail
          refine (H4.out _ (hc.keeps hB3)).mono ?_
          rintro e w4 ⟨rfl, hb4⟩
          go_wp2_with fail
          go_ret
          exact ⟨ret_bool (by rw [HQ.out, Hk.out]; cases b4 <;> rfl), hB3.trans (hb4.mono hB3.size)⟩
end Go.Proofs.YtlenpifjkbcmdaaGreatDoor

namespace Go.Proofs.YtlenpifjkbcmdaaGreatDoor
open Go Go.RowKit Go.Lib

theorem flatMap_step {α : Type} {g : α → List UInt8} {l : List α} {k : Nat} {y : α} (h : l[k]? = some y) : (l.take (k + 1)).flatMap g = (l.take k).flatMap g ++ g y := by
  rw [List.take_add_one, h, List.flatMap_append]
  simp
theorem flatMap_len {α : Type} {g : α → List UInt8} {l : List α} {n : Nat} (h : ∀ x ∈ l, (g x).length ≤ n) : (l.flatMap g).length ≤ l.length * n := by
  induction l with
  | nil => simp
  | cons x l ih =>
    rw [List.flatMap_cons, List.length_append, List.length_cons, Nat.succ_mul]
    have := h x List.mem_cons_self
    have := ih fun y hy => h y (List.mem_cons_of_mem _ hy)
    omega
theorem flatMap_take_len {α : Type} {g : α → List UInt8} {l : List α} {n : Nat} (k : Nat) (hl : l.length ≤ 1000) (h : ∀ x ∈ l, (g x).length ≤ n) : ((l.take k).flatMap g).length ≤ 1000 * n := by
  have h1 := flatMap_len (g := g) (l := l.take k) (n := n) fun x hx => h x (List.mem_of_mem_take hx)
  have h2 : (l.take k).length ≤ 1000 := by rw [List.length_take]; omega
  exact Nat.le_trans h1 (Nat.mul_le_mul_right _ h2)

/-! ### int -/
set_option maxRecDepth 100000 in
set_option maxHeartbeats 3200000 in
theorem laid_int (g : Int → List UInt8) (a : Option Addr) (cap : Nat) (l : List Int) (w : World) (hl : l.length ≤ 1000) (hsz : ∀ x ∈ l, (g x).length ≤ 200000) (ha : RowsAt numLay w a l) (h : ∀ x ∈ l, ∀ W, Calls Tryz.prog 28 #[(.int .i64 x)] W fun e w' => e = .returned (.string ⟨(g x).toArray⟩) ∧ Below W.heap.size W w') :
    Calls Tryz.prog 29 #[.slice a l.length cap, .func (.func 28) #[] #[]] w fun e w' => e = .returned (.string ⟨(flatB g l).toArray⟩) ∧ Below w.heap.size w w' := by
  have HA := Lib.hid ha
  have HG := Lib.hid h
  have HN := Lib.hid (encNum_any (l.length : Int))
  have hq0 : (⟨(numL (l.length : Int)).toArray⟩ : ByteArray).size ≤ 9 := by rw [size_eq]; exact numL_len _
  have Hq0 := Lib.hid (show Lib.strCells ⟨(numL (l.length : Int)).toArray⟩ = Lib.byteCells (numL (l.length : Int)) from rfl)
  have HFB := Lib.hid (show flatB g l = numL (l.length : Int) ++ l.flatMap g from rfl)
  have HB := Lib.hid (fun k => flatMap_take_len (g := g) k hl hsz)
  have HS := Lib.hid fun bs W h hB => Tryz.Builder_String_any_f w.heap.size w.heap.size bs W h hB
  have hnl := numL_len (l.length : Int)
  clear ha h
  generalize (⟨(numL (l.length : Int)).toArray⟩ : ByteArray) = q0 at *
  generalize numL (l.length : Int) = n0 at *
  generalize flatB g l = fb at *
  go_enter Tryz.func29, Tryz.ntmps29
  go_wp2_with fail
  refine (HN.out _).mono ?_
  rintro e w1 ⟨rfl, hb1⟩
  have hbu1 := builder_far (Lib.fresh_isBuilder 99 5 w) hb1
  have hB1 := ((Below.refl w.heap.size w).alloc (Nat.le_refl _) (.cells #[.pointer none, .slice none 0 0] 99)).trans (hb1.mono (by simp))
  have hs1 := hB1.size
  go_wp2_with fail
  refine (write_any w.heap.size w.heap.size _ q0 w1 hbu1 (by simp; omega) hs1).mono ?_
  rintro e w2 ⟨rfl, hbu2, hb2, _⟩
  have hB2 := hB1.trans hb2
  rw [List.nil_append, Hq0.out] at hbu2
  clear hb1 hb2 hbu1 hB1 hs1
  go_wp2_with fail
  go_loopw [14] (fun i wr => ∃ k : Nat, k ≤ l.length ∧ i = .int .i64 k ∧ Lib.IsBuilder 99 5 w.heap.size w.heap.size (Lib.byteCells (n0 ++ (l.take k).flatMap g)) wr ∧ Below w.heap.size w wr) (fun i _ => l.length - (RowKit.intOf i).toNat)
  case atStart => exact ⟨0, Nat.zero_le _, rfl, by simp only [List.take_zero, List.flatMap_nil, List.append_nil]; exact .inr hbu2, hB2⟩
  case round =>
    obtain ⟨k, hk, rfl, hbu, hb⟩ := hrel
    by_cases hlt : k < l.length
    · obtain ⟨y, hy⟩ := at_some hlt
      obtain ⟨b1, off, rfl, hbl, c0⟩ := num_at (HA.out.keeps hb) hy
      have Hst := Lib.hid (flatMap_step (g := g) hy)
      have hgl := hsz y (List.mem_of_getElem? hy)
      have HGy := Lib.hid (HG.out y (List.mem_of_getElem? hy) wr)
      have hbl2 := HB.out k
      have hgs : (⟨(g y).toArray⟩ : ByteArray).size ≤ 200000 := by rw [size_eq]; exact hgl
      have Hgs := Lib.hid (show Lib.strCells ⟨(g y).toArray⟩ = Lib.byteCells (g y) from rfl)
      clear hy hgl
      generalize (⟨(g y).toArray⟩ : ByteArray) = q at *
      go_wp2_with fail
      refine HGy.out.mono ?_
      rintro e w3 ⟨rfl, hb3⟩
      have hb3' := hb3
      have hbu3 := builder_far hbu hb3'
      have hB3 := hb.trans (hb3'.mono hb.size)
      have hs3 := hB3.size
      go_wp2_with fail
      refine (write_any w.heap.size w.heap.size _ q w3 hbu3 (by rw [Lib.byteCells_length, List.length_append]; omega) hs3).mono ?_
      rintro e w4 ⟨rfl, hbu4, hb4, _⟩
      have hB4 := hB3.trans hb4
      go_wp2_with fail
      go_roundw
      case rel =>
        refine ⟨k + 1, by omega, by go_num, ?_, hB4⟩
        rw [Hst.out, ← List.append_assoc, ← byteCells_append, ← Hgs.out]
        exact .inr hbu4
      case measure => simp [RowKit.intOf]; omega
    · obtain rfl : k = l.length := by omega
      rw [List.take_length, ← HFB.out] at hbu
      have hf := Lib.IsBuilderF.of hbu
      have hsw := hb.size
      go_wp2_with fail
      refine (HS.out _ _ hf hsw).mono ?_
      rintro e w5 ⟨rfl, hk5, hb5⟩
      go_wp2_with fail
      go_ret
      exact ⟨rfl, hb.trans hb5⟩

/-! ### string -/
set_option maxRecDepth 100000 in
set_option maxHeartbeats 3200000 in
theorem laid_str (g : ByteArray → List UInt8) (a : Option Addr) (cap : Nat) (l : List ByteArray) (w : World) (hl : l.length ≤ 1000) (hsz : ∀ x ∈ l, (g x).length ≤ 200000) (ha : RowsAt strLay w a l) (h : ∀ x ∈ l, ∀ W, Calls Tryz.prog 31 #[(.string x)] W fun e w' => e = .returned (.string ⟨(g x).toArray⟩) ∧ Below W.heap.size W w') :
    Calls Tryz.prog 30 #[.slice a l.length cap, .func (.func 31) #[] #[]] w fun e w' => e = .returned (.string ⟨(flatB g l).toArray⟩) ∧ Below w.heap.size w w' := by
  have HA := Lib.hid ha
  have HG := Lib.hid h
  have HN := Lib.hid (encNum_any (l.length : Int))
  have hq0 : (⟨(numL (l.length : Int)).toArray⟩ : ByteArray).size ≤ 9 := by rw [size_eq]; exact numL_len _
  have Hq0 := Lib.hid (show Lib.strCells ⟨(numL (l.length : Int)).toArray⟩ = Lib.byteCells (numL (l.length : Int)) from rfl)
  have HFB := Lib.hid (show flatB g l = numL (l.length : Int) ++ l.flatMap g from rfl)
  have HB := Lib.hid (fun k => flatMap_take_len (g := g) k hl hsz)
  have HS := Lib.hid fun bs W h hB => Tryz.Builder_String_any_f w.heap.size w.heap.size bs W h hB
  have hnl := numL_len (l.length : Int)
  clear ha h
  generalize (⟨(numL (l.length : Int)).toArray⟩ : ByteArray) = q0 at *
  generalize numL (l.length : Int) = n0 at *
  generalize flatB g l = fb at *
  go_enter Tryz.func30, Tryz.ntmps30
  go_wp2_with fail
  refine (HN.out _).mono ?_
  rintro e w1 ⟨rfl, hb1⟩
  have hbu1 := builder_far (Lib.fresh_isBuilder 99 5 w) hb1
  have hB1 := ((Below.refl w.heap.size w).alloc (Nat.le_refl _) (.cells #[.pointer none, .slice none 0 0] 99)).trans (hb1.mono (by simp))
  have hs1 := hB1.size
  go_wp2_with fail
  refine (write_any w.heap.size w.heap.size _ q0 w1 hbu1 (by simp; omega) hs1).mono ?_
  rintro e w2 ⟨rfl, hbu2, hb2, _⟩
  have hB2 := hB1.trans hb2
  rw [List.nil_append, Hq0.out] at hbu2
  clear hb1 hb2 hbu1 hB1 hs1
  go_wp2_with fail
  go_loopw [14] (fun i wr => ∃ k : Nat, k ≤ l.length ∧ i = .int .i64 k ∧ Lib.IsBuilder 99 5 w.heap.size w.heap.size (Lib.byteCells (n0 ++ (l.take k).flatMap g)) wr ∧ Below w.heap.size w wr) (fun i _ => l.length - (RowKit.intOf i).toNat)
  case atStart => exact ⟨0, Nat.zero_le _, rfl, by simp only [List.take_zero, List.flatMap_nil, List.append_nil]; exact .inr hbu2, hB2⟩
  case round =>
    obtain ⟨k, hk, rfl, hbu, hb⟩ := hrel
    by_cases hlt : k < l.length
    · obtain ⟨y, hy⟩ := at_some hlt
      obtain ⟨b1, off, rfl, hbl, c0⟩ := str_at (HA.out.keeps hb) hy
      have Hst := Lib.hid (flatMap_step (g := g) hy)
      have hgl := hsz y (List.mem_of_getElem? hy)
      have HGy := Lib.hid (HG.out y (List.mem_of_getElem? hy) wr)
      have hbl2 := HB.out k
      have hgs : (⟨(g y).toArray⟩ : ByteArray).size ≤ 200000 := by rw [size_eq]; exact hgl
      have Hgs := Lib.hid (show Lib.strCells ⟨(g y).toArray⟩ = Lib.byteCells (g y) from rfl)
      clear hy hgl
      generalize (⟨(g y).toArray⟩ : ByteArray) = q at *
      go_wp2_with fail
      refine HGy.out.mono ?_
      rintro e w3 ⟨rfl, hb3⟩
      have hb3' := hb3
      have hbu3 := builder_far hbu hb3'
      have hB3 := hb.trans (hb3'.mono hb.size)
      have hs3 := hB3.size
      go_wp2_with fail
      refine (write_any w.heap.size w.heap.size _ q w3 hbu3 (by rw [Lib.byteCells_length, List.length_append]; omega) hs3).mono ?_
      rintro e w4 ⟨rfl, hbu4, hb4, _⟩
      have hB4 := hB3.trans hb4
      go_wp2_with fail
      go_roundw
      case rel =>
        refine ⟨k + 1, by omega, by go_num, ?_, hB4⟩
        rw [Hst.out, ← List.append_assoc, ← byteCells_append, ← Hgs.out]
        exact .inr hbu4
      case measure => simp [RowKit.intOf]; omega
    · obtain rfl : k = l.length := by omega
      rw [List.take_length, ← HFB.out] at hbu
      have hf := Lib.IsBuilderF.of hbu
      have hsw := hb.size
      go_wp2_with fail
      refine (HS.out _ _ hf hsw).mono ?_
      rintro e w5 ⟨rfl, hk5, hb5⟩
      go_wp2_with fail
      go_ret
      exact ⟨rfl, hb.trans hb5⟩

/-! ### arbour/api.Op -/
set_option maxRecDepth 100000 in
set_option maxHeartbeats 3200000 in
theorem laid_op (g : Opr → List UInt8) (a : Option Addr) (cap : Nat) (l : List Opr) (w : World) (hl : l.length ≤ 1000) (hsz : ∀ x ∈ l, (g x).length ≤ 200000) (ha : RowsAt oprLay w a l) (h : ∀ x ∈ l, ∀ W, Calls Tryz.prog 33 #[(.agg #[.int .i64 x.cnt, .int .i64 x.who, .int .i64 x.seq, .int .i64 x.kind, .int .i64 x.nc, .int .i64 x.nw, .bool x.dir, .int .i64 x.pc, .int .i64 x.pw, .string x.name, .string x.man])] W fun e w' => e = .returned (.string ⟨(g x).toArray⟩) ∧ Below W.heap.size W w') :
    Calls Tryz.prog 32 #[.slice a l.length cap, .func (.func 33) #[] #[]] w fun e w' => e = .returned (.string ⟨(flatB g l).toArray⟩) ∧ Below w.heap.size w w' := by
  have HA := Lib.hid ha
  have HG := Lib.hid h
  have HN := Lib.hid (encNum_any (l.length : Int))
  have hq0 : (⟨(numL (l.length : Int)).toArray⟩ : ByteArray).size ≤ 9 := by rw [size_eq]; exact numL_len _
  have Hq0 := Lib.hid (show Lib.strCells ⟨(numL (l.length : Int)).toArray⟩ = Lib.byteCells (numL (l.length : Int)) from rfl)
  have HFB := Lib.hid (show flatB g l = numL (l.length : Int) ++ l.flatMap g from rfl)
  have HB := Lib.hid (fun k => flatMap_take_len (g := g) k hl hsz)
  have HS := Lib.hid fun bs W h hB => Tryz.Builder_String_any_f w.heap.size w.heap.size bs W h hB
  have hnl := numL_len (l.length : Int)
  clear ha h
  generalize (⟨(numL (l.length : Int)).toArray⟩ : ByteArray) = q0 at *
  generalize numL (l.length : Int) = n0 at *
  generalize flatB g l = fb at *
  go_enter Tryz.func32, Tryz.ntmps32
  go_wp2_with fail
  refine (HN.out _).mono ?_
  rintro e w1 ⟨rfl, hb1⟩
  have hbu1 := builder_far (Lib.fresh_isBuilder 99 5 w) hb1
  have hB1 := ((Below.refl w.heap.size w).alloc (Nat.le_refl _) (.cells #[.pointer none, .slice none 0 0] 99)).trans (hb1.mono (by simp))
  have hs1 := hB1.size
  go_wp2_with fail
  refine (write_any w.heap.size w.heap.size _ q0 w1 hbu1 (by simp; omega) hs1).mono ?_
  rintro e w2 ⟨rfl, hbu2, hb2, _⟩
  have hB2 := hB1.trans hb2
  rw [List.nil_append, Hq0.out] at hbu2
  clear hb1 hb2 hbu1 hB1 hs1
  go_wp2_with fail
  go_loopw [14] (fun i wr => ∃ k : Nat, k ≤ l.length ∧ i = .int .i64 k ∧ Lib.IsBuilder 99 5 w.heap.size w.heap.size (Lib.byteCells (n0 ++ (l.take k).flatMap g)) wr ∧ Below w.heap.size w wr) (fun i _ => l.length - (RowKit.intOf i).toNat)
  case atStart => exact ⟨0, Nat.zero_le _, rfl, by simp only [List.take_zero, List.flatMap_nil, List.append_nil]; exact .inr hbu2, hB2⟩
  case round =>
    obtain ⟨k, hk, rfl, hbu, hb⟩ := hrel
    by_cases hlt : k < l.length
    · obtain ⟨y, hy⟩ := at_some hlt
      obtain ⟨b1, off, rfl, hbl, c0, c1, c2, c3, c4, c5, c6, c7, c8, c9, c10⟩ := opr_at (HA.out.keeps hb) hy
      have Hst := Lib.hid (flatMap_step (g := g) hy)
      have hgl := hsz y (List.mem_of_getElem? hy)
      have HGy := Lib.hid (HG.out y (List.mem_of_getElem? hy) (wr.alloc (.cells #[.int .i64 y.cnt, .int .i64 y.who, .int .i64 y.seq, .int .i64 y.kind, .int .i64 y.nc, .int .i64 y.nw, .bool y.dir, .int .i64 y.pc, .int .i64 y.pw, .string y.name, .string y.man] 28)))
      have hbl2 := HB.out k
      have hgs : (⟨(g y).toArray⟩ : ByteArray).size ≤ 200000 := by rw [size_eq]; exact hgl
      have Hgs := Lib.hid (show Lib.strCells ⟨(g y).toArray⟩ = Lib.byteCells (g y) from rfl)
      clear hy hgl
      generalize (⟨(g y).toArray⟩ : ByteArray) = q at *
      go_wp2_with fail
      refine HGy.out.mono ?_
      rintro e w3 ⟨rfl, hb3⟩
      have hbp := (Below.refl wr.heap.size wr).alloc (Nat.le_refl _) (.cells #[.int .i64 y.cnt, .int .i64 y.who, .int .i64 y.seq, .int .i64 y.kind, .int .i64 y.nc, .int .i64 y.nw, .bool y.dir, .int .i64 y.pc, .int .i64 y.pw, .string y.name, .string y.man] 28)
      have hb3' := hbp.trans (hb3.mono hbp.size)
      have hbu3 := builder_far hbu hb3'
      have hB3 := hb.trans (hb3'.mono hb.size)
      have hs3 := hB3.size
      go_wp2_with fail
      refine (write_any w.heap.size w.heap.size _ q w3 hbu3 (by rw [Lib.byteCells_length, List.length_append]; omega) hs3).mono ?_
      rintro e w4 ⟨rfl, hbu4, hb4, _⟩
      have hB4 := hB3.trans hb4
      go_wp2_with fail
      go_roundw
      case rel =>
        refine ⟨k + 1, by omega, by go_num, ?_, hB4⟩
        rw [Hst.out, ← List.append_assoc, ← byteCells_append, ← Hgs.out]
        exact .inr hbu4
      case measure => simp [RowKit.intOf]; omega
    · obtain rfl : k = l.length := by omega
      rw [List.take_length, ← HFB.out] at hbu
      have hf := Lib.IsBuilderF.of hbu
      have hsw := hb.size
      go_wp2_with fail
      refine (HS.out _ _ hf hsw).mono ?_
      rintro e w5 ⟨rfl, hk5, hb5⟩
      go_wp2_with fail
      go_ret
      exact ⟨rfl, hb.trans hb5⟩
end Go.Proofs.YtlenpifjkbcmdaaGreatDoor

namespace Go.Proofs.YtlenpifjkbcmdaaGreatDoor
open Go Go.RowKit Go.Lib

set_option maxRecDepth 100000 in
theorem encOp_any (x : Opr) (w : World) (hr : rightO x = 0) (hn : x.name.size ≤ 10000) (hm : x.man.size ≤ 10000) :
    Calls Tryz.prog 33 #[.agg #[.int .i64 x.cnt, .int .i64 x.who, .int .i64 x.seq, .int .i64 x.kind, .int .i64 x.nc, .int .i64 x.nw, .bool x.dir, .int .i64 x.pc, .int .i64 x.pw, .string x.name, .string x.man]] w fun e w' => e = .returned (.string ⟨(oprL x).toArray⟩) ∧ Below w.heap.size w w' := by
  have HE := Lib.hid fun W => encode_any x W (by omega) (by omega)
  have hq : encB x = encBA x := by unfold encB; rw [if_pos hr]; rfl
  rw [hq] at HE
  have HT := Lib.hid fun W => encText_any (encBA x) W (by have := encBA_size hn hm; omega)
  rw [encBA_list] at HT
  have HO := Lib.hid (show oprL x = textL (encL x) from rfl)
  have hbx := (Below.refl w.heap.size w).alloc (Nat.le_refl _) (.cells #[.int .i64 x.cnt, .int .i64 x.who, .int .i64 x.seq, .int .i64 x.kind, .int .i64 x.nc, .int .i64 x.nw, .bool x.dir, .int .i64 x.pc, .int .i64 x.pw, .string x.name, .string x.man] 28)
  clear hq
  generalize encBA x = q at *
  generalize rightO x = r at *
  generalize textL (encL x) = t at *
  generalize oprL x = ol at *
  go_enter Tryz.func33, Tryz.ntmps33
  go_wp2_with fail
  refine (HE.out _).mono ?_
  rintro e w1 ⟨rfl, hb1⟩
  have hB1 := hbx.trans (hb1.mono hbx.size)
  go_wp2_with fail
  refine (HT.out _).mono ?_
  rintro e w2 ⟨rfl, hb2⟩
  go_wp2_with fail
  go_ret
  exact ⟨ret_str (by rw [HO.out]), hB1.trans (hb2.mono hB1.size)⟩
theorem ret_se {a b : ByteArray} {i j : Int} (h1 : a = b) (h2 : i = j) : Ending.returned (.tuple #[.string a, .int .i64 i]) = .returned (.tuple #[.string b, .int .i64 j]) := by rw [h1, h2]
def encMB (m : Msg) : ByteArray := if rightM m = true then ⟨(encM m).toArray⟩ else ⟨#[]⟩
def errM (m : Msg) : Int := if rightM m = true then 0 else 1
theorem flatB_len {α : Type} {g : α → List UInt8} {l : List α} {n : Nat} (h : ∀ x ∈ l, (g x).length ≤ n) : (flatB g l).length ≤ 9 + l.length * n := by
  unfold flatB
  rw [List.length_append]
  have := numL_len (l.length : Int)
  have := flatMap_len h
  omega
theorem strL_len {s : ByteArray} (h : s.size ≤ 10000) : (strL s).length ≤ 9 + s.size := by
  unfold strL
  have := textL_le (s := s.data.toList) (by rw [← size_eq]; omega)
  rw [← size_eq] at this
  exact this
theorem oprL_len {x : Opr} (hn : x.name.size ≤ 10000) (hm : x.man.size ≤ 10000) : (oprL x).length ≤ 20108 := by
  unfold oprL
  have h1 := encL_len hn hm
  have := textL_le (s := encL x) (by omega)
  omega
theorem ba_app (a b : List UInt8) : (⟨a.toArray⟩ : ByteArray) ++ ⟨b.toArray⟩ = ⟨(a ++ b).toArray⟩ := by
  apply ba_ext
  rw [ByteArray.data_append, Array.toList_append]
theorem encM_1 {m : Msg} (h : m.kind = 1) : (⟨(encM m).toArray⟩ : ByteArray) = ⟨(numL m.kind).toArray⟩ ++ ⟨(flatB numL m.vec).toArray⟩ ++ ⟨(flatB strL m.wants).toArray⟩ := by
  rw [ba_app, ba_app]
  unfold encM
  rw [if_pos h, List.append_assoc]
theorem encM_2 {m : Msg} (h : m.kind = 2) : (⟨(encM m).toArray⟩ : ByteArray) = ⟨(numL m.kind).toArray⟩ ++ ⟨(flatB oprL m.ops).toArray⟩ := by
  rw [ba_app]
  unfold encM
  rw [if_neg (by omega), if_pos h]
theorem encM_3 {m : Msg} (h1 : m.kind ≠ 1) (h2 : m.kind ≠ 2) : (⟨(encM m).toArray⟩ : ByteArray) = ⟨(numL m.kind).toArray⟩ ++ ⟨(flatB strL m.pcs).toArray⟩ := by
  rw [ba_app]
  unfold encM
  rw [if_neg h1, if_neg h2]
theorem ba_size (l : List UInt8) : (⟨l.toArray⟩ : ByteArray).size = l.length := by rw [size_eq]
set_option maxRecDepth 100000 in
set_option maxHeartbeats 6400000 in
theorem mencode_any (m : Msg) (av aw ao ap : Option Addr) (cv cw co cp : Nat) (w : World) (l1 : m.vec.length ≤ 1000) (l2 : m.wants.length ≤ 1000) (l3 : m.ops.length ≤ 1000) (l4 : m.pcs.length ≤ 1000) (ho : ∀ x ∈ m.ops, x.name.size ≤ 10000 ∧ x.man.size ≤ 10000)
    (hv : RowsAt numLay w av m.vec) (hw : RowsAt strLay w aw m.wants) (hp : RowsAt oprLay w ao m.ops) (hc : RowsAt strLay w ap m.pcs) :
    Calls Tryz.prog 8 #[.agg #[.int .i64 m.kind, .slice av m.vec.length cv, .slice aw m.wants.length cw, .slice ao m.ops.length co, .slice ap m.pcs.length cp]] w fun e w' => e = .returned (.tuple #[.string (encMB m), .int .i64 (errM m)]) ∧ Below w.heap.size w w' := by
  have HR := Lib.hid fun W hv hw hp hc => mright_any m av aw ao ap cv cw co cp W (by omega) (by omega) (by omega) (by omega) (fun x hx => by have := ho x hx; omega) hv hw hp hc
  have HEB := Lib.hid (show encMB m = if rightM m = true then ⟨(encM m).toArray⟩ else ⟨#[]⟩ from rfl)
  have HEE := Lib.hid (show errM m = if rightM m = true then 0 else 1 from rfl)
  have hbx := (Below.refl w.heap.size w).alloc (Nat.le_refl _) (.cells #[.int .i64 m.kind, .slice av m.vec.length cv, .slice aw m.wants.length cw, .slice ao m.ops.length co, .slice ap m.pcs.length cp] 38)
  have hbox := VarAt.new w #[.int .i64 m.kind, .slice av m.vec.length cv, .slice aw m.wants.length cw, .slice ao m.ops.length co, .slice ap m.pcs.length cp] 38
  have HRx := Lib.hid (HR.out _ (hv.keeps hbx) (hw.keeps hbx) (hp.keeps hbx) (hc.keeps hbx))
  cases hr : rightM m with
  | false =>
    rw [hr] at HEB HEE HRx
    clear hr hv hw hp hc
    generalize encMB m = eb at *
    generalize errM m = ee at *
    go_enter Tryz.func8, Tryz.ntmps8
    go_wp2_with fail
    refine HRx.out.mono ?_
    rintro e w1 ⟨rfl, hb1⟩
    go_wp2_with fail
    go_ret2
    exact ⟨by rw [HEB.out, HEE.out]; rfl, hbx.trans (hb1.mono hbx.size)⟩
  | true =>
    rw [hr] at HEB HEE HRx
    obtain ⟨hk, ⟨v1, v2⟩, ⟨w1', w2'⟩, ⟨o1, o2⟩, p1, p2⟩ := rightM_iff.1 hr
    have hkk := kindM_iff.1 hk
    have HNk := Lib.hid fun W => encNum_any m.kind W
    have hz0 : (⟨(numL m.kind).toArray⟩ : ByteArray).size ≤ 9 := by rw [ba_size]; exact numL_len _
    have hwl : ∀ x ∈ m.wants, (strL x).length ≤ 41 := fun x hx => by
      have := w2' x hx
      simp only [keyOk, beq_iff_eq] at this
      have := strL_len (s := x) (by omega)
      omega
    have hpl : ∀ x ∈ m.pcs, (strL x).length ≤ 265 := fun x hx => by
      have := p2 x hx
      simp only [pieceOk, Bool.and_eq_true, decide_eq_true_eq] at this
      have := strL_len (s := x) (by omega)
      omega
    have hol : ∀ x ∈ m.ops, (oprL x).length ≤ 20108 := fun x hx => oprL_len (ho x hx).1 (ho x hx).2
    have HL1 := Lib.hid fun W (h : RowsAt numLay W av m.vec) => laid_int numL av cv m.vec W (by omega) (fun x _ => Nat.le_trans (numL_len x) (by omega)) h (fun x _ W => encNum_any x W)
    have HL2 := Lib.hid fun W (h : RowsAt strLay W aw m.wants) => laid_str strL aw cw m.wants W (by omega) (fun x hx => Nat.le_trans (hwl x hx) (by omega)) h (fun x hx W => encText_any x W (by have := w2' x hx; simp only [keyOk, beq_iff_eq] at this; omega))
    have HL3 := Lib.hid fun W (h : RowsAt oprLay W ao m.ops) => laid_op oprL ao co m.ops W (by omega) (fun x hx => Nat.le_trans (hol x hx) (by omega)) h (fun x hx W => encOp_any x W (by have := o2 x hx; simpa [opOk] using this) (ho x hx).1 (ho x hx).2)
    have HL4 := Lib.hid fun W (h : RowsAt strLay W ap m.pcs) => laid_str strL ap cp m.pcs W (by omega) (fun x hx => Nat.le_trans (hpl x hx) (by omega)) h (fun x hx W => encText_any x W (by have := p2 x hx; simp only [pieceOk, Bool.and_eq_true, decide_eq_true_eq] at this; omega))
    have hz1 : (⟨(flatB numL m.vec).toArray⟩ : ByteArray).size ≤ 1000000 := by
      rw [ba_size]
      have := flatB_len (g := numL) (l := m.vec) (n := 9) (fun x _ => numL_len x)
      omega
    have hz2 : (⟨(flatB strL m.wants).toArray⟩ : ByteArray).size ≤ 1000000 := by
      rw [ba_size]
      have := flatB_len hwl
      omega
    have hz3 : (⟨(flatB oprL m.ops).toArray⟩ : ByteArray).size ≤ 1000000 := by
      rw [ba_size]
      have := flatB_len hol
      omega
    have hz4 : (⟨(flatB strL m.pcs).toArray⟩ : ByteArray).size ≤ 1000000 := by
      rw [ba_size]
      have := flatB_len hpl
      omega
    have HM1 := Lib.hid (encM_1 (m := m))
    have HM2 := Lib.hid (encM_2 (m := m))
    have HM3 := Lib.hid (encM_3 (m := m))
    obtain ⟨k1, k2, -⟩ := hkk
    clear hr hk v1 v2 w1' w2' o1 o2 p1 p2 hwl hpl hol ho
    obtain ⟨kind, vec, wants, ops, pcs⟩ := m
    dsimp only at *
    generalize encMB _ = eb at *
    generalize errM _ = ee at *
    generalize (⟨(encM _).toArray⟩ : ByteArray) = em at *
    generalize (⟨(numL kind).toArray⟩ : ByteArray) = q0 at *
    generalize (⟨(flatB numL vec).toArray⟩ : ByteArray) = q1 at *
    generalize (⟨(flatB strL wants).toArray⟩ : ByteArray) = q2 at *
    generalize (⟨(flatB oprL ops).toArray⟩ : ByteArray) = q3 at *
    generalize (⟨(flatB strL pcs).toArray⟩ : ByteArray) = q4 at *
    have k : kind = 1 ∨ kind = 2 ∨ kind = 3 := by omega
    rcases k with rfl | rfl | rfl
    · have hA1 : ¬ (q0.size + q1.size > 9223372036854775807) := by omega
      have hA2 : q0.size + q1.size ≤ 9223372036854775807 := by omega
      have hA3 : ¬ (q0.size + q1.size + q2.size > 9223372036854775807) := by omega
      have hA4 : q0.size + q1.size + q2.size ≤ 9223372036854775807 := by omega
      go_enter Tryz.func8, Tryz.ntmps8
      go_wp2_with fail
      refine HRx.out.mono ?_
      rintro e w1 ⟨rfl, hb1⟩
      have hB1 := hbx.trans (hb1.mono hbx.size)
      have hX1 := hbox.keeps hb1 hbox.1
      have x0 := hX1.2.2 0 _ rfl
      go_wp2_with fail
      refine (HNk.out _).mono ?_
      rintro e w2 ⟨rfl, hb2⟩
      have hB2 := hB1.trans (hb2.mono hB1.size)
      have hX2 := hX1.keeps hb2 hX1.1
      clear x0 hX1
      have x0 := hX2.2.2 0 _ rfl
      have x1 := hX2.2.2 1 _ rfl
      have x2 := hX2.2.2 2 _ rfl
      have x3 := hX2.2.2 3 _ rfl
      have x4 := hX2.2.2 4 _ rfl
      have r1 := cell_regrown x1
      have r2 := cell_regrown x2
      go_wp2_with fail
      refine wp_region_quiet_below (by kernel_rfl) (by kernel_rfl) ?_
      repeat (go_big_quiet_step (first | exact Calls.regrown_of (HL1.out _ ((hv.keeps hB2).keeps (below_regrown _ _ _))) | exact Calls.regrown_of (HL2.out _ ((hw.keeps hB2).keeps (below_regrown _ _ _)))))
      refine wpQuiet_nil ?_
      intro _ hw'
      obtain ⟨⟨dq, osq⟩, hw''⟩ := hw'
      subst hw''
      go_wp2_with fail
      go_ret2
      exact ⟨ret_se (HEB.out.trans ((if_pos (by trivial)).trans (HM1.out (by trivial)))).symm (HEE.out.trans (if_pos (by trivial))).symm, hB2.trans ((below_regrown w2 dq osq).mono hB2.size)⟩
    · have hA1 : ¬ (q0.size + q3.size > 9223372036854775807) := by omega
      have hA2 : q0.size + q3.size ≤ 9223372036854775807 := by omega
      go_enter Tryz.func8, Tryz.ntmps8
      go_wp2_with fail
      refine HRx.out.mono ?_
      rintro e w1 ⟨rfl, hb1⟩
      have hB1 := hbx.trans (hb1.mono hbx.size)
      have hX1 := hbox.keeps hb1 hbox.1
      have x0 := hX1.2.2 0 _ rfl
      go_wp2_with fail
      refine (HNk.out _).mono ?_
      rintro e w2 ⟨rfl, hb2⟩
      have hB2 := hB1.trans (hb2.mono hB1.size)
      have hX2 := hX1.keeps hb2 hX1.1
      clear x0 hX1
      have x0 := hX2.2.2 0 _ rfl
      have x1 := hX2.2.2 1 _ rfl
      have x2 := hX2.2.2 2 _ rfl
      have x3 := hX2.2.2 3 _ rfl
      have x4 := hX2.2.2 4 _ rfl
      go_wp2_with fail
      refine (HL3.out _ (hp.keeps hB2)).mono ?_
      rintro e w3 ⟨rfl, hb3⟩
      go_wp2_with fail
      go_ret2
      exact ⟨ret_se (HEB.out.trans ((if_pos (by trivial)).trans (HM2.out (by trivial)))).symm (HEE.out.trans (if_pos (by trivial))).symm, hB2.trans (hb3.mono hB2.size)⟩
    · have hA1 : ¬ (q0.size + q4.size > 9223372036854775807) := by omega
      have hA2 : q0.size + q4.size ≤ 9223372036854775807 := by omega
      go_enter Tryz.func8, Tryz.ntmps8
      go_wp2_with fail
      refine HRx.out.mono ?_
      rintro e w1 ⟨rfl, hb1⟩
      have hB1 := hbx.trans (hb1.mono hbx.size)
      have hX1 := hbox.keeps hb1 hbox.1
      have x0 := hX1.2.2 0 _ rfl
      go_wp2_with fail
      refine (HNk.out _).mono ?_
      rintro e w2 ⟨rfl, hb2⟩
      have hB2 := hB1.trans (hb2.mono hB1.size)
      have hX2 := hX1.keeps hb2 hX1.1
      clear x0 hX1
      have x0 := hX2.2.2 0 _ rfl
      have x1 := hX2.2.2 1 _ rfl
      have x2 := hX2.2.2 2 _ rfl
      have x3 := hX2.2.2 3 _ rfl
      have x4 := hX2.2.2 4 _ rfl
      go_wp2_with fail
      refine (HL4.out _ (hc.keeps hB2)).mono ?_
      rintro e w3 ⟨rfl, hb3⟩
      go_wp2_with fail
      go_ret2
      exact ⟨ret_se (HEB.out.trans ((if_pos (by trivial)).trans (HM3.out (by decide) (by decide)))).symm (HEE.out.trans (if_pos (by trivial))).symm, hB2.trans (hb3.mono hB2.size)⟩
end Go.Proofs.YtlenpifjkbcmdaaGreatDoor

