/-
  Which names a disk's files have, call by call, and how many there are: the plain law. A frame: below B nothing has turned but the blocks of S. Of no program. sync.Once in one goroutine, as crc's table uses it: the lock, the two deferred calls. A variable of several cells that is written, cell by cell. Of no program. Several cells of one block, written one behind the other. Of no program. crc's table: its steps are laid. crc's table: made once; a byte's step. crc.Sum.
-/
import Derived.Test.YtgglheelhbfgiaaGreatDoorMg5
import Derived.Test.YtgglheelhbfgiaaGreatDoorMg1
import Derived.Test.YtgglheelhbfgiaaGreatDoorProg
import Derived.Test.YtgglheelhbfgiaaGreatDoorMg2
import Derived.Defers
import Derived.Laws.Pointers
import Derived.Laws.LoneSync
import Derived.RegionTactic
import Derived.RegionCalls
import Derived.ChangeAlike
import Derived.Laws.NewBlocks
import Derived.Laws.BitsAllLaws
import Derived.IntWalk
namespace Go.Proofs.YtgglheelhbfgiaaGreatDoor
open Go Go.RowKit
structure NmIn (V : ByteArray → Prop) (d : Dk) : Prop where
  now : ∀ x ∈ d.now, V x.1
  firm : ∀ x ∈ d.firm, V x.1
  acts : ∀ a ∈ d.acts, V a.name
theorem NmIn.mono {V U : ByteArray → Prop} {d : Dk} (h : NmIn V d) (hV : ∀ p, V p → U p) : NmIn U d := ⟨fun x hx => hV _ (h.now x hx), fun x hx => hV _ (h.firm x hx), fun a ha => hV _ (h.acts a ha)⟩
theorem nm_do {V : ByteArray → Prop} {es : Fls} {a : ActD} (torn : Bool) (h : ∀ x ∈ es, V x.1) (ha : V a.name) : ∀ x ∈ doD es a torn, V x.1 := by
  have hp : ∀ s, ∀ x ∈ putK es a.name s, V x.1 := fun s x hx => by
    rcases (mem_putK x).1 hx with rfl | ⟨h1, _⟩
    · exact ha
    · exact h x h1
  unfold doD
  split
  · cases findK es a.name with
    | none => exact h
    | some s => exact hp _
  · exact hp _
theorem NmIn.dies {V : ByteArray → Prop} {d : Dk} (h : NmIn V d) : NmIn V (diesD d) := by
  unfold diesD
  split
  · exact ⟨h.now, h.firm, h.acts⟩
  · exact h
theorem NmIn.does {V : ByteArray → Prop} {d : Dk} (h : NmIn V d) {a : ActD} (ha : V a.name) : NmIn V (doesD d a).1 := by
  have h1 : NmIn V { d with acts := d.acts ++ [a] } := ⟨h.now, h.firm, fun x hx => by
    rcases List.mem_append.1 hx with hx | hx
    · exact h.acts x hx
    · rw [List.mem_singleton.1 hx]
      exact ha⟩
  unfold doesD
  split
  · exact h1.dies
  · exact ⟨nm_do false h.now ha, h1.dies.firm, h1.dies.acts⟩
theorem NmIn.write {V : ByteArray → Prop} {d : Dk} (h : NmIn V d) (p : ByteArray) (k : Int) (x : ByteArray) (hp : V p) : NmIn V (writeD d p k x).1 := by
  unfold writeD
  split
  · exact h
  · split
    · exact h
    · exact h.does hp
theorem NmIn.cut {V : ByteArray → Prop} {d : Dk} (h : NmIn V d) (p : ByteArray) (k : Int) (hp : V p) : NmIn V (cutD d p k).1 := by
  unfold cutD
  split
  · exact h
  · split
    · exact h
    · exact h.does hp
theorem NmIn.sync {V : ByteArray → Prop} {d : Dk} (h : NmIn V d) : NmIn V (syncD d).1 := by
  unfold syncD
  split
  · exact h
  · split
    · exact h.dies
    · exact ⟨h.dies.now, h.now, fun a ha => by cases ha⟩
theorem nm_run {V : ByteArray → Prop} (torn : Bool) : ∀ (l : List ActD) (es : Fls), (∀ x ∈ es, V x.1) → (∀ a ∈ l, V a.name) → ∀ x ∈ runD torn es l, V x.1
  | [], _, h, _ => h
  | [a], _, h, ha => nm_do torn h (ha a List.mem_cons_self)
  | a :: b :: r, _, h, ha => nm_run torn (b :: r) _ (nm_do false h (ha a List.mem_cons_self)) fun x hx => ha x (List.mem_cons_of_mem _ hx)
theorem NmIn.crash {V : ByteArray → Prop} {d : Dk} (h : NmIn V d) (keep : Int) (torn : Bool) : NmIn V (crashD d keep torn) := by
  have h1 : ∀ x ∈ runD torn d.firm (keptD keep 0 d.acts), V x.1 := nm_run torn _ _ h.firm fun a ha => h.acts a (kept_mem d.acts 0 a ha)
  exact ⟨h1, h1, fun a ha => by cases ha⟩
theorem NmIn.lays {V : ByteArray → Prop} {many : Nat} : ∀ (rs : List ByteArray) (i : Nat) (k : Int) (d : Dk), (∀ j, j < many + i + rs.length → V (nameS (j / 8))) → NmIn V d → NmIn V (layG many i k rs d).1
  | [], _, _, _, _, h => h
  | s :: r, i, k, d, hV, h => by
    have h1 := h.write (nameS ((many + i) / 8)) (if (many + i) % 8 = 0 then 0 else k) (frameB (many + i) s) (hV _ (by simp))
    by_cases hq : (writeD d (nameS ((many + i) / 8)) (if (many + i) % 8 = 0 then 0 else k) (frameB (many + i) s)).2 = 0
    · rw [layG, if_neg (fun e => e hq)]
      exact NmIn.lays r _ _ _ (fun j hj => hV j (by simp only [List.length_cons]; omega)) h1
    · rw [layG, if_pos hq]
      exact h1
theorem NmIn.append {V : ByteArray → Prop} {d : Dk} (h : NmIn V d) (l : Lg) (rs : List ByteArray) (hV : ∀ j, j < 100 → V (nameS j)) : NmIn V (appendD l rs d).2.1 := by
  unfold appendD
  split
  · exact h
  · split
    · exact h
    · split
      · exact h
      · rename_i h8
        have h1 := NmIn.lays (many := l.many) rs 0 l.fin d (fun j hj => hV _ (by omega)) h
        have h2 : NmIn V (layD l rs d).1 := by
          unfold layD
          split
          · exact h1
          · exact h1.sync
        split
        · exact h
        · split
          · exact h2
          · exact h2
theorem append_many {l : Lg} {rs : List ByteArray} {d : Dk} (h : l.many ≤ 800) : (appendD l rs d).1.many ≤ 800 := by
  unfold appendD
  split
  · exact h
  · split
    · exact h
    · split
      · exact h
      · split
        · exact h
        · split
          · exact h
          · rename_i h8 _ _
            exact Nat.le_of_not_lt h8
theorem NmIn.cuts {V : ByteArray → Prop} {E : Ends} : ∀ (ps : List ByteArray) (d : Dk), (∀ p ∈ ps, V p) → NmIn V d → NmIn V (cutsD E ps d).1
  | [], _, _, h => h
  | p :: r, d, hp, h => by
    rw [cutsD]
    have h1 := h.cut p (endOf E p) (hp p List.mem_cons_self)
    split
    · split
      · exact h1
      · exact NmIn.cuts r _ (fun q hq => hp q (List.mem_cons_of_mem _ hq)) h1
    · exact NmIn.cuts r _ (fun q hq => hp q (List.mem_cons_of_mem _ hq)) h
theorem NmIn.opened {V : ByteArray → Prop} {d : Dk} (h : NmIn V d) : NmIn V (openD d).d := by
  have h1 := NmIn.cuts (E := (scanG d.now 800 [] []).2) (namesD d) d (fun p hp => by
    obtain ⟨x, hx, rfl⟩ := List.mem_map.1 hp
    exact h.now x hx) h
  unfold openD
  split
  · exact h
  · split
    · exact h1
    · split
      · exact h1.sync
      · exact h1.sync
theorem BndD.openedN {n q : Nat} {d : Dk} (h : BndD n d) (hq : d.now.length ≤ q) : BndD (n + q) (openD d).d := by
  have hl : (namesD d).length ≤ q := by
    unfold namesD
    rw [List.length_map]
    exact hq
  have h1 := (BndD.cuts (E := (scanG d.now 800 [] []).2) (namesD d) d n h).le (Nat.add_le_add_left hl n)
  unfold openD
  split
  · exact h.le (Nat.le_add_right _ _)
  · split
    · exact h1
    · split
      · exact h1.sync
      · exact h1.sync
theorem scanG_len (now : Fls) : ∀ (f : Nat) (out : List ByteArray) (E : Ends), (scanG now f out E).1.length ≤ out.length + f
  | 0, _, _ => Nat.le_refl _
  | f + 1, out, E => by
    rw [scanG]
    split
    · exact Nat.le_add_right _ _
    · rename_i s n _
      have := scanG_len now f (out ++ [mkB s]) (putK E (nameS (out.length / 8)) (endOf E (nameS (out.length / 8)) + n))
      rw [List.length_append, List.length_singleton] at this
      omega
theorem open_many {d : Dk} {l : Lg} (h : (openD d).log = some l) : l.many ≤ 800 := by
  unfold openD at h
  split at h
  · cases h
  · split at h
    · cases h
    · split at h
      · cases h
      · cases h
        have := scanG_len d.now 800 [] []
        simpa using this
theorem open_none {d : Dk} (h : (openD d).log = none) : (openD d).out = [] := by
  unfold openD at h ⊢
  split
  · rfl
  · split
    · rfl
    · split
      · rfl
      · rename_i h1 h2 h3
        rw [if_neg h1, if_neg h2, if_neg h3] at h
        cases h
theorem open_out (d : Dk) : (openD d).out.length ≤ 800 := by
  have h := scanG_len d.now 800 [] []
  unfold openD
  split
  · exact Nat.zero_le _
  · split
    · exact Nat.zero_le _
    · split
      · exact Nat.zero_le _
      · simpa using h
theorem sub_len {α : Type} [DecidableEq α] : ∀ {l m : List α}, l.Nodup → (∀ x ∈ l, x ∈ m) → l.length ≤ m.length
  | [], _, _, _ => Nat.zero_le _
  | a :: t, m, h, hs => by
    obtain ⟨h1, h2⟩ := List.nodup_cons.1 h
    have ha := hs a List.mem_cons_self
    have ih := sub_len (l := t) (m := m.erase a) h2 fun x hx => (List.mem_erase_of_ne (fun e => h1 (by rw [← e]; exact hx))).2 (hs x (List.mem_cons_of_mem _ hx))
    have := List.length_erase_of_mem ha
    have := List.length_pos_of_mem ha
    simp only [List.length_cons]
    omega
/-- The names of a log's files, and some besides. -/
def SegV (L : List ByteArray) (p : ByteArray) : Prop := p ∈ (List.range 100).map nameS ++ L
theorem segV_name (L : List ByteArray) {j : Nat} (hj : j < 100) : SegV L (nameS j) := List.mem_append.2 (.inl (List.mem_map.2 ⟨j, List.mem_range.2 hj, rfl⟩))
theorem segV_more {L : List ByteArray} (q : ByteArray) {p : ByteArray} (h : SegV L p) : SegV (q :: L) p := by
  rcases List.mem_append.1 h with h | h
  · exact List.mem_append.2 (.inl h)
  · exact List.mem_append.2 (.inr (List.mem_cons_of_mem _ h))
theorem segV_new (L : List ByteArray) (q : ByteArray) : SegV (q :: L) q := List.mem_append.2 (.inr List.mem_cons_self)
theorem nm_len {L : List ByteArray} {es : Fls} (hn : (es.map (·.1)).Nodup) (h : ∀ x ∈ es, SegV L x.1) : es.length ≤ 100 + L.length := by
  have := sub_len (m := (List.range 100).map nameS ++ L) hn fun p hp => by
    obtain ⟨x, hx, rfl⟩ := List.mem_map.1 hp
    exact h x hx
  rw [List.length_map, List.length_append, List.length_map, List.length_range] at this
  exact this
/-- What is known of a disk behind so many calls. -/
structure Kept (k : Nat) (d : Dk) : Prop where
  names : ∃ L : List ByteArray, L.length ≤ k ∧ NmIn (SegV L) d
  bnd : BndD (200 * k + 200) d
  ok : DkOK d
theorem Kept.now {k : Nat} {d : Dk} (h : Kept k d) : d.now.length ≤ 100 + k ∧ d.firm.length ≤ 100 + k := by
  obtain ⟨L, h1, h2⟩ := h.names
  have := nm_len h.ok.now.nodup h2.now
  have := nm_len h.ok.firm.nodup h2.firm
  omega
theorem Kept.le {k m : Nat} {d : Dk} (h : Kept k d) (hm : k ≤ m) : Kept m d := by
  obtain ⟨⟨L, h1, h2⟩, h3, h4⟩ := h
  exact ⟨⟨L, by omega, h2⟩, h3.le (by omega), h4⟩
theorem Kept.new {n : Nat} (h : n ≤ 4194304) : Kept 0 (newD n) :=
  ⟨⟨[], Nat.le_refl _, ⟨fun x hx => (by cases hx), fun x hx => (by cases hx), fun x hx => (by cases hx)⟩⟩, ⟨Nat.zero_le _, Nat.zero_le _, Nat.zero_le _⟩, DkOK.new h⟩
theorem Kept.arm {k : Nat} {d : Dk} (h : Kept k d) (n : Int) : Kept k (armD d n) := by
  obtain ⟨⟨L, h1, h2⟩, h3, h4⟩ := h
  exact ⟨⟨L, h1, h2.now, h2.firm, h2.acts⟩, h3.arm n, h4.arm n⟩
theorem Kept.write {k : Nat} {d : Dk} (h : Kept k d) (p : ByteArray) (n : Int) (x : ByteArray) (hx : x.size ≤ 8000) : Kept (k + 1) (writeD d p n x).1 := by
  obtain ⟨⟨L, h1, h2⟩, h3, h4⟩ := h
  exact ⟨⟨p :: L, by simp only [List.length_cons]; omega, (h2.mono fun _ hq => segV_more p hq).write p n x (segV_new L p)⟩, (h3.write p n x).le (by omega), h4.write p n x hx⟩
theorem Kept.crash {k : Nat} {d : Dk} (h : Kept k d) (keep : Int) (torn : Bool) : Kept k (crashD d keep torn) := by
  obtain ⟨⟨L, h1, h2⟩, h3, h4⟩ := h
  have h5 := h2.crash keep torn
  have h6 := h4.crash keep torn
  have h7 := nm_len h6.now.nodup h5.now
  have h8 := nm_len h6.firm.nodup h5.firm
  exact ⟨⟨L, h1, h5⟩, ⟨by omega, by omega, Nat.zero_le _⟩, h6⟩
theorem Kept.append {k : Nat} {d : Dk} (h : Kept k d) (l : Lg) (rs : List ByteArray) (hr : rs.length ≤ 30) (hok : DkOK (appendD l rs d).2.1) : Kept (k + 1) (appendD l rs d).2.1 := by
  obtain ⟨⟨L, h1, h2⟩, h3, h4⟩ := h
  exact ⟨⟨L, by omega, h2.append l rs fun j hj => segV_name L hj⟩, (h3.append l rs).le (by omega), hok⟩
theorem Kept.opened {k : Nat} {d : Dk} (h : Kept k d) (hk : k ≤ 99) (hok : DkOK (openD d).d) : Kept (k + 1) (openD d).d := by
  have hn := h.now.1
  obtain ⟨⟨L, h1, h2⟩, h3, h4⟩ := h
  exact ⟨⟨L, by omega, h2.opened⟩, (h3.openedN (q := 199) (by omega)).le (by omega), hok⟩
end Go.Proofs.YtgglheelhbfgiaaGreatDoor

namespace Go.Proofs.YtgglheelhbfgiaaGreatDoor
open Go Go.RowKit

structure Turned (S : Nat → Prop) (B : Nat) (W W' : World) : Prop where
  os : W'.os = W.os
  tape : W'.tape = W.tape
  output : W'.output = W.output
  size : W.heap.size ≤ W'.heap.size
  block : ∀ k, k < B → ¬ S k → W'.heap[k]? = W.heap[k]?
theorem Turned.refl (S : Nat → Prop) (B : Nat) (W : World) : Turned S B W W := ⟨rfl, rfl, rfl, Nat.le_refl _, fun _ _ _ => rfl⟩
theorem Turned.trans {S : Nat → Prop} {B : Nat} {W W1 W2 : World} (h1 : Turned S B W W1) (h2 : Turned S B W1 W2) : Turned S B W W2 :=
  ⟨h2.os.trans h1.os, h2.tape.trans h1.tape, h2.output.trans h1.output, Nat.le_trans h1.size h2.size, fun k hk hs => (h2.block k hk hs).trans (h1.block k hk hs)⟩
theorem Turned.of_below {S : Nat → Prop} {B B' : Nat} {W W' : World} (h : Below B' W W') (hB : B ≤ B') : Turned S B W W' :=
  ⟨h.os, h.tape, h.output, h.size, fun k hk _ => h.block k (Nat.lt_of_lt_of_le hk hB)⟩
theorem Turned.of_grown {S : Nat → Prop} {B : Nat} {W W' : World} {row : Option Nat} (h : W.grownBy W' row) (hB : B ≤ W.heap.size) (hS : ∀ k, row = some k → k < B → S k) : Turned S B W W' :=
  ⟨h.os, h.tape, h.output, h.size, fun k hk hs => h.block k (Nat.lt_of_lt_of_le hk hB) (fun e => hs (hS k e.symm hk))⟩
theorem Turned.mono {S S' : Nat → Prop} {B B' : Nat} {W W' : World} (h : Turned S B W W') (hB : B' ≤ B) (hS : ∀ k, k < B' → S k → S' k) : Turned S' B' W W' :=
  ⟨h.os, h.tape, h.output, h.size, fun k hk hs => h.block k (Nat.lt_of_lt_of_le hk hB) (fun e => hs (hS k hk e))⟩
theorem Turned.below {S : Nat → Prop} {B B' : Nat} {W W' : World} (h : Turned S B W W') (hB : B' ≤ B) (hS : ∀ k, k < B' → ¬ S k) : Below B' W W' :=
  ⟨h.os, h.tape, h.output, h.size, fun k hk => h.block k (Nat.lt_of_lt_of_le hk hB) (hS k hk)⟩
theorem Turned.set {S : Nat → Prop} {B b : Nat} {W W' : World} (h : Turned S B W W') (i : Nat) (v : Value) (hb : b < B → S b) : Turned S B W (W'.setCell ⟨b, i, none⟩ v) :=
  ⟨h.os, h.tape, h.output, by simpa using h.size, fun k hk hs => by
    rw [Below.heap_setCell W' ⟨b, i, none⟩ v k (fun e => hs (by
      have e2 : k = b := e
      rw [e2]
      exact hb (by rw [← e2]; exact hk)))]
    exact h.block k hk hs⟩
theorem Turned.alloc {S : Nat → Prop} {B : Nat} {W W' : World} (h : Turned S B W W') (hB : B ≤ W'.heap.size) (o : Obj) : Turned S B W (W'.alloc o) :=
  h.trans (Turned.of_below ((Below.refl W'.heap.size W').alloc (Nat.le_refl _) o) hB)
theorem Turned.drewN {S : Nat → Prop} {B : Nat} {W W' : World} (h : Turned S B W W') (n : Nat) : Turned S B W (W'.drewN n) :=
  ⟨h.os, h.tape, h.output, h.size, h.block⟩
theorem OwnRows.turned {α : Type} {L : Lay α} {W W' : World} {S : Nat → Prop} {base : Nat} {e : TypeId} {v : Value} {xs : List α} (h : OwnRows L W base e v xs) (ht : Turned S W.heap.size W W') (hS : ∀ k, S k → k < base) : OwnRows L W' base e v xs := by
  refine ⟨h.1, ?_⟩
  rcases h.2 with hn | ⟨g, cap, cur, rfl, hg, hgg, rest⟩
  · exact .inl hn
  · refine .inr ⟨g, cap, cur, rfl, hg, ?_, rest⟩
    rw [ht.block g (Array.getElem?_eq_some_iff.1 hgg).1 (fun hs => by have := hS g hs; omega)]
    exact hgg
theorem RowsAt.turned {α : Type} {L : Lay α} {W W' : World} {S : Nat → Prop} {B : Nat} {a : Option Addr} {xs : List α} (h : RowsAt L W a xs) (ht : Turned S B W W') (hB : ∀ ad, a = some ad → ad.block < B ∧ ¬ S ad.block) : RowsAt L W' a xs := by
  intro j x hj
  obtain ⟨b, off, rfl, hlt, hc⟩ := h j x hj
  obtain ⟨h1, h2⟩ := hB _ rfl
  refine ⟨b, off, rfl, Nat.lt_of_lt_of_le hlt ht.size, fun f v hf => ?_⟩
  have e : W'.cell? ⟨b, off + j * L.sz + f, none⟩ = W.cell? ⟨b, off + j * L.sz + f, none⟩ := World.cell?_of_block (ht.block b h1 h2)
  rw [e]
  exact hc f v hf
end Go.Proofs.YtgglheelhbfgiaaGreatDoor

namespace Go.Proofs.YtgglheelhbfgiaaGreatDoor
open Go Go.RowKit Go.Lib
theorem race_disable (w : World) : (callFunc 215 #[]).run Tryz.prog w = .ok (.value (.tuple #[])) w := run_call_mark0 Tryz.func215 (by kernel_rfl) (by kernel_rfl) (by kernel_rfl) .disable (by kernel_rfl) w
theorem race_enable (w : World) : (callFunc 217 #[]).run Tryz.prog w = .ok (.value (.tuple #[])) w := run_call_mark0 Tryz.func217 (by kernel_rfl) (by kernel_rfl) (by kernel_rfl) .enable (by kernel_rfl) w
theorem race_acquire (a : Addr) (w : World) : (callFunc 218 #[.pointer (some a)]).run Tryz.prog w = .ok (.value (.tuple #[])) w := run_call_marked Tryz.func218 (by kernel_rfl) (by kernel_rfl) (by kernel_rfl) .acquire (by kernel_rfl) a w
theorem race_release (a : Addr) (w : World) : (callFunc 220 #[.pointer (some a)]).run Tryz.prog w = .ok (.value (.tuple #[])) w := run_call_marked Tryz.func220 (by kernel_rfl) (by kernel_rfl) (by kernel_rfl) .releaseMerge (by kernel_rfl) a w
/-- '(*sync/atomic.Bool).Store(true)', entered as a deferred call. -/
theorem once_store (a : Addr) (x : Value) (u : FrameMode) (w : World) (hc : w.cell? a = some x) (hz : w.frozen? a = false) :
    CallsD Tryz.prog 208 #[.pointer (some a), .bool true] u w fun e u' w' => u' = u ∧ (e = .returned (.tuple #[]) ∧ w' = w.drew.setCell a (.int .u32 1)) := by
  have hc' : w.drew.cell? a = some x := by go_simp
  have hz' : w.drew.frozen? a = false := by go_simp
  have hst := run_call_store (P := Tryz.prog) Tryz.func212 (by kernel_rfl) (by kernel_rfl) (by kernel_rfl) (by kernel_rfl) (k := .u32) (y := 1) hc' hz'
  go_enter_d Tryz.func208, Tryz.ntmps208
  go_wp2
  go_region_calls
  all_goals (go_end0; exact ⟨rfl, rfl⟩)
set_option maxRecDepth 100000 in
set_option maxHeartbeats 1600000 in
/-- '(*sync.Mutex).Unlock', entered as a deferred call, the lock held and nobody waiting. -/
theorem once_unlock (a : Addr) (u : FrameMode) (w : World) (hc : w.cell? a = some (.int .i32 1)) (hz : w.frozen? a = false) :
    CallsD Tryz.prog 207 #[.pointer (some a)] u w fun e u' w' => u' = u ∧ (e = .returned (.tuple #[]) ∧ w' = w.setCell a (.int .i32 0)) := by
  have hd := race_disable
  have he := race_enable
  have hr := race_release
  have hadd := run_call_add (P := Tryz.prog) Tryz.func221 (by kernel_rfl) (by kernel_rfl) (by kernel_rfl) .i32 (by kernel_rfl) (y := -1) (s := 0) hc hz (by simp [go_sem]; rfl)
  have hcv := run_convert_to_unsafe (P := Tryz.prog) (src := 276) (dst := 243) Tryz.underlying276 Tryz.underlying243 (by kernel_rfl) hc
  go_enter_d Tryz.func207, Tryz.ntmps207
  go_wp2
  go_end0
  go_wp2
  go_end0
  exact ⟨rfl, rfl⟩
set_option maxRecDepth 100000 in
set_option maxHeartbeats 1600000 in
/-- '(*sync.Mutex).Lock', the lock free. -/
theorem once_lock (a : Addr) (w : World) (hc : w.cell? a = some (.int .i32 0)) (hz : w.frozen? a = false) :
    Calls Tryz.prog 206 #[.pointer (some a)] w fun e w' => e = .returned (.tuple #[]) ∧ w' = w.setCell a (.int .i32 1) := by
  have hd := race_disable
  have he := race_enable
  have ha := race_acquire
  have hcas := run_call_cas_hit (P := Tryz.prog) Tryz.func216 (by kernel_rfl) (by kernel_rfl) (by kernel_rfl) .i32 (by kernel_rfl) (y := 1) hc hz
  have hc' : (w.setCell a (.int .i32 1)).cell? a = some (.int .i32 1) := World.cell?_setCell_same w a _ hc
  have hcv := run_convert_to_unsafe (P := Tryz.prog) (src := 276) (dst := 243) Tryz.underlying276 Tryz.underlying243 (by kernel_rfl) hc'
  go_enter Tryz.func206, Tryz.ntmps206
  go_wp2
  first | go_end0 | (simp only [Exit.inBlock, Exit.then]; refine bodyPost_ret (results_none rfl _ _ _) rfl ?_) | refine bodyPost_ret (results_none rfl _ _ _) rfl ?_
  go_wp2
  go_end0
  exact ⟨rfl, rfl⟩
end Go.Proofs.YtgglheelhbfgiaaGreatDoor

namespace Go.Proofs.YtgglheelhbfgiaaGreatDoor
open Go Go.RowKit

theorem cell_same {W W' : World} {b : Nat} (e : W'.heap[b]? = W.heap[b]?) (i : Nat) : W'.cell? ⟨b, i, none⟩ = W.cell? ⟨b, i, none⟩ := by simp [World.cell?, e]
theorem frozen_same {W W' : World} {b : Nat} (e : W'.heap[b]? = W.heap[b]?) (i : Nat) : W'.frozen? ⟨b, i, none⟩ = W.frozen? ⟨b, i, none⟩ := by simp [World.frozen?, e]
theorem heap_other (W : World) {b k i : Nat} (v : Value) (h : k ≠ b) : (W.setCell ⟨b, i, none⟩ v).heap[k]? = W.heap[k]? := Below.heap_setCell W ⟨b, i, none⟩ v k h

/-- Block b's first cells. -/
def VarAt (W : World) (b : Nat) (cs : List Value) : Prop := b < W.heap.size ∧ (∀ i, W.frozen? ⟨b, i, none⟩ = false) ∧ ∀ i v, cs[i]? = some v → W.cell? ⟨b, i, none⟩ = some v
theorem VarAt.same {W W' : World} {b : Nat} {cs : List Value} (h : VarAt W b cs) (e : W'.heap[b]? = W.heap[b]?) (hs : W.heap.size ≤ W'.heap.size) : VarAt W' b cs :=
  ⟨Nat.lt_of_lt_of_le h.1 hs, fun i => (frozen_same e i).trans (h.2.1 i), fun i v hv => (cell_same e i).trans (h.2.2 i v hv)⟩
theorem VarAt.grown {W W' : World} {b : Nat} {cs : List Value} {row : Option Nat} (h : VarAt W b cs) (hg : W.grownBy W' row) (hne : some b ≠ row) : VarAt W' b cs :=
  h.same (hg.block b h.1 hne) hg.size
theorem VarAt.keeps {W W' : World} {b B : Nat} {cs : List Value} (h : VarAt W b cs) (hb : Below B W W') (hlt : b < B) : VarAt W' b cs :=
  h.same (hb.block b hlt) hb.size
theorem VarAt.set {W : World} {b : Nat} {cs : List Value} (h : VarAt W b cs) (i : Nat) (v : Value) (hi : i < cs.length) : VarAt (W.setCell ⟨b, i, none⟩ v) b (cs.set i v) := by
  refine ⟨by simpa using h.1, fun j => by simpa using h.2.1 j, fun j u hj => ?_⟩
  by_cases e : j = i
  · subst e
    rw [List.getElem?_set_self hi] at hj
    cases hj
    exact World.cell?_setCell_same _ _ _ (h.2.2 j _ (List.getElem?_eq_getElem hi))
  · rw [List.getElem?_set_ne (Ne.symm e)] at hj
    rw [World.cell?_setCell_other _ _ _ _ (by intro h; injection h with _ h2; exact e h2.symm)]
    exact h.2.2 j u hj
theorem VarAt.other {W : World} {b k i : Nat} {cs : List Value} (h : VarAt W b cs) (v : Value) (hne : b ≠ k) : VarAt (W.setCell ⟨k, i, none⟩ v) b cs :=
  h.same (heap_other W v hne) (by simp)
theorem VarAt.new (W : World) (cs : Array Value) (T : TypeId) : VarAt (W.alloc (.cells cs T)) W.heap.size cs.toList := by
  refine ⟨by simp, fun i => by simp, fun i v h => ?_⟩
  rw [show (W.alloc (.cells cs T)).cell? ⟨W.heap.size, i, none⟩ = cs[i]? by simp]
  simpa using h
theorem VarAt.drew {W : World} {b : Nat} {cs : List Value} (h : VarAt W b cs) (n : Nat) : VarAt (W.drewN n) b cs := h
theorem belowDrew {B : Nat} {a w : World} (h : Below B a w) (n : Nat) : Below B a (w.drewN n) := h.trans ⟨rfl, rfl, rfl, Nat.le_refl _, fun _ _ => rfl⟩
end Go.Proofs.YtgglheelhbfgiaaGreatDoor

namespace Go.Proofs.YtgglheelhbfgiaaGreatDoor
open Go Go.RowKit

def putRow (W : World) (b : Nat) : Nat → List Value → World
  | _, [] => W
  | i, v :: vs => putRow (W.setCell ⟨b, i, none⟩ v) b (i + 1) vs
theorem putRow_block {b k : Nat} (h : k ≠ b) : ∀ (vs : List Value) (i : Nat) (W : World), (putRow W b i vs).heap[k]? = W.heap[k]?
  | [], _, _ => rfl
  | v :: vs, i, W => (putRow_block h vs (i + 1) _).trans (heap_other W v h)
theorem putRow_size {b : Nat} : ∀ (vs : List Value) (i : Nat) (W : World), (putRow W b i vs).heap.size = W.heap.size
  | [], _, _ => rfl
  | v :: vs, i, W => (putRow_size vs (i + 1) _).trans (by simp)
theorem VarAt.putFrom {b : Nat} : ∀ (vs : List Value) (i : Nat) (W : World) (cs : List Value), VarAt W b cs → cs.length = i + vs.length → VarAt (putRow W b i vs) b (cs.take i ++ vs)
  | [], i, W, cs, h, hl => by
    rw [List.append_nil, List.take_of_length_le (by simp at hl; omega)]
    exact h
  | v :: vs, i, W, cs, h, hl => by
    have hi : i < cs.length := by simp at hl; omega
    have := VarAt.putFrom vs (i + 1) _ _ (h.set i v hi) (by simp at hl ⊢; omega)
    rw [List.take_succ_eq_append_getElem (by simpa using hi), List.getElem_set_self, List.take_set_of_le (Nat.le_refl _), List.append_assoc] at this
    exact this
theorem VarAt.put {b : Nat} {W : World} {cs : List Value} (h : VarAt W b cs) (vs : List Value) (hl : cs.length = vs.length) : VarAt (putRow W b 0 vs) b vs := by
  have := VarAt.putFrom vs 0 W cs h (by omega)
  simpa using this
theorem VarAt.putOther {b k : Nat} {W : World} {cs : List Value} (h : VarAt W k cs) (vs : List Value) (i : Nat) (hne : k ≠ b) : VarAt (putRow W b i vs) k cs :=
  h.same (putRow_block hne vs i W) (Nat.le_of_eq (putRow_size vs i W).symm)
theorem Turned.put {S : Nat → Prop} {B b : Nat} {W W' : World} (h : Turned S B W W') (vs : List Value) (i : Nat) (hb : b < B → S b) : Turned S B W (putRow W' b i vs) := by
  induction vs generalizing W' i with
  | nil => exact h
  | cons v vs ih => exact ih (h.set i v hb) (i + 1)
theorem belowPut {B b : Nat} {W W' : World} (h : Below B W W') (vs : List Value) (i : Nat) (hb : B ≤ b) : Below B W (putRow W' b i vs) := by
  induction vs generalizing W' i with
  | nil => exact h
  | cons v vs ih => exact ih (h.setCell (p := ⟨b, i, none⟩) hb v) (i + 1)
end Go.Proofs.YtgglheelhbfgiaaGreatDoor

namespace Go.Proofs.YtgglheelhbfgiaaGreatDoor
open Go Go.RowKit Go.Lib
def iterC : Nat → Nat → Nat
  | 0, x => x
  | n + 1, x => stepC (iterC n x)
theorem iterC_8 (x : Nat) : iterC 8 x = tabC x := rfl
theorem stepC_lt {x : Nat} (h : x < 4294967296) : stepC x < 4294967296 := by
  unfold stepC
  have h1 : x / 2 < 2 ^ 32 := by omega
  have h2 : x % 2 * 3988292384 < 2 ^ 32 := by
    have : x % 2 < 2 := Nat.mod_lt _ (by decide)
    omega
  exact Nat.xor_lt_two_pow h1 h2
theorem iterC_lt {x : Nat} (h : x < 4294967296) : ∀ n, iterC n x < 4294967296
  | 0 => h
  | n + 1 => stepC_lt (iterC_lt h n)
theorem step_val {x : Nat} (hx : x < 4294967296) : bits .xor .u32 ((x : Int) / 2) (bits .and .u32 (x : Int) 1 * 3988292384 % 4294967296) = ((stepC x : Nat) : Int) := by
  have h1 : bits .and .u32 (x : Int) 1 = ((x % 2 : Nat) : Int) := by
    have := u32_and_nat x 1 hx (by decide)
    rw [Nat.and_one_is_mod] at this
    exact this
  have h2 : x % 2 < 2 := Nat.mod_lt _ (by decide)
  rw [h1, show ((x % 2 : Nat) : Int) * 3988292384 % 4294967296 = ((x % 2 * 3988292384 : Nat) : Int) by omega, show (x : Int) / 2 = ((x / 2 : Nat) : Int) by omega, u32_xor_nat _ _ (by omega) (by omega)]
  rfl
/-- A table of which so many steps are laid. -/
structure StepsW (w : World) (b k : Nat) (c0 c1 c2 : Value) : Prop where
  lt : b < w.heap.size
  fz : ∀ i, w.frozen? ⟨b, i, none⟩ = false
  h0 : w.cell? ⟨b, 0, none⟩ = some c0
  h1 : w.cell? ⟨b, 1, none⟩ = some c1
  h2 : w.cell? ⟨b, 2, none⟩ = some c2
  st : ∀ i, i < 256 → ∃ v, w.cell? ⟨b, 3 + i, none⟩ = some v ∧ (i < k → v = .int .u32 (tabC i))
set_option maxRecDepth 100000 in
set_option maxHeartbeats 1600000 in
theorem fill_any (b : Nat) (pl : Addr) (hpb : pl.block ≠ b) (c0 c1 c2 : Value) (w : World) (hp : w.cell? pl = some (.pointer (some ⟨b, 0, none⟩))) (h : StepsW w b 0 c0 c1 c2) :
    Calls Tryz.prog 188 #[.pointer (some pl)] w fun e w' => e = .returned (.tuple #[]) ∧ StepsW w' b 256 c0 c1 c2 ∧ Turned (fun j => j = b) w.heap.size w w' := by
  go_enter Tryz.func188, Tryz.ntmps188
  go_wp2_with fail
  go_loopw [3] (fun i wr => ∃ k : Nat, k ≤ 256 ∧ i = .int .i64 k ∧ StepsW wr b k c0 c1 c2 ∧ Turned (fun j => j = b) w.heap.size w wr ∧ wr.cell? pl = some (.pointer (some ⟨b, 0, none⟩))) (fun i _ => 256 - (RowKit.intOf i).toNat)
  case atStart => exact ⟨0, by omega, rfl, h, Turned.refl _ _ _, hp⟩
  case round =>
    obtain ⟨k, hk, rfl, hs, ht, hp⟩ := hrel
    by_cases hlt : k < 256
    · have hk32 : IntKind.u32.wrap (k : Int) = (k : Int) := IntWalk.u32_in _ ⟨by omega, by omega⟩
      go_wp2_with fail
      go_loop [2, 8] (fun x j => ∃ n : Nat, n ≤ 8 ∧ j = .int .i64 n ∧ x = .int .u32 (iterC n k)) (fun _ j => 8 - (RowKit.intOf j).toNat)
      case atStart => exact ⟨0, by omega, rfl, rfl⟩
      case round =>
        obtain ⟨n, hn, rfl, rfl⟩ := hrel
        by_cases hn8 : n < 8
        · have hx := iterC_lt (show k < 4294967296 by omega) n
          have Hst := Lib.hid (show iterC (n + 1) k = stepC (iterC n k) from rfl)
          generalize iterC n k = x at *
          have hsv := step_val hx
          go_wp2_with fail
          go_round
          case rel => exact ⟨n + 1, by omega, by go_num, by rw [Hst.out]⟩
          case measure => simp [RowKit.intOf]; omega
        · obtain rfl : n = 8 := by omega
          rw [iterC_8]
          obtain ⟨v, hv, _⟩ := hs.st k hlt
          have hf := hs.fz (3 + k)
          have hki : (k : Int) < 256 := by omega
          generalize hg : tabC k = t at *
          go_wp2_with fail
          have hne : ∀ j, j ≠ 3 + k → ∀ v, wr.cell? ⟨b, j, none⟩ = some v → (wr.setCell ⟨b, 3 + k, none⟩ (.int .u32 (t : Int))).cell? ⟨b, j, none⟩ = some v := fun j hj v hv => by
            rw [World.cell?_setCell_other _ _ _ _ (fun e => hj (by simpa using e.symm))]
            exact hv
          go_roundw
          case rel =>
            refine ⟨k + 1, by omega, by go_num, ⟨?_, fun i => ?_, hne 0 (by omega) _ hs.h0, hne 1 (by omega) _ hs.h1, hne 2 (by omega) _ hs.h2, fun i hi => ?_⟩, ht.set (3 + k) _ (fun _ => rfl), ?_⟩
            · simpa using hs.lt
            · simpa using hs.fz i
            · by_cases hik : i = k
              · subst hik
                exact ⟨_, World.cell?_setCell_same _ _ _ hv, fun _ => by rw [hg]⟩
              · obtain ⟨v', e1, e2⟩ := hs.st i hi
                exact ⟨v', hne _ (by omega) _ e1, fun h => e2 (by omega)⟩
            · rw [World.cell?_setCell_other _ _ _ _ (fun e => hpb (by rw [← e]))]
              exact hp
          case measure => simp [RowKit.intOf]; omega
    · obtain rfl : k = 256 := by omega
      go_wp2_with fail
      go_end0
      exact ⟨rfl, hs, ht⟩
end Go.Proofs.YtgglheelhbfgiaaGreatDoor

namespace Go.Proofs.YtgglheelhbfgiaaGreatDoor
open Go Go.RowKit Go.Lib
theorem StepsW.set0 {w : World} {b k : Nat} {c0 c1 c2 : Value} (h : StepsW w b k c0 c1 c2) (v : Value) : StepsW (w.setCell ⟨b, 0, none⟩ v) b k v c1 c2 := by
  have hne : ∀ j, j ≠ 0 → ∀ u, w.cell? ⟨b, j, none⟩ = some u → (w.setCell ⟨b, 0, none⟩ v).cell? ⟨b, j, none⟩ = some u := fun j hj u hu => by
    rw [World.cell?_setCell_other _ _ _ _ (fun e => hj (by simpa using e.symm))]
    exact hu
  refine ⟨by simpa using h.lt, fun i => by simpa using h.fz i, World.cell?_setCell_same _ _ _ h.h0, hne 1 (by omega) _ h.h1, hne 2 (by omega) _ h.h2, fun i hi => ?_⟩
  obtain ⟨u, e1, e2⟩ := h.st i hi
  exact ⟨u, hne _ (by omega) _ e1, e2⟩
theorem StepsW.set1 {w : World} {b k : Nat} {c0 c1 c2 : Value} (h : StepsW w b k c0 c1 c2) (v : Value) : StepsW (w.setCell ⟨b, 1, none⟩ v) b k c0 v c2 := by
  have hne : ∀ j, j ≠ 1 → ∀ u, w.cell? ⟨b, j, none⟩ = some u → (w.setCell ⟨b, 1, none⟩ v).cell? ⟨b, j, none⟩ = some u := fun j hj u hu => by
    rw [World.cell?_setCell_other _ _ _ _ (fun e => hj (by simpa using e.symm))]
    exact hu
  refine ⟨by simpa using h.lt, fun i => by simpa using h.fz i, hne 0 (by omega) _ h.h0, World.cell?_setCell_same _ _ _ h.h1, hne 2 (by omega) _ h.h2, fun i hi => ?_⟩
  obtain ⟨u, e1, e2⟩ := h.st i hi
  exact ⟨u, hne _ (by omega) _ e1, e2⟩
theorem StepsW.drewN {w : World} {b k : Nat} {c0 c1 c2 : Value} (h : StepsW w b k c0 c1 c2) (n : Nat) : StepsW (w.drewN n) b k c0 c1 c2 := ⟨h.lt, h.fz, h.h0, h.h1, h.h2, h.st⟩
theorem bload_any (a : Addr) (x : Int) (w : World) (h : w.cell? a = some (.int .u32 x)) : Calls Tryz.prog 197 #[.pointer (some a)] w fun e w' => e = .returned (.bool (x != 0)) ∧ w' = w := by
  have hl := run_call_load (P := Tryz.prog) Tryz.func205 (by kernel_rfl) (by kernel_rfl) (by kernel_rfl) .u32 (by kernel_rfl) h
  go_enter Tryz.func197, Tryz.ntmps197
  go_wp2
  go_ret
  exact ⟨rfl, rfl⟩
set_option maxRecDepth 100000 in
set_option maxHeartbeats 1600000 in
theorem slow_any (b : Nat) (pl : Addr) (hpb : pl.block ≠ b) (c2 : Value) (w : World) (hp : w.cell? pl = some (.pointer (some ⟨b, 0, none⟩))) (h : StepsW w b 0 (.int .u32 0) (.int .i32 0) c2) :
    Calls Tryz.prog 198 #[.pointer (some ⟨b, 0, none⟩), .func (.func 188) #[] #[.pointer (some pl)]] w fun e w' => e = .returned (.tuple #[]) ∧ StepsW w' b 256 (.int .u32 1) (.int .i32 0) c2 ∧ Turned (fun j => j = b) w.heap.size w w' := by
  have hS1 := h.set1 (.int .i32 1)
  have HB := Lib.hid (bload_any _ _ _ hS1.h0)
  have hp1 : (w.setCell ⟨b, 1, none⟩ (.int .i32 1)).cell? pl = some (.pointer (some ⟨b, 0, none⟩)) := (World.cell?_setCell_other _ ⟨b, 1, none⟩ pl _ (fun e => hpb (by rw [← e]))).trans hp
  have hnot : ∀ (x : Bool) (w : World), (Op.unary .not (.bool x)).run Tryz.prog w = .ok (.bool (!x)) w := fun _ _ => rfl
  have HL := Lib.hid (once_lock ⟨b, 1, none⟩ w h.h1 (h.fz 1))
  have HF := Lib.hid (fill_any b pl hpb _ _ _ _ hp1 hS1)
  have HT := Lib.hid ((Turned.refl (fun j => j = b) w.heap.size w).set (b := b) 1 (.int .i32 1) (fun _ => rfl))
  have hsz : (w.setCell ⟨b, 1, none⟩ (.int .i32 1)).heap.size = w.heap.size := by simp
  go_enter_defers Tryz.func198, Tryz.ntmps198
  go_wp2_with fail
  refine HL.out.mono ?_
  rintro e w' ⟨rfl, rfl⟩
  go_wp2_with fail
  refine HB.out.mono ?_
  rintro e w' ⟨rfl, rfl⟩
  go_wp2_with fail
  refine HF.out.mono ?_
  rintro e w2 ⟨rfl, hS2, ht2⟩
  rw [hsz] at ht2
  have hT2 := HT.out.trans ht2
  go_wp2_with fail
  refine leaves_cons (f := 208) (args := #[.pointer (some ⟨b, 0, none⟩), .bool true]) (by simp) (by simp [go_sem]) ?_
  refine (once_store ⟨b, 0, none⟩ (.int .u32 0) .returning _ hS2.h0 (hS2.fz 0)).mono ?_
  rintro e u' w'' ⟨rfl, rfl, rfl⟩
  have hS3 := (hS2.drewN 1).set0 (.int .u32 1)
  have hT3 := (hT2.drewN 1).set (b := b) 0 (.int .u32 1) (fun _ => rfl)
  refine leaves_cons (f := 207) (args := #[.pointer (some ⟨b, 1, none⟩)]) (by simp [settle]) (by simp [go_sem]) ?_
  refine (once_unlock ⟨b, 1, none⟩ _ _ hS3.h1 (hS3.fz 1)).mono ?_
  rintro e u' w'' ⟨rfl, rfl, rfl⟩
  have hS4 := hS3.set1 (.int .i32 0)
  have hT4 := hT3.set (b := b) 1 (.int .i32 0) (fun _ => rfl)
  simp [Leaves, settle, results, Tryz.results198]
  exact ⟨hS4, hT4⟩
end Go.Proofs.YtgglheelhbfgiaaGreatDoor

namespace Go.Proofs.YtgglheelhbfgiaaGreatDoor
open Go Go.RowKit Go.Lib
def TabW (w : World) (b : Nat) (m : Bool) : Prop := ∃ c2, StepsW w b (if m then 256 else 0) (.int .u32 (if m then 1 else 0)) (.int .i32 0) c2
set_option maxRecDepth 100000 in
set_option maxHeartbeats 1600000 in
theorem do_any (b : Nat) (pl : Addr) (hpb : pl.block ≠ b) (m : Bool) (w : World) (hp : w.cell? pl = some (.pointer (some ⟨b, 0, none⟩))) (h : TabW w b m) :
    Calls Tryz.prog 187 #[.pointer (some ⟨b, 0, none⟩), .func (.func 188) #[] #[.pointer (some pl)]] w fun e w' => e = .returned (.tuple #[]) ∧ TabW w' b true ∧ Turned (fun j => j = b) w.heap.size w w' := by
  obtain ⟨c2, hS⟩ := h
  have HB := Lib.hid (bload_any _ _ _ hS.h0)
  cases m with
  | false =>
    have HSl := Lib.hid (slow_any b pl hpb c2 w hp hS)
    clear hS hp
    go_enter Tryz.func187, Tryz.ntmps187
    go_wp2_with fail
    refine HB.out.mono ?_
    rintro e w' ⟨rfl, rfl⟩
    go_wp2_with fail
    refine HSl.out.mono ?_
    rintro e w' ⟨rfl, h1, h2⟩
    go_wp2_with fail
    go_end0
    exact ⟨rfl, ⟨c2, h1⟩, h2⟩
  | true =>
    have HS := Lib.hid hS
    clear hS hp
    go_enter Tryz.func187, Tryz.ntmps187
    go_wp2_with fail
    refine HB.out.mono ?_
    rintro e w' ⟨rfl, rfl⟩
    go_wp2_with fail
    go_end0
    exact ⟨rfl, ⟨c2, HS.out⟩, Turned.refl _ _ _⟩
theorem TabW.alloc {w : World} {b : Nat} {m : Bool} (h : TabW w b m) (o : Obj) : TabW (w.alloc o) b m := by
  obtain ⟨c2, h⟩ := h
  have hlt := h.lt
  refine ⟨c2, ⟨by simp; omega, fun i => ?_, ?_, ?_, ?_, fun i hi => ?_⟩⟩
  · rw [World.frozen?_alloc_past _ _ _ hlt]; exact h.fz i
  · rw [World.cell?_alloc_past _ _ _ hlt]; exact h.h0
  · rw [World.cell?_alloc_past _ _ _ hlt]; exact h.h1
  · rw [World.cell?_alloc_past _ _ _ hlt]; exact h.h2
  · rw [World.cell?_alloc_past _ _ _ hlt]; exact h.st i hi
set_option maxRecDepth 100000 in
set_option maxHeartbeats 1600000 in
theorem step_any (b : Nat) (m : Bool) (x : Nat) (hx : x < 256) (w : World) (h : TabW w b m) :
    Calls Tryz.prog 170 #[.pointer (some ⟨b, 0, none⟩), .int .u8 x] w fun e w' => e = .returned (.int .u32 (tabC x : Nat)) ∧ TabW w' b true ∧ Turned (fun j => j = b) w.heap.size w w' := by
  have hlt : b < w.heap.size := by
    obtain ⟨c2, h⟩ := h
    exact h.lt
  have hA := h.alloc (.cells #[.pointer (some ⟨b, 0, none⟩)] 218)
  have HD := Lib.hid (do_any b ⟨w.heap.size, 0, none⟩ (fun e => by dsimp only at e; omega) m _ (by simp) hA)
  have HT := Lib.hid ((Turned.refl (fun j => j = b) w.heap.size w).alloc (Nat.le_refl _) (.cells #[.pointer (some ⟨b, 0, none⟩)] 218))
  have hp0 : (w.alloc (.cells #[.pointer (some ⟨b, 0, none⟩)] 218)).cell? ⟨w.heap.size, 0, none⟩ = some (.pointer (some ⟨b, 0, none⟩)) := by simp
  have HP := Lib.hid hp0
  clear h hA
  go_enter Tryz.func170, Tryz.ntmps170
  go_wp2_with fail
  refine HD.out.mono ?_
  rintro e w2 ⟨rfl, h2, ht2⟩
  have hp2 : w2.cell? ⟨w.heap.size, 0, none⟩ = some (.pointer (some ⟨b, 0, none⟩)) := (World.cell?_of_block (ht2.block w.heap.size (by simp) (show ¬ (w.heap.size = b) by omega))).trans HP.out
  have hT2 := HT.out.trans (ht2.mono (by simp) (fun _ _ h => h))
  obtain ⟨c2, hS⟩ := h2
  obtain ⟨v, hv, hv2⟩ := hS.st x hx
  obtain rfl := hv2 hx
  have HS := Lib.hid hS
  have hxi : (x : Int) < 256 := by omega
  clear hS hv2
  obtain ⟨t, htt⟩ : ∃ t, tabC x = t := ⟨_, rfl⟩
  rw [htt] at hv
  have Hr := Lib.hid htt
  clear htt
  go_wp2_with fail
  go_ret
  exact ⟨by rw [Hr.out]; rfl, ⟨c2, HS.out⟩, hT2⟩
def tabZ : Array Value := #[.int .u32 0, .int .i32 0, .int .u32 0] ++ Array.replicate 256 (.int .u32 0)
theorem tabZ_zero : Tryz.zeroCells232 = tabZ := by kernel_rfl
theorem ones32 : bits .xor .u32 IntKind.u32.max 0 = ((4294967295 : Nat) : Int) := by kernel_rfl
theorem tabZ_list : tabZ.toList = [.int .u32 0, .int .i32 0, .int .u32 0] ++ List.replicate 256 (.int .u32 0) := by
  unfold tabZ
  rw [Array.toList_append, Array.toList_replicate]
theorem tabZ_at {i : Nat} (hi : i < 256) : tabZ.toList[3 + i]? = some (.int .u32 0) := by
  rw [tabZ_list, List.getElem?_append_right (by show 3 ≤ 3 + i; omega), List.getElem?_replicate, if_pos (by show 3 + i - 3 < 256; omega)]
theorem tabZ_new (w : World) : TabW (w.alloc (.cells tabZ 232)) w.heap.size false := by
  have f := cells_new w tabZ 232
  generalize hZ : tabZ = Z at *
  have h0 := f 0 (.int .u32 0) (by rw [← hZ, tabZ_list]; rfl)
  have h1 := f 1 (.int .i32 0) (by rw [← hZ, tabZ_list]; rfl)
  have h2 := f 2 (.int .u32 0) (by rw [← hZ, tabZ_list]; rfl)
  refine ⟨.int .u32 0, ⟨by simp, fun i => by simp, h0, ?_, ?_, fun i hi => ⟨.int .u32 0, ?_, fun h => ?_⟩⟩⟩
  · simpa [Addr.add] using h1
  · simpa [Addr.add] using h2
  · have := f (3 + i) (.int .u32 0) (by rw [← hZ, tabZ_at hi])
    simpa [Addr.add] using this
  · simp at h
theorem nextC_lt {x : Nat} (h : x < 4294967296) (b : UInt8) : nextC x b < 4294967296 := by
  have h1 : x / 256 < 2 ^ 32 := by omega
  have h2 : tabC (x % 256 ^^^ b.toNat) < 2 ^ 32 := by
    have : x % 256 ^^^ b.toNat < 2 ^ 8 := Nat.xor_lt_two_pow (by omega) b.toNat_lt
    exact iterC_lt (by omega) 8
  exact Nat.xor_lt_two_pow h1 h2
theorem fold_lt : ∀ (l : List UInt8) (x : Nat), x < 4294967296 → l.foldl nextC x < 4294967296
  | [], _, h => h
  | b :: r, _, h => fold_lt r _ (nextC_lt h b)
theorem ones_xor {x : Nat} (h : x < 4294967296) : bits .xor .u32 IntKind.u32.max (x : Int) = ((4294967295 - x : Nat) : Int) := by
  have h1 : IntKind.u32.max = ((4294967295 : Nat) : Int) := by kernel_rfl
  rw [h1, u32_xor_nat _ _ (by decide) h]
  congr 1
  have h2 := congrArg BitVec.toNat (BitVec.xor_allOnes (x := BitVec.ofNat 32 x))
  rw [BitVec.toNat_xor, BitVec.toNat_not, BitVec.toNat_ofNat, BitVec.toNat_allOnes, Nat.mod_eq_of_lt (by omega), Nat.xor_comm] at h2
  exact h2
theorem step_u8 {x : Nat} (b : UInt8) : bits .xor .u8 ((x : Int) % 256) (b.toNat : Int) = ((x % 256 ^^^ b.toNat : Nat) : Int) := by
  rw [show (x : Int) % 256 = ((x % 256 : Nat) : Int) by omega, u8_xor_nat _ _ (by omega) b.toNat_lt]
theorem next_val {x : Nat} (h : x < 4294967296) (b : UInt8) : bits .xor .u32 ((x : Int) / 256) ((tabC (x % 256 ^^^ b.toNat) : Nat) : Int) = ((nextC x b : Nat) : Int) := by
  have h2 : x % 256 ^^^ b.toNat < 2 ^ 8 := Nat.xor_lt_two_pow (by omega) b.toNat_lt
  rw [show (x : Int) / 256 = ((x / 256 : Nat) : Int) by omega, u32_xor_nat _ _ (by omega) (show tabC (x % 256 ^^^ b.toNat) < 4294967296 from iterC_lt (by omega) 8)]
  rfl
set_option maxRecDepth 100000 in
set_option maxHeartbeats 1600000 in
theorem more_any (d : ByteArray) (w : World) (hd : d.size ≤ 100000000) :
    Calls Tryz.prog 143 #[.int .i64 0, .string d] w fun e w' => e = .returned (.int .i64 (sumC d.data.toList : Nat)) ∧ Below w.heap.size w w' := by
  have hN := tabZ_new w
  have hT := (Turned.refl (fun j => j = w.heap.size) w.heap.size w).alloc (Nat.le_refl _) (.cells tabZ 232)
  rw [← tabZ_zero] at hN hT
  have HN := Lib.hid hN
  have HT := Lib.hid hT
  have hone := ones32
  have Hl := Lib.hid (show d.data.toList.length = d.size from rfl)
  have Hsum := Lib.hid (show sumC d.data.toList = 4294967295 - d.data.toList.foldl nextC 4294967295 from rfl)
  clear hN hT
  go_enter Tryz.func143, Tryz.ntmps143
  go_wp2_with fail
  go_loopw [6, 7, 15] (fun x _ i wr => ∃ k : Nat, k ≤ d.size ∧ i = .int .i64 k ∧ x = .int .u32 ((d.data.toList.take k).foldl nextC 4294967295 : Nat) ∧ (∃ m, TabW wr w.heap.size m) ∧ Turned (fun j => j = w.heap.size) w.heap.size w wr) (fun _ _ i _ => d.size - (RowKit.intOf i).toNat)
  case atStart => exact ⟨0, Nat.zero_le _, rfl, by first | rfl | simp, ⟨false, HN.out⟩, HT.out⟩
  case round =>
    obtain ⟨k, hk, rfl, rfl, ⟨m, hm⟩, ht⟩ := hrel
    by_cases hlt : k < d.size
    · have hx := fold_lt (d.data.toList.take k) 4294967295 (by decide)
      obtain ⟨b, hb⟩ : ∃ b, d.data.toList[k]? = some b := ⟨_, List.getElem?_eq_getElem (by rw [Hl.out]; exact hlt)⟩
      have Hst := Lib.hid (show (d.data.toList.take (k + 1)).foldl nextC 4294967295 = nextC ((d.data.toList.take k).foldl nextC 4294967295) b by rw [List.take_add_one, hb, Option.toList_some, List.foldl_append]; rfl)
      generalize (d.data.toList.take k).foldl nextC 4294967295 = x at *
      have hdk : (d[k]'hlt).toNat = b.toNat := by
        obtain ⟨h1, h2⟩ := List.getElem?_eq_some_iff.1 hb
        rw [← h2]
        rfl
      have h8 := step_u8 (x := x) b
      have hy : x % 256 ^^^ b.toNat < 256 := Nat.xor_lt_two_pow (n := 8) (by omega) b.toNat_lt
      have Hnv := Lib.hid (next_val hx b)
      have HS := Lib.hid fun W (h : TabW W w.heap.size m) => step_any w.heap.size m (x % 256 ^^^ b.toNat) hy W h
      clear hb
      generalize x % 256 ^^^ b.toNat = y at *
      have hnv := Hnv.out
      go_wp2_with fail
      refine (HS.out _ hm).mono ?_
      rintro e w4 ⟨rfl, hm4, ht4⟩
      go_wp2_with fail
      go_roundw
      case rel => exact ⟨k + 1, by omega, by go_num, by rw [Hst.out], ⟨true, hm4⟩, ht.trans (ht4.mono ht.size (fun _ _ h => h))⟩
      case measure => simp [RowKit.intOf]; omega
    · obtain rfl : k = d.size := by omega
      have hfull : d.data.toList.take d.size = d.data.toList := List.take_of_length_le (Nat.le_of_eq Hl.out)
      rw [hfull]
      have hx := fold_lt d.data.toList 4294967295 (by decide)
      generalize d.data.toList.foldl nextC 4294967295 = x at *
      have hox := ones_xor hx
      have h64 : IntKind.i64.wrap ((4294967295 - x : Nat) : Int) = ((4294967295 - x : Nat) : Int) := IntWalk.i64_in _ ⟨by omega, by omega⟩
      generalize 4294967295 - x = y at *
      go_wp2_with fail
      go_ret
      exact ⟨by rw [Hsum.out]; rfl, ht.below (Nat.le_refl _) (fun j hj e => by omega)⟩
set_option maxRecDepth 100000 in
theorem sum_any (d : ByteArray) (w : World) (hd : d.size ≤ 100000000) :
    Calls Tryz.prog 121 #[.string d] w fun e w' => e = .returned (.int .i64 (sumC d.data.toList : Nat)) ∧ Below w.heap.size w w' := by
  have HM := Lib.hid (more_any d w hd)
  go_enter Tryz.func121, Tryz.ntmps121
  go_wp2_with fail
  refine HM.out.mono ?_
  rintro e w4 ⟨rfl, hb⟩
  go_wp2_with fail
  go_ret
  exact ⟨rfl, hb⟩
end Go.Proofs.YtgglheelhbfgiaaGreatDoor

