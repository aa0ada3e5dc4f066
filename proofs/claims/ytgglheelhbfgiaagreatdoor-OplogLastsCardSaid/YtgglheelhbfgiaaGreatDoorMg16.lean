/-
  A disk, as it lies in memory: its maps, its acts; wrong, dies, Dead, Arm. A disk: wrong, dies, Read. A disk: laid (a file's bytes behind a write). A disk: Read. A disk: what an act makes of files. A disk: what a write makes of files. A disk: does.
-/
import Derived.Test.YtgglheelhbfgiaaGreatDoorMg14
import Derived.Test.YtgglheelhbfgiaaGreatDoorMg11
import Derived.Test.YtgglheelhbfgiaaGreatDoorMg15
import Derived.Test.YtgglheelhbfgiaaGreatDoorMg4
import Derived.IntWalk
import Derived.Test.YtgglheelhbfgiaaGreatDoorMg1
import Derived.Test.YtgglheelhbfgiaaGreatDoorShelf
import Derived.Laws.Concat
import Derived.Test.YtgglheelhbfgiaaGreatDoorMg5
namespace Go.Proofs.YtgglheelhbfgiaaGreatDoor
open Go Go.RowKit Go.Lib
/-- A map of texts that has been cloned. -/
theorem MapK.copy {α : Type} {K : ValK α} {P : Program} {k : TypeId} {w : World} {b : Nat} {es : List (ByteArray × α)} (h : MapK K P k w b es) : ∃ rows clock, w.heap[b]? = some (.map rows clock) ∧ ∀ w' b', w'.heap[b']? = some (.map rows clock) → MapK K P k w' b' es := by
  obtain ⟨rows, clock, hb, Ft, hs, hD⟩ := h
  exact ⟨rows, clock, hb, fun w' b' hb' => ⟨rows, clock, hb', Ft, hs, hD⟩⟩
/-- A closure of boxes. -/
structure FnV where
  fn : Nat
  ps : Array Value
def FnV.val (f : FnV) : Value := .func (.func f.fn) #[] f.ps
def actLay : Lay FnV := { sz := 1, cells := fun f => [f.val], len := fun _ => rfl, one := fun x v hv => by simp only [List.mem_cons, List.mem_nil_iff, or_false] at hv; rw [hv]; rfl }
/-- A box behind the disk that is not of the acts' row; S: the disk's own blocks. -/
def BoxAt (w : World) (db : Nat) (v : Value) (S : Nat → Prop) (x c : Value) : Prop := ∃ k, x = .pointer (some ⟨k, 0, none⟩) ∧ db < k ∧ k < w.heap.size ∧ S k ∧ v.ownBlock ≠ some k ∧ w.cell? ⟨k, 0, none⟩ = some c
def ActAt (w : World) (db : Nat) (v : Value) (S : Nat → Prop) (f : FnV) (a : ActD) : Prop :=
  (a.cut = false ∧ f.fn = 67 ∧ ∃ d n p, f.ps = #[d, n, p] ∧ BoxAt w db v S d (.string a.data) ∧ BoxAt w db v S n (.string a.name) ∧ BoxAt w db v S p (.int .i64 a.n)) ∨
  (a.cut = true ∧ f.fn = 87 ∧ ∃ n p, f.ps = #[n, p] ∧ BoxAt w db v S n (.string a.name) ∧ BoxAt w db v S p (.int .i64 a.n))
inductive ActsAt (w : World) (db : Nat) (v : Value) (S : Nat → Prop) : List FnV → List ActD → Prop where
  | nil : ActsAt w db v S [] []
  | cons {f : FnV} {a : ActD} {fs : List FnV} {xs : List ActD} : ActAt w db v S f a → ActsAt w db v S fs xs → ActsAt w db v S (f :: fs) (a :: xs)
theorem ActsAt.map {w w' : World} {db : Nat} {v v' : Value} {S S' : Nat → Prop} {fs : List FnV} {xs : List ActD} (h : ActsAt w db v S fs xs) (hb : ∀ x c, BoxAt w db v S x c → BoxAt w' db v' S' x c) : ActsAt w' db v' S' fs xs := by
  induction h with
  | nil => exact .nil
  | cons h1 _ ih =>
    refine .cons ?_ ih
    rcases h1 with ⟨h1, h2, d, n, p, h3, h4, h5, h6⟩ | ⟨h1, h2, n, p, h3, h4, h5⟩
    · exact .inl ⟨h1, h2, d, n, p, h3, hb _ _ h4, hb _ _ h5, hb _ _ h6⟩
    · exact .inr ⟨h1, h2, n, p, h3, hb _ _ h4, hb _ _ h5⟩
theorem ActsAt.snoc {w : World} {db : Nat} {v : Value} {S : Nat → Prop} {fs : List FnV} {xs : List ActD} {f : FnV} {a : ActD} (h : ActsAt w db v S fs xs) (hf : ActAt w db v S f a) : ActsAt w db v S (fs ++ [f]) (xs ++ [a]) := by
  induction h with
  | nil => exact .cons hf .nil
  | cons h1 _ ih => exact .cons h1 ih
theorem ActAt.map {w w' : World} {db : Nat} {v v' : Value} {S S' : Nat → Prop} {f : FnV} {a : ActD} (h : ActAt w db v S f a) (hb : ∀ x c, BoxAt w db v S x c → BoxAt w' db v' S' x c) : ActAt w' db v' S' f a := by
  have h2 := (ActsAt.cons h .nil).map hb
  cases h2 with
  | cons h _ => exact h
/-- What turns is no box of cells, but for the acts' row. -/
def SafeB (w : World) (db : Nat) (v : Value) (T : Nat → Prop) : Prop := ∀ k c, T k → db < k → w.cell? ⟨k, 0, none⟩ = some c → v.ownBlock = some k
theorem BoxAt.turned {w w' : World} {db : Nat} {v x c : Value} {S T : Nat → Prop} {B : Nat} (h : BoxAt w db v S x c) (ht : Turned T B w w') (hB : w.heap.size ≤ B) (hS : SafeB w db v T) : BoxAt w' db v S x c := by
  obtain ⟨k, e, h1, h2, h5, h3, h4⟩ := h
  have hb := ht.block k (by omega) fun hs => h3 (hS k c hs h1 h4)
  exact ⟨k, e, h1, Nat.lt_of_lt_of_le h2 ht.size, h5, h3, (World.cell?_of_block hb).trans h4⟩
theorem BoxAt.mono {w : World} {db : Nat} {v x c : Value} {S S' : Nat → Prop} (h : BoxAt w db v S x c) (hS : ∀ k, S k → S' k) : BoxAt w db v S' x c := by
  obtain ⟨k, e, h1, h2, h5, h3, h4⟩ := h
  exact ⟨k, e, h1, h2, hS k h5, h3, h4⟩
/-- Blocks that are not the disk's turn. -/
theorem BoxAt.foreign {w w' : World} {db : Nat} {v x c : Value} {S T : Nat → Prop} (h : BoxAt w db v S x c) (ht : Turned T w.heap.size w w') (hT : ∀ k, T k → ¬ S k) : BoxAt w' db v S x c := by
  obtain ⟨k, e, h1, h2, h5, h3, h4⟩ := h
  have hb := ht.block k h2 fun hs => hT k hs h5
  exact ⟨k, e, h1, Nat.lt_of_lt_of_le h2 ht.size, h5, h3, (World.cell?_of_block hb).trans h4⟩
theorem ActsAt.turned {w w' : World} {db : Nat} {v : Value} {S T : Nat → Prop} {B : Nat} {fs : List FnV} {xs : List ActD} (h : ActsAt w db v S fs xs) (ht : Turned T B w w') (hB : w.heap.size ≤ B) (hS : SafeB w db v T) : ActsAt w' db v S fs xs := h.map fun _ _ hb => hb.turned ht hB hS
def diskCells (d : Dk) (nb fb : Nat) (v : Value) : List Value := [.int .i64 d.limit, .map (some nb), .map (some fb), v, .int .i64 d.armed, .bool d.dead]
structure DAt (w : World) (db nb fb : Nat) (v : Value) (S : Nat → Prop) (d : Dk) : Prop where
  cells : VarAt w db (diskCells d nb fb v)
  now : MapK strV Tryz.prog 9 w nb d.now
  firm : MapK strV Tryz.prog 9 w fb d.firm
  nbdb : db ≠ nb
  fbdb : db ≠ fb
  ne : nb ≠ fb
  acts : ∃ fs, OwnRows actLay w (db + 1) 118 v fs ∧ ActsAt w db v S fs d.acts
  sdb : S db
  snb : S nb
  sfb : S fb
  sv : ∀ k, v.ownBlock = some k → S k
  slt : ∀ k, S k → k < w.heap.size
  ok : DkOK d
/-- The disk's own cells alone are turned. -/
theorem DAt.cellsTurned {w w' : World} {db nb fb : Nat} {v : Value} {S : Nat → Prop} {d d' : Dk} (h : DAt w db nb fb v S d) (ht : Turned (fun j => j = db) w.heap.size w w') (hc : VarAt w' db (diskCells d' nb fb v)) (e1 : d'.now = d.now) (e2 : d'.firm = d.firm) (e3 : d'.acts = d.acts) (e4 : d'.limit = d.limit) : DAt w' db nb fb v S d' := by
  obtain ⟨fs, ho, ha⟩ := h.acts
  have hn := h.nbdb
  have hf := h.fbdb
  refine ⟨hc, ?_, ?_, hn, hf, h.ne, ⟨fs, ho.turned ht (fun k hk => by omega), ?_⟩, h.sdb, h.snb, h.sfb, h.sv, fun k hk => Nat.lt_of_lt_of_le (h.slt k hk) ht.size, ?_⟩
  · rw [e1]
    exact h.now.same (ht.block nb h.now.lt (show ¬ (nb = db) by omega))
  · rw [e2]
    exact h.firm.same (ht.block fb h.firm.lt (show ¬ (fb = db) by omega))
  · rw [e3]
    exact ha.turned ht (Nat.le_refl _) fun k c hk hlt _ => by
      have : k = db := hk
      omega
  · exact ⟨by rw [e4]; exact h.ok.limit, by rw [e1]; exact h.ok.now, by rw [e2]; exact h.ok.firm, by rw [e3]; exact h.ok.acts⟩
theorem OwnRows.turnedOther {α : Type} {L : Lay α} {W W' : World} {T : Nat → Prop} {base : Nat} {e : TypeId} {v : Value} {xs : List α} (h : OwnRows L W base e v xs) (ht : Turned T W.heap.size W W') (hT : ∀ k, v.ownBlock = some k → ¬ T k) : OwnRows L W' base e v xs := by
  refine ⟨h.1, ?_⟩
  rcases h.2 with hn | ⟨g, cap, cur, rfl, hg, hgg, rest⟩
  · exact .inl hn
  · refine .inr ⟨g, cap, cur, rfl, hg, ?_, rest⟩
    rw [ht.block g (Array.getElem?_eq_some_iff.1 hgg).1 (hT g rfl)]
    exact hgg
/-- Blocks that are not the disk's turn. -/
theorem DAt.foreign {w w' : World} {db nb fb : Nat} {v : Value} {S T : Nat → Prop} {d : Dk} (h : DAt w db nb fb v S d) (ht : Turned T w.heap.size w w') (hT : ∀ k, T k → ¬ S k) : DAt w' db nb fb v S d := by
  obtain ⟨fs, ho, ha⟩ := h.acts
  exact ⟨h.cells.same (ht.block db h.cells.1 fun hs => hT db hs h.sdb) ht.size, h.now.same (ht.block nb h.now.lt fun hs => hT nb hs h.snb), h.firm.same (ht.block fb h.firm.lt fun hs => hT fb hs h.sfb), h.nbdb, h.fbdb, h.ne, ⟨fs, ho.turnedOther ht fun k hk hs => hT k hs (h.sv k hk), ha.map fun _ _ hb => hb.foreign ht hT⟩, h.sdb, h.snb, h.sfb, h.sv, fun k hk => Nat.lt_of_lt_of_le (h.slt k hk) ht.size, h.ok⟩
theorem DAt.below {w w' : World} {db nb fb : Nat} {v : Value} {S : Nat → Prop} {d : Dk} (h : DAt w db nb fb v S d) (hb : Below w.heap.size w w') : DAt w' db nb fb v S d :=
  h.foreign (T := fun _ => False) (Turned.of_below hb (Nat.le_refl _)) fun _ hf => hf.elim
theorem DAt.mono {w : World} {db nb fb : Nat} {v : Value} {S S' : Nat → Prop} {d : Dk} (h : DAt w db nb fb v S d) (hS : ∀ k, S k → S' k) (hl : ∀ k, S' k → k < w.heap.size) : DAt w db nb fb v S' d := by
  obtain ⟨fs, ho, ha⟩ := h.acts
  exact ⟨h.cells, h.now, h.firm, h.nbdb, h.fbdb, h.ne, ⟨fs, ho, ha.map fun _ _ hb => hb.mono hS⟩, hS _ h.sdb, hS _ h.snb, hS _ h.sfb, fun k hk => hS k (h.sv k hk), hl, h.ok⟩
/-- What was the disk's, and whatever is new. -/
def GrowS (S : Nat → Prop) (w w' : World) : Nat → Prop := fun k => S k ∨ (w.heap.size ≤ k ∧ k < w'.heap.size)
theorem dead_any (w : World) (db nb fb : Nat) (v : Value) (S : Nat → Prop) (d : Dk) (h : DAt w db nb fb v S d) : Calls Tryz.prog 26 #[.pointer (some ⟨db, 0, none⟩)] w fun e w' => e = .returned (.bool d.dead) ∧ w' = w := by
  have c5 : w.cell? ⟨db, 5, none⟩ = some (.bool d.dead) := h.cells.2.2 5 _ rfl
  clear h
  go_enter Tryz.func26, Tryz.ntmps26
  go_wp2_with fail
  go_ret
  exact ⟨rfl, rfl⟩
theorem arm_any (w : World) (db nb fb : Nat) (v : Value) (S : Nat → Prop) (d : Dk) (n : Int) (h : DAt w db nb fb v S d) : Calls Tryz.prog 19 #[.pointer (some ⟨db, 0, none⟩), .int .i64 n] w fun e w' => e = .returned (.tuple #[]) ∧ DAt w' db nb fb v S (armD d n) ∧ Turned (fun j => j = db) w.heap.size w w' := by
  have c4 : w.cell? ⟨db, 4, none⟩ = some (.int .i64 d.armed) := h.cells.2.2 4 _ rfl
  have f4 := h.cells.2.1 4
  have HD := Lib.hid h
  clear h
  go_enter Tryz.func19, Tryz.ntmps19
  go_wp2_with fail
  go_end0
  have hT := (Turned.refl (fun j => j = db) w.heap.size w).set (b := db) 4 (.int .i64 (max n 0)) (fun _ => rfl)
  exact ⟨rfl, HD.out.cellsTurned hT (by simpa [diskCells, armD] using HD.out.cells.set 4 (.int .i64 (max n 0)) (by simp [diskCells])) rfl rfl rfl rfl, hT⟩
end Go.Proofs.YtgglheelhbfgiaaGreatDoor

namespace Go.Proofs.YtgglheelhbfgiaaGreatDoor
open Go Go.RowKit Go.Lib
theorem empty_iff (s : ByteArray) : s.toList.isEmpty = decide (s.size = 0) := by
  rw [toList_data]
  cases h : s.data.toList with
  | nil =>
    have : s.size = 0 := by show s.data.size = 0; rw [← Array.length_toList, h]; rfl
    simp [this]
  | cons a r =>
    have : s.size ≠ 0 := by show s.data.size ≠ 0; rw [← Array.length_toList, h]; simp
    simp [this]
set_option maxRecDepth 100000 in
theorem wrong_any (w : World) (db nb fb : Nat) (v : Value) (S : Nat → Prop) (d : Dk) (name : ByteArray) (n : Int) (h : DAt w db nb fb v S d) : Calls Tryz.prog 65 #[.pointer (some ⟨db, 0, none⟩), .string name, .int .i64 n] w fun e w' => e = .returned (.int .i64 (wrongD d name n)) ∧ w' = w := by
  have c5 : w.cell? ⟨db, 5, none⟩ = some (.bool d.dead) := h.cells.2.2 5 _ rfl
  have c0 : w.cell? ⟨db, 0, none⟩ = some (.int .i64 d.limit) := h.cells.2.2 0 _ rfl
  clear h
  have Hr := Lib.hid (show wrongD d name n = if d.dead = true then 42 else if name.size = 0 ∨ 24 < name.size ∨ n < 0 ∨ (d.limit : Int) < n then 1 else 0 from rfl)
  have he := empty_iff name
  generalize d.limit = lim at *
  generalize hd : d.dead = dead at *
  generalize hr : wrongD d name n = r at *
  clear hd hr
  cases dead with
  | true =>
    go_enter Tryz.func65, Tryz.ntmps65
    go_wp2_with fail
    go_ret
    exact ⟨by rw [Hr.out]; rfl, rfl⟩
  | false =>
    by_cases h1 : name.size = 0
    · have Hr2 := Lib.hid (Hr.out.trans ((if_neg (by decide)).trans (if_pos (.inl h1))))
      have e1 : name.toList.isEmpty = true := by rw [he]; exact decide_eq_true h1
      clear he h1
      go_enter Tryz.func65, Tryz.ntmps65
      go_wp2_with fail
      go_ret
      exact ⟨by rw [Hr2.out]; rfl, rfl⟩
    · have e1 : name.toList.isEmpty = false := by rw [he]; exact decide_eq_false h1
      clear he
      by_cases h2 : 24 < name.size ∨ n < 0 ∨ (lim : Int) < n
      · have Hr2 := Lib.hid (Hr.out.trans ((if_neg (by decide)).trans (if_pos (.inr h2))))
        rcases h2 with h2 | h2 | h2
        · have q1 : decide ((name.size : Int) > 24) = true := decide_eq_true (by omega)
          have q2 : decide (24 < name.size) = true := decide_eq_true h2
          have q3 : decide ((24 : Int) < (name.size : Int)) = true := decide_eq_true (by omega)
          clear h1
          go_enter Tryz.func65, Tryz.ntmps65
          go_wp2_with fail
          go_ret
          exact ⟨by rw [Hr2.out]; rfl, rfl⟩
        · by_cases h3 : 24 < name.size
          all_goals
            clear h1
            go_enter Tryz.func65, Tryz.ntmps65
            go_wp2_with fail
            go_ret
            exact ⟨by rw [Hr2.out]; rfl, rfl⟩
        · have h4 : 0 ≤ n := by omega
          by_cases h3 : 24 < name.size
          · have h3i : (24 : Int) < (name.size : Int) := by omega
            clear h1
            go_enter Tryz.func65, Tryz.ntmps65
            go_wp2_with fail
            go_ret
            exact ⟨by rw [Hr2.out]; rfl, rfl⟩
          · have h3i : (name.size : Int) ≤ 24 := by omega
            have h3n : name.size ≤ 24 := by omega
            clear h1
            go_enter Tryz.func65, Tryz.ntmps65
            go_wp2_with fail
            go_ret
            exact ⟨by rw [Hr2.out]; rfl, rfl⟩
      · have Hr2 := Lib.hid (Hr.out.trans ((if_neg (by decide)).trans (if_neg (fun e => e.elim h1 h2))))
        have h3 : name.size ≤ 24 := by omega
        have h4 : 0 ≤ n := by omega
        have h5 : n ≤ (lim : Int) := by omega
        have h3i : (name.size : Int) ≤ 24 := by omega
        clear h1 h2
        go_enter Tryz.func65, Tryz.ntmps65
        go_wp2_with fail
        go_ret
        exact ⟨by rw [Hr2.out]; rfl, rfl⟩
set_option maxRecDepth 100000 in
theorem dies_any (w : World) (db nb fb : Nat) (v : Value) (S : Nat → Prop) (d : Dk) (h : DAt w db nb fb v S d) : Calls Tryz.prog 88 #[.pointer (some ⟨db, 0, none⟩)] w fun e w' => e = .returned (.bool (diesD d).dead) ∧ DAt w' db nb fb v S (diesD d) ∧ Turned (fun j => j = db) w.heap.size w w' := by
  have c5 : w.cell? ⟨db, 5, none⟩ = some (.bool d.dead) := h.cells.2.2 5 _ rfl
  have c4 : w.cell? ⟨db, 4, none⟩ = some (.int .i64 d.armed) := h.cells.2.2 4 _ rfl
  have f5 := h.cells.2.1 5
  have f4 := h.cells.2.1 4
  have HD := Lib.hid h
  clear h
  by_cases ha : 0 < d.armed
  · have Hr := Lib.hid (show diesD d = { d with armed := wrap64 (d.armed - 1), dead := wrap64 (d.armed - 1) == 0 } from if_pos ha)
    obtain ⟨m, hm⟩ : ∃ m, wrap64 (d.armed - 1) = m := ⟨_, rfl⟩
    have Hm := Lib.hid hm
    go_enter Tryz.func88, Tryz.ntmps88
    go_wp2_with fail
    go_ret
    have hT := ((Turned.refl (fun j => j = db) w.heap.size w).set (b := db) 4 (.int .i64 m) (fun _ => rfl)).set (b := db) 5 (.bool (m == 0)) (fun _ => rfl)
    have hV := (HD.out.cells.set 4 (.int .i64 m) (by simp [diskCells])).set 5 (.bool (m == 0)) (by simp [diskCells])
    rw [Hr.out, Hm.out]
    exact ⟨rfl, HD.out.cellsTurned hT (by simpa [diskCells] using hV) rfl rfl rfl rfl, hT⟩
  · have Hr := Lib.hid (show diesD d = d from if_neg ha)
    go_enter Tryz.func88, Tryz.ntmps88
    go_wp2_with fail
    go_ret
    rw [Hr.out]
    exact ⟨rfl, HD.out, Turned.refl _ _ _⟩
end Go.Proofs.YtgglheelhbfgiaaGreatDoor

namespace Go.Proofs.YtgglheelhbfgiaaGreatDoor
open Go Go.RowKit Go.Lib
theorem joined (t d : ByteArray) (n : Nat) : ((t.extract 0 n ++ d) ++ t.extract (min t.size (n + d.size)) t.size).data.toList = t.data.toList.take n ++ d.data.toList ++ t.data.toList.drop (n + d.data.toList.length) := by
  have h1 : (t.extract 0 n).data.toList = t.data.toList.take n := by
    rw [ByteArray.data_extract, Array.toList_extract, List.extract_eq_take_drop, List.drop_zero, Nat.sub_zero]
  have h2 : ∀ k, (t.extract k t.size).data.toList = t.data.toList.drop k := fun k => by
    rw [ByteArray.data_extract, Array.toList_extract, List.extract_eq_take_drop, List.take_of_length_le (by rw [List.length_drop]; exact Nat.le_refl _)]
  rw [ByteArray.data_append, Array.toList_append, ByteArray.data_append, Array.toList_append, h1, h2]
  congr 1
  by_cases h : t.size ≤ n + d.size
  · rw [Nat.min_eq_left h, List.drop_eq_nil_of_le (by exact Nat.le_refl _), List.drop_eq_nil_of_le (by exact h)]
  · rw [Nat.min_eq_right (by omega)]
    rfl
set_option maxRecDepth 100000 in
theorem laid_any (s d : ByteArray) (n : Nat) (w : World) (hs : s.size ≤ 8000000) (hd : d.size ≤ 8000) (hn : n ≤ 8000000) : Calls Tryz.prog 68 #[.string s, .int .i64 n, .string d] w fun e w' => e = .returned (.string (laidB s n d)) ∧ Below w.heap.size w w' := by
  by_cases hlt : s.size < n
  · have hlti : (s.size : Int) < (n : Int) := by omega
    obtain ⟨c, hc⟩ : ∃ c : Nat, n - s.size = c := ⟨_, rfl⟩
    have hci : (n : Int) - (s.size : Int) = (c : Int) := by omega
    have HR := Lib.hid fun W => Tryz.strings_Repeat ⟨#[0]⟩ c W (by omega) (by show 1 * c ≤ _; omega)
    have hz : repeatL [0] c = List.replicate c 0 := by
      have := repeatL_replicate 0 1 c
      simpa using this
    have hts : (s ++ (⟨(repeatL [0] c).toArray⟩ : ByteArray)).size = n := by
      rw [ByteArray.size_append, hz]
      show s.size + (List.replicate c (0 : UInt8)).toArray.size = n
      simp
      omega
    have htl : (s ++ (⟨(repeatL [0] c).toArray⟩ : ByteArray)).data.toList = s.data.toList ++ List.replicate c 0 := by
      rw [ByteArray.data_append, Array.toList_append, hz]
    clear hz
    obtain ⟨t, ht⟩ : ∃ t, s ++ (⟨(repeatL [0] c).toArray⟩ : ByteArray) = t := ⟨_, rfl⟩
    rw [ht] at hts htl
    have hzs : (⟨(repeatL [0] c).toArray⟩ : ByteArray).size = c := by
      show (repeatL [0] c).toArray.size = c
      rw [List.size_toArray, repeatL_length]
      exact Nat.mul_one c
    have hcat0 : ∀ W' : World, (Op.stringOp .add s ⟨(repeatL [0] c).toArray⟩).run Tryz.prog W' = .ok (.string t) W' := fun W' => by
      rw [← ht]
      exact run_string_add W' _ _ (by omega) (by omega)
    clear ht hzs
    obtain ⟨m, hm⟩ : ∃ m : Nat, min t.size (n + d.size) = m := ⟨_, rfl⟩
    have hmi : min (t.size : Int) ((n : Int) + (d.size : Int)) = (m : Int) := by omega
    have hw64 : wrap64 ((n : Int) + (d.size : Int)) = (n : Int) + (d.size : Int) := IntWalk.wrap64_in _ ⟨by omega, by omega⟩
    have hms : m ≤ t.size := by omega
    have hnt : n ≤ t.size := by omega
    have hx1 : (t.extract 0 n).size = n := by rw [ByteArray.size_extract]; omega
    have hx2 : (t.extract 0 n ++ d).size = n + d.size := by rw [ByteArray.size_append, hx1]
    have hx3 : (t.extract m t.size).size ≤ t.size := by rw [ByteArray.size_extract]; omega
    have hcat1 : ∀ W' : World, (Op.stringOp .add (t.extract 0 n) d).run Tryz.prog W' = .ok (.string (t.extract 0 n ++ d)) W' := fun W' => run_string_add W' _ _ (by omega) (by omega)
    have hcat2 : ∀ W' : World, (Op.stringOp .add (t.extract 0 n ++ d) (t.extract m t.size)).run Tryz.prog W' = .ok (.string (t.extract 0 n ++ d ++ t.extract m t.size)) W' := fun W' => run_string_add W' _ _ (by omega) (by omega)
    have Hr := Lib.hid (show laidB s n d = t.extract 0 n ++ d ++ t.extract m t.size by
      have h1 := joined t d n
      rw [hm] at h1
      have h2 : (laidB s n d).data.toList = (t.extract 0 n ++ d ++ t.extract m t.size).data.toList := by
        rw [h1, htl]
        show laidL _ _ _ = _
        unfold laidL padL
        rw [show n - s.data.toList.length = c from hc]
      exact bytesK_inj.1 h2)
    clear hx1 hx2 hx3 hm hts htl
    go_enter Tryz.func68, Tryz.ntmps68
    go_wp2_with fail
    refine (HR.out _).mono ?_
    rintro e w2 ⟨rfl, hb⟩
    go_wp2_with fail
    go_region
    go_wp2_with fail
    go_ret
    exact ⟨by rw [Hr.out]; rfl, hb.drew⟩
  · have hge : n ≤ s.size := by omega
    have hgei : (n : Int) ≤ (s.size : Int) := by omega
    obtain ⟨m, hm⟩ : ∃ m : Nat, min s.size (n + d.size) = m := ⟨_, rfl⟩
    have hmi : min (s.size : Int) ((n : Int) + (d.size : Int)) = (m : Int) := by omega
    have hw64 : wrap64 ((n : Int) + (d.size : Int)) = (n : Int) + (d.size : Int) := IntWalk.wrap64_in _ ⟨by omega, by omega⟩
    have hms : m ≤ s.size := by omega
    have hx1 : (s.extract 0 n).size = n := by rw [ByteArray.size_extract]; omega
    have hx2 : (s.extract 0 n ++ d).size = n + d.size := by rw [ByteArray.size_append, hx1]
    have hx3 : (s.extract m s.size).size ≤ s.size := by rw [ByteArray.size_extract]; omega
    have hcat1 : ∀ W' : World, (Op.stringOp .add (s.extract 0 n) d).run Tryz.prog W' = .ok (.string (s.extract 0 n ++ d)) W' := fun W' => run_string_add W' _ _ (by omega) (by omega)
    have hcat2 : ∀ W' : World, (Op.stringOp .add (s.extract 0 n ++ d) (s.extract m s.size)).run Tryz.prog W' = .ok (.string (s.extract 0 n ++ d ++ s.extract m s.size)) W' := fun W' => run_string_add W' _ _ (by omega) (by omega)
    have Hr := Lib.hid (show laidB s n d = s.extract 0 n ++ d ++ s.extract m s.size by
      have h1 := joined s d n
      rw [hm] at h1
      have h2 : (laidB s n d).data.toList = (s.extract 0 n ++ d ++ s.extract m s.size).data.toList := by
        rw [h1]
        show laidL _ _ _ = _
        unfold laidL padL
        rw [show n - s.data.toList.length = 0 by show n - s.size = 0; omega, List.replicate_zero, List.append_nil]
      exact bytesK_inj.1 h2)
    clear hx1 hx2 hx3 hm
    go_enter Tryz.func68, Tryz.ntmps68
    go_wp2_with fail
    go_region
    go_wp2_with fail
    go_ret
    exact ⟨by rw [Hr.out]; rfl, (Below.refl _ _).drew⟩
end Go.Proofs.YtgglheelhbfgiaaGreatDoor

namespace Go.Proofs.YtgglheelhbfgiaaGreatDoor
open Go Go.RowKit Go.Lib
theorem dkeyL : Go.Maps.Keyed Tryz.prog 9 := Go.Maps.string_keyed Tryz.underlying9
theorem zeroStrD (w : World) : (zeroValue 9).run Tryz.prog w = .ok (strV.val noB) w := by kernel_rfl
theorem wrong_small {d : Dk} {name : ByteArray} {n : Int} (h : wrongD d name n = 0) : d.dead = false ∧ name.size ≤ 24 ∧ 0 ≤ n ∧ n ≤ d.limit := by
  unfold wrongD at h
  split at h
  · cases h
  · split at h
    · cases h
    · rename_i h1 h2
      exact ⟨by simpa using h1, by omega, by omega, by omega⟩
set_option maxRecDepth 100000 in
theorem read_any (w : World) (db nb fb : Nat) (v : Value) (S : Nat → Prop) (d : Dk) (name : ByteArray) (h : DAt w db nb fb v S d) : Calls Tryz.prog 32 #[.pointer (some ⟨db, 0, none⟩), .string name] w fun e w' => e = .returned (.tuple #[.string (readD d name).1, .int .i64 (readD d name).2]) ∧ w' = w := by
  have c1 : w.cell? ⟨db, 1, none⟩ = some (.map (some nb)) := h.cells.2.2 1 _ rfl
  have HW := Lib.hid (wrong_any w db nb fb v S d name 0 h)
  have HM := Lib.hid h.now
  clear h
  by_cases hw : wrongD d name 0 = 0
  · have hsm := wrong_small hw
    have hlk := MapK.look (t := 94) HM.out dkeyL Tryz.underlying9 Tryz.underlying94 (zeroStrD w) (p := name) (by unfold maxLen; omega)
    rw [hw] at HW
    have Hr := Lib.hid (show readD d name = match findK d.now name with | none => (noB, 25) | some s => (s, 0) from if_neg (by rw [hw]; simp))
    clear hsm hw
    cases hf : findK d.now name with
    | none =>
      rw [hf] at Hr hlk
      clear hf
      simp only [Option.getD_none, Option.isSome_none, strV] at hlk
      go_enter Tryz.func32, Tryz.ntmps32
      go_wp2_with fail
      refine HW.out.mono ?_
      rintro e w' ⟨rfl, rfl⟩
      go_wp2_with fail
      go_ret2
      exact ⟨by rw [Hr.out]; rfl, rfl⟩
    | some s =>
      rw [hf] at Hr hlk
      clear hf
      simp only [Option.getD_some, Option.isSome_some, strV] at hlk
      go_enter Tryz.func32, Tryz.ntmps32
      go_wp2_with fail
      refine HW.out.mono ?_
      rintro e w' ⟨rfl, rfl⟩
      go_wp2_with fail
      go_ret2
      exact ⟨by rw [Hr.out]; rfl, rfl⟩
  · have Hr := Lib.hid (show readD d name = (noB, wrongD d name 0) from if_pos hw)
    generalize wrongD d name 0 = r at *
    go_enter Tryz.func32, Tryz.ntmps32
    go_wp2_with fail
    refine HW.out.mono ?_
    rintro e w' ⟨rfl, rfl⟩
    go_wp2_with fail
    go_ret2
    exact ⟨by rw [Hr.out]; rfl, rfl⟩
end Go.Proofs.YtgglheelhbfgiaaGreatDoor

namespace Go.Proofs.YtgglheelhbfgiaaGreatDoor
open Go Go.RowKit Go.Lib
set_option maxRecDepth 100000 in
theorem cutact_any (w : World) (mb kn kp : Nat) (es : Fls) (torn : Bool) (a : ActD) (hM : MapK strV Tryz.prog 9 w mb es) (hn : w.cell? ⟨kn, 0, none⟩ = some (.string a.name)) (hp : w.cell? ⟨kp, 0, none⟩ = some (.int .i64 a.n)) (hc : a.cut = true) (hsz : a.name.size ≤ 24) (hes : es.length ≤ 100000) :
    Calls Tryz.prog 87 #[.map (some mb), .bool torn, .pointer (some ⟨kn, 0, none⟩), .pointer (some ⟨kp, 0, none⟩)] w fun e w' => e = .returned (.tuple #[]) ∧ MapK strV Tryz.prog 9 w' mb (doD es a torn) ∧ w.grownBy w' (some mb) := by
  have hlk := MapK.look (t := 94) hM dkeyL Tryz.underlying9 Tryz.underlying94 (zeroStrD w) (p := a.name) (by unfold maxLen; omega)
  have Hr := Lib.hid (show doD es a torn = match findK es a.name with | none => es | some s => putK es a.name (shortB s a.n) from if_pos hc)
  have HM := Lib.hid hM
  clear hM hc
  cases hf : findK es a.name with
  | none =>
    rw [hf] at hlk Hr
    clear hf
    simp only [Option.getD_none, Option.isSome_none, strV] at hlk
    go_enter Tryz.func87, Tryz.ntmps87
    go_wp2_with fail
    go_end0
    exact ⟨rfl, by rw [Hr.out]; exact HM.out, ⟨rfl, rfl, rfl, Nat.le_refl _, fun _ _ _ => rfl⟩⟩
  | some s =>
    rw [hf] at hlk Hr
    clear hf
    simp only [Option.getD_some, Option.isSome_some, strV] at hlk
    obtain ⟨m, hm⟩ : ∃ m : Nat, min s.size a.n = m := ⟨_, rfl⟩
    have hmi : min (s.size : Int) (a.n : Int) = (m : Int) := by omega
    have hms : m ≤ s.size := by omega
    have Hm := Lib.hid hm
    obtain ⟨w2, hu, hM2, hg2⟩ := MapK.put (t := 94) (w := w.drew) HM.out dkeyL Tryz.underlying9 Tryz.underlying94 a.name (s.extract 0 m) (by unfold maxLen; omega) (by unfold maxLen; omega)
    simp only [strV] at hu
    clear hm
    go_enter Tryz.func87, Tryz.ntmps87
    go_wp2_with fail
    go_region
    go_end0
    refine ⟨rfl, ?_, ⟨hg2.os, hg2.tape, hg2.output, hg2.size, hg2.block⟩⟩
    rw [Hr.out]
    show MapK strV _ _ w2 mb (putK es a.name (s.extract 0 (min s.size a.n)))
    rw [Hm.out]
    exact hM2
end Go.Proofs.YtgglheelhbfgiaaGreatDoor

namespace Go.Proofs.YtgglheelhbfgiaaGreatDoor
open Go Go.RowKit Go.Lib
theorem half_size (d : ByteArray) : (halfB d).size ≤ d.size := by
  unfold halfB
  rw [ByteArray.size_extract]
  omega
set_option maxRecDepth 100000 in
theorem writeact_any (w : World) (mb kd kn kp : Nat) (es : Fls) (torn : Bool) (a : ActD) (hM : MapK strV Tryz.prog 9 w mb es) (hd : w.cell? ⟨kd, 0, none⟩ = some (.string a.data)) (hn : w.cell? ⟨kn, 0, none⟩ = some (.string a.name)) (hp : w.cell? ⟨kp, 0, none⟩ = some (.int .i64 a.n)) (hkn : kn < w.heap.size) (hc : a.cut = false) (hsz : a.name.size ≤ 24) (hes : es.length ≤ 100000) (h1 : (hasD es a.name).size ≤ 8000000) (h2 : a.data.size ≤ 8000) (h3 : a.n ≤ 8000000) :
    Calls Tryz.prog 67 #[.map (some mb), .bool torn, .pointer (some ⟨kd, 0, none⟩), .pointer (some ⟨kn, 0, none⟩), .pointer (some ⟨kp, 0, none⟩)] w fun e w' => e = .returned (.tuple #[]) ∧ MapK strV Tryz.prog 9 w' mb (doD es a torn) ∧ w.grownBy w' (some mb) := by
  have hlk := MapK.look1 (t := 94) hM dkeyL Tryz.underlying9 Tryz.underlying94 (zeroStrD w) (p := a.name) (by unfold maxLen; omega)
  have Hr := Lib.hid (show doD es a torn = putK es a.name (laidB (hasD es a.name) a.n (if torn then halfB a.data else a.data)) by unfold doD; rw [if_neg (by rw [hc]; decide)])
  have HM := Lib.hid hM
  have hlk2 : (Instr.lookup 94 (.map (some mb)) (.string a.name) false).run Tryz.prog w = .ok (.string (hasD es a.name)) w := hlk
  have hlk3 : (Instr.lookup 94 (.map (some mb)) (.string a.name) false).run Tryz.prog w.drew = .ok (.string (hasD es a.name)) w.drew := MapK.look1 (t := 94) (w := w.drew) HM.out dkeyL Tryz.underlying9 Tryz.underlying94 (zeroStrD w.drew) (p := a.name) (by unfold maxLen; omega)
  have HL := Lib.hid fun (d : ByteArray) W (h : d.size ≤ 8000) => laid_any (hasD es a.name) d a.n W h1 h h3
  have HP := Lib.hid fun (x : ByteArray) W (hb : Below w.heap.size w W) => MapK.put (t := 94) (w := W) (HM.out.keeps hb HM.out.lt) dkeyL Tryz.underlying9 Tryz.underlying94 a.name x (by unfold maxLen; omega) (by unfold maxLen; omega)
  have hhs := half_size a.data
  have hh2 : ((a.data.size / 2 : Nat) : Int) = (a.data.size : Int) / 2 := by omega
  clear hM hc hlk
  generalize hasD es a.name = s at *
  cases torn with
  | false =>
    go_enter Tryz.func67, Tryz.ntmps67
    go_wp2_with fail
    go_region_law (first
      | (go_simp; go_at_call 68; refine (HL.out _ _ (by omega)).mono ?_; rintro e w4 ⟨rfl, hb4⟩; obtain ⟨w5, hu, hM5, hg5⟩ := HP.out (laidB s a.n a.data) w4 ⟨hb4.os, hb4.tape, hb4.output, hb4.size, hb4.block⟩; simp only [strV] at hu; have hn4 := (hb4.cell (p := ⟨kn, 0, none⟩) hkn).trans hn))
    all_goals
      go_end0
      refine ⟨rfl, ?_, ⟨hg5.os.trans hb4.os, hg5.tape.trans hb4.tape, hg5.output.trans hb4.output, Nat.le_trans hb4.size hg5.size, fun k hk hne => (hg5.block k (Nat.lt_of_lt_of_le hk hb4.size) hne).trans (hb4.block k hk)⟩⟩
      rw [Hr.out]
      exact hM5
  | true =>
    go_enter Tryz.func67, Tryz.ntmps67
    have hsl : (a.data.extract 0 (a.data.size / 2)) = halfB a.data := rfl
    go_wp2_with fail
    go_region_law (first
      | (go_simp; go_at_call 68; refine (HL.out _ _ (by omega)).mono ?_; rintro e w4 ⟨rfl, hb4⟩; obtain ⟨w5, hu, hM5, hg5⟩ := HP.out (laidB s a.n (halfB a.data)) w4 ⟨hb4.os, hb4.tape, hb4.output, hb4.size, hb4.block⟩; simp only [strV] at hu; have hn4 := (hb4.cell (p := ⟨kn, 0, none⟩) hkn).trans hn))
    all_goals
      go_end0
      refine ⟨rfl, ?_, ⟨hg5.os.trans hb4.os, hg5.tape.trans hb4.tape, hg5.output.trans hb4.output, Nat.le_trans hb4.size hg5.size, fun k hk hne => (hg5.block k (Nat.lt_of_lt_of_le hk hb4.size) hne).trans (hb4.block k hk)⟩⟩
      rw [Hr.out]
      exact hM5
end Go.Proofs.YtgglheelhbfgiaaGreatDoor

namespace Go.Proofs.YtgglheelhbfgiaaGreatDoor
open Go Go.RowKit Go.Lib
theorem actInfo : (Tryz.prog.info? 118).map (fun i => (i.zero, i.size, i.bytes)) = some (some .nilFunc, 1, 8) := by kernel_rfl
theorem DAt.row {w : World} {db nb fb : Nat} {v : Value} {S : Nat → Prop} {d : Dk} (h : DAt w db nb fb v S d) : ∀ k, v.ownBlock = some k → db < k ∧ w.cell? ⟨nb, 0, none⟩ = none ∧ k ≠ nb ∧ k ≠ fb := by
  obtain ⟨fs, ho, _⟩ := h.acts
  intro k hk
  have hmap : ∀ b es, MapK strV Tryz.prog 9 w b es → k ≠ b := by
    rintro b es ⟨rows, clock, hb, _⟩ rfl
    rcases ho.2 with ⟨rfl, _⟩ | ⟨q, cap, cur, rfl, hq, hqq, _⟩
    · cases hk
    · simp only [Value.ownBlock, Option.some.injEq] at hk
      subst hk
      rw [hqq] at hb
      cases hb
  refine ⟨by have := (OwnRows.lt ho hk).1; omega, ?_, hmap _ _ h.now, hmap _ _ h.firm⟩
  obtain ⟨rows, clock, hb, _⟩ := h.now
  simp [World.cell?, hb]
/-- The acts' row has grown. -/
theorem DAt.grownActs {w w1 w2 : World} {db nb fb : Nat} {v v' : Value} {S : Nat → Prop} {d : Dk} {fs : List FnV} {f : FnV} {a : ActD} (h : DAt w db nb fb v S d) (hs : w.heap.size ≤ w1.heap.size) (hb1 : Below w.heap.size w w1) (hacts : ActsAt w db v S fs d.acts) (hf : ActAt w db v S f a) (hok : ActOK a)
    (ho : OwnRows actLay w2 (db + 1) 118 v' (fs ++ [f])) (hg : w1.grownBy w2 v.ownBlock) (hv : v'.ownBlock = v.ownBlock ∨ v'.ownBlock = some w1.heap.size) (S' : Nat → Prop) (hS' : ∀ k, S' k ↔ (S k ∨ (w.heap.size ≤ k ∧ k < w2.heap.size))) :
    DAt (w2.setCell ⟨db, 3, none⟩ v') db nb fb v' S' { d with acts := d.acts ++ [a] } ∧ ActAt (w2.setCell ⟨db, 3, none⟩ v') db v' S' f a := by
  have hvs := h.row
  have hn := h.nbdb
  have hf2 := h.fbdb
  have hlt := h.cells.1
  have hnl := h.now.lt
  have hfl := h.firm.lt
  have hsz := hg.size
  have hvb : ∀ k, k < w.heap.size → v.ownBlock ≠ some k → v'.ownBlock ≠ some k := fun k hk hne hv' => by
    rcases hv with e | e
    · exact hne (e ▸ hv')
    · rw [hv'] at e
      cases e
      omega
  have hblk : ∀ k, k < w.heap.size → k ≠ db → v.ownBlock ≠ some k → (w2.setCell ⟨db, 3, none⟩ v').heap[k]? = w.heap[k]? := fun k hk hne hvk =>
    (heap_other w2 v' hne).trans ((hg.block k (Nat.lt_of_lt_of_le hk hs) (fun e => hvk e.symm)).trans (hb1.block k hk))
  have hvn : v.ownBlock ≠ some nb := fun e => (hvs nb e).2.2.1 rfl
  have hvf : v.ownBlock ≠ some fb := fun e => (hvs fb e).2.2.2 rfl
  have hvd : v.ownBlock ≠ some db := fun e => by have := (hvs db e).1; omega
  have hc1 : VarAt w2 db (diskCells d nb fb v) := (h.cells.keeps hb1 hlt).grown hg (fun e => hvd e.symm)
  have hbx : ∀ x c, BoxAt w db v S x c → BoxAt (w2.setCell ⟨db, 3, none⟩ v') db v' S' x c := fun x c hb => by
    obtain ⟨k, e, h1, h2, h5, h3, h4⟩ := hb
    refine ⟨k, e, h1, by simpa using (by omega), (hS' _).2 (.inl h5), hvb k h2 h3, ?_⟩
    exact (World.cell?_of_block (hblk k h2 (by omega) h3)).trans h4
  refine ⟨⟨by simpa [diskCells] using hc1.set 3 v' (by simp [diskCells]), h.now.same (hblk nb hnl (by omega) hvn), h.firm.same (hblk fb hfl (by omega) hvf), hn, hf2, h.ne, ⟨fs ++ [f], ?_, ?_⟩, (hS' _).2 (.inl h.sdb), (hS' _).2 (.inl h.snb), (hS' _).2 (.inl h.sfb), fun k hk => ?_, fun k hk => ?_, h.ok.more hok⟩, hf.map hbx⟩
  · refine OwnRows.turned (S := fun k => k = db) ho ((Turned.refl _ _ _).set 3 v' (fun _ => rfl)) fun k hk => by omega
  · exact ActsAt.map (ActsAt.snoc hacts hf) hbx
  · rcases hv with e | e
    · exact (hS' _).2 (.inl (h.sv k (e ▸ hk)))
    · rw [hk] at e
      cases e
      have := (OwnRows.lt ho hk).2
      exact (hS' _).2 (.inr ⟨hs, this⟩)
  · rcases (hS' _).1 hk with hk | hk
    · have := h.slt k hk
      simp
      omega
    · simpa using hk.2
/-- The files that there are have turned. -/
theorem DAt.nowTurned {w w' : World} {db nb fb : Nat} {v : Value} {S : Nat → Prop} {d : Dk} {es : Fls} (h : DAt w db nb fb v S d) (hM : MapK strV Tryz.prog 9 w' nb es) (hg : w.grownBy w' (some nb)) (hes : FilesOK es) : DAt w' db nb fb v S { d with now := es } := by
  obtain ⟨fs, ho, ha⟩ := h.acts
  have hn := h.nbdb
  have hrow := h.row
  have hT : Turned (fun k => k = nb) w.heap.size w w' := Turned.of_grown hg (Nat.le_refl _) fun k e _ => by cases e; rfl
  refine ⟨h.cells.same (hT.block db h.cells.1 (by omega)) hT.size, hM, h.firm.same (hT.block fb h.firm.lt (fun e => h.ne e.symm)), hn, h.fbdb, h.ne, ⟨fs, ho.turnedOther hT fun k hk e => (hrow k hk).2.2.1 e, ha.turned hT (Nat.le_refl _) fun k c hk hlt hc => ?_⟩, h.sdb, h.snb, h.sfb, h.sv, fun k hk => Nat.lt_of_lt_of_le (h.slt k hk) hT.size, ⟨h.ok.limit, hes, h.ok.firm, h.ok.acts⟩⟩
  have e : k = nb := hk
  subst e
  obtain ⟨rows, clock, hb, _⟩ := h.now
  simp [World.cell?, hb] at hc
theorem ActsAt.len {w : World} {db : Nat} {v : Value} {S : Nat → Prop} {fs : List FnV} {xs : List ActD} (h : ActsAt w db v S fs xs) : fs.length = xs.length := by
  induction h with
  | nil => rfl
  | cons _ _ ih => rw [List.length_cons, List.length_cons, ih]
theorem ActAt.turned {w w' : World} {db : Nat} {v : Value} {S T : Nat → Prop} {B : Nat} {f : FnV} {a : ActD} (h : ActAt w db v S f a) (ht : Turned T B w w') (hB : w.heap.size ≤ B) (hS : SafeB w db v T) : ActAt w' db v S f a := h.map fun _ _ hb => hb.turned ht hB hS
theorem does_dead {d : Dk} {a : ActD} (h : (diesD { d with acts := d.acts ++ [a] }).dead = true) : doesD d a = (diesD { d with acts := d.acts ++ [a] }, 42) := if_pos h
theorem does_alive {d : Dk} {a : ActD} (h : (diesD { d with acts := d.acts ++ [a] }).dead = false) : doesD d a = ({ diesD { d with acts := d.acts ++ [a] } with now := doD (diesD { d with acts := d.acts ++ [a] }).now a false }, 0) := by
  unfold doesD
  rw [if_neg (by rw [h]; decide), (dies_same _).1]
end Go.Proofs.YtgglheelhbfgiaaGreatDoor

