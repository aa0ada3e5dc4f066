/-
  What operations make of a tree: the plain law. Where a stamp's node stands, and which it is. slices.Clone and slices.Insert at nodes. slices.Insert in the midst of nodes. A tree with one node more. A node, its parent, and so on: tree.Chain; slices.Contains at stamps. A node, its parent, and so on: tree.Chain. A node behind an operation: tree.turned. A tree behind an operation: tree.Do. The tree of operations: tree.Fold.
-/
import Derived.Test.YtfbdbjookkogjaaDoorViewPure
import Derived.Test.YtfbdbjookkogjaaDoorOpsW1
import Derived.Test.YtfbdbjookkogjaaDoorViewW3
import Derived.Test.YtfbdbjookkogjaaDoorPut
import Derived.Test.YtfbdbjookkogjaaDoorAppends
import Derived.Test.YtfbdbjookkogjaaDoorSliced
import Derived.Deep.RegionHeld3
import Derived.Lib.SliceRun
import Derived.Test.YtfbdbjookkogjaaDoorCopies
import Derived.Deep.RegionLaw
import Derived.Laws.CopyOwn
import Derived.Laws.Externs
import Derived.Test.YtfbdbjookkogjaaDoorViewW4
import Derived.Deep.RegionWith
import Derived.Deep.CutRange
import Derived.Laws.IdiomCopy
namespace Go.Proofs.YtfbdbjookkogjaaDoor
open Go Go.RowKit

def whereG {α : Type} (p : α → Bool) (l : List α) : Int := if l.findIdx p < l.length then (l.findIdx p : Int) else -1
/-- The first one that is so. -/
def findG {α : Type} (z : α) (p : α → Bool) (l : List α) : α × Bool := match l.find? p with
  | some x => (x, true)
  | none => (z, false)
theorem idx_hitG {α : Type} {l : List α} {p : α → Bool} {k : Nat} {y : α} (hy : l[k]? = some y) (hp : p y = true) (hk : ∀ j z, j < k → l[j]? = some z → p z = false) : l.findIdx p = k := by
  obtain ⟨hlt, e⟩ := List.getElem?_eq_some_iff.1 hy
  refine (List.findIdx_eq hlt).2 ⟨by rw [e]; exact hp, fun j hj => hk j _ hj (List.getElem?_eq_getElem (by omega))⟩
theorem where_hitG {α : Type} {l : List α} {p : α → Bool} {k : Nat} {y : α} (hy : l[k]? = some y) (hp : p y = true) (hk : ∀ j z, j < k → l[j]? = some z → p z = false) : whereG p l = k := by
  unfold whereG
  rw [idx_hitG hy hp hk, if_pos (List.getElem?_eq_some_iff.1 hy).1]
theorem where_missG {α : Type} {l : List α} {p : α → Bool} (hk : ∀ j z, j < l.length → l[j]? = some z → p z = false) : whereG p l = -1 := by
  unfold whereG
  rw [List.findIdx_eq_length.2 (fun z hz => by
    obtain ⟨j, hj, e⟩ := List.mem_iff_getElem.1 hz
    exact hk j z hj (by rw [List.getElem?_eq_getElem hj, e])), if_neg (Nat.lt_irrefl _)]
theorem find_hitG {α : Type} {z : α} {l : List α} {p : α → Bool} {k : Nat} {y : α} (hy : l[k]? = some y) (hp : p y = true) (hk : ∀ j z, j < k → l[j]? = some z → p z = false) : findG z p l = (y, true) := by
  unfold findG
  have h : l.find? p = some y := by
    rw [List.find?_eq_some_iff_getElem]
    obtain ⟨hlt, e⟩ := List.getElem?_eq_some_iff.1 hy
    exact ⟨hp, k, hlt, e, fun j hj => by simpa using hk j _ hj (List.getElem?_eq_getElem (by omega))⟩
  rw [h]
theorem find_missG {α : Type} {z : α} {l : List α} {p : α → Bool} (hk : ∀ j z, j < l.length → l[j]? = some z → p z = false) : findG z p l = (z, false) := by
  unfold findG
  have h : l.find? p = none := by
    rw [List.find?_eq_none]
    intro z hz
    obtain ⟨j, hj, e⟩ := List.mem_iff_getElem.1 hz
    simpa using hk j z hj (by rw [List.getElem?_eq_getElem hj, e])
  rw [h]
theorem where_casesG {α : Type} {z : α} {l : List α} {p : α → Bool} : (∃ k y, whereG p l = (k : Nat) ∧ l[k]? = some y ∧ findG z p l = (y, true) ∧ p y = true) ∨ (whereG p l = -1 ∧ findG z p l = (z, false) ∧ ∀ x ∈ l, p x = false) := by
  by_cases h : l.findIdx p < l.length
  · refine .inl ⟨l.findIdx p, l[l.findIdx p], ?_, List.getElem?_eq_getElem h, ?_, List.findIdx_getElem (w := h)⟩
    · unfold whereG
      rw [if_pos h]
    · refine find_hitG (List.getElem?_eq_getElem h) (List.findIdx_getElem (w := h)) (fun j z hj hz => ?_)
      have h2 := List.not_of_lt_findIdx hj
      obtain ⟨a, b⟩ := List.getElem?_eq_some_iff.1 hz
      rw [b] at h2
      simpa using h2
  · have hm : ∀ j z, j < l.length → l[j]? = some z → p z = false := fun j z hj hz => by
      have h2 := List.not_of_lt_findIdx (p := p) (xs := l) (i := j) (by omega)
      obtain ⟨a, b⟩ := List.getElem?_eq_some_iff.1 hz
      rw [b] at h2
      simpa using h2
    refine .inr ⟨?_, find_missG hm, fun x hx => ?_⟩
    · unfold whereG
      rw [if_neg h]
    · obtain ⟨j, hj, e⟩ := List.mem_iff_getElem.1 hx
      exact hm j x hj (by rw [List.getElem?_eq_getElem hj, e])
def nd0 : Nd := ⟨0, 0, false, 0, 0, ⟨#[]⟩, ⟨#[]⟩⟩
def isNd (c q : Int) (n : Nd) : Bool := decide (n.cnt = c ∧ n.who = q)
def findT (l : List Nd) (c q : Int) : Nd × Bool := findG nd0 (isNd c q) l
def takesT (l : List Nd) (c q : Int) : Bool := decide (c = 0 ∧ q = 0) || ((findT l c q).2 && (findT l c q).1.dir)
def ltNd (n m : Nd) : Bool := lessC n.cnt n.who m.cnt m.who
def grownT (l : List Nd) (n : Nd) : List Nd := l.take (l.findIdx (ltNd n)) ++ n :: l.drop (l.findIdx (ltNd n))
/-- A node, its parent, and so on; out is what was met. -/
def chainGo (l : List Nd) : Nat → Int → Int → List (Int × Int) → List (Int × Int)
  | 0, _, _, out => out
  | f + 1, c, q, out => if (c, q) ∈ out then out else
    if (findT l c q).2 = true then chainGo l f (findT l c q).1.pc (findT l c q).1.pw (out ++ [(c, q)]) else if out = [] then [] else out ++ [(c, q)]
def chainT (l : List Nd) (c q : Int) : List (Int × Int) := chainGo l (l.length + 2) c q []
/-- A node behind an operation that it takes (1 Make, 2 Move, 3 Edit, 4 Drop). -/
def turnedT (l : List Nd) (n : Nd) (x : Opr) : Nd × Bool :=
  if x.kind = 2 then ({ n with pc := x.pc, pw := x.pw, name := x.name }, takesT l x.pc x.pw && !decide ((x.nc, x.nw) ∈ chainT l x.pc x.pw))
  else if x.kind = 3 then ({ n with man := x.man }, !n.dir)
  else if x.kind = 4 then ({ n with pc := 0, pw := 1 }, true)
  else (n, false)
def madeT (l : List Nd) (x : Opr) : Nd := if takesT l x.pc x.pw then ⟨x.nc, x.nw, x.dir, x.pc, x.pw, x.name, x.man⟩ else ⟨x.nc, x.nw, x.dir, 0, 1, x.name, x.man⟩
def doT (l : List Nd) (x : Opr) : List Nd :=
  if (findT l x.nc x.nw).2 = false then (if x.kind = 1 then grownT l (madeT l x) else l)
  else if x.kind = 1 then l
  else if (turnedT l (findT l x.nc x.nw).1 x).2 = true then l.set (l.findIdx (isNd x.nc x.nw)) (turnedT l (findT l x.nc x.nw).1 x).1 else l
def foldT (ops : List Opr) : List Nd := ops.foldl doT []
end Go.Proofs.YtfbdbjookkogjaaDoor

namespace Go.Proofs.YtfbdbjookkogjaaDoor
open Go Go.RowKit Go.Lib
def Nd.agg (x : Nd) : Value := .agg #[.int .i64 x.cnt, .int .i64 x.who, .bool x.dir, .int .i64 x.pc, .int .i64 x.pw, .string x.name, .string x.man]
theorem ret_intG {a b : Int} (h : a = b) : (Ending.returned (.int .i64 a)) = .returned (.int .i64 b) := by rw [h]
theorem ret_boolG {a b : Bool} (h : a = b) : (Ending.returned (.bool a)) = .returned (.bool b) := by rw [h]
set_option maxRecDepth 100000 in
set_option maxHeartbeats 1600000 in
theorem pl_clo (b : Nat) (c q : Int) (x : Nd) (w : World) (hv : VarAt w b [.int .i64 c, .int .i64 q]) : Calls Tryd.prog 55 #[.agg #[.int .i64 x.cnt, .int .i64 x.who, .bool x.dir, .int .i64 x.pc, .int .i64 x.pw, .string x.name, .string x.man], .pointer (some ⟨b, 0, none⟩)] w fun e w' => e = .returned (.bool (isNd c q x)) ∧ Below w.heap.size w w' := by
  obtain ⟨xc, xw, xd, xp, xq, xn, xm⟩ := x
  dsimp only
  have hb := (Below.refl w.heap.size w).alloc (Nat.le_refl _) (.cells #[.int .i64 xc, .int .i64 xw, .bool xd, .int .i64 xp, .int .i64 xq, .string xn, .string xm] 46)
  have hv2 := hv.keeps hb hv.1
  have v0 := hv2.2.2 0 _ rfl
  have v1 := hv2.2.2 1 _ rfl
  have heq := eqlSt xc xw c q
  obtain ⟨r, hr⟩ : ∃ r, isNd c q ⟨xc, xw, xd, xp, xq, xn, xm⟩ = r := ⟨_, rfl⟩
  rw [hr]
  have Hr := Lib.hid hr
  clear hr hv hv2
  go_enter Tryd.func55, Tryd.ntmps55
  go_wp2_with fail
  go_ret
  exact ⟨ret_boolG (by rw [← Hr.out]; first | rfl | (unfold isNd; simp)), hb⟩
set_option maxRecDepth 100000 in
set_option maxHeartbeats 1600000 in
theorem pl_index (b : Nat) (c q : Int) (a : Option Addr) (cap : Nat) (l : List Nd) (w : World) (hl : l.length ≤ 1000000) (ha : RowsAt ndLay w a l) (hv : VarAt w b [.int .i64 c, .int .i64 q]) :
    Calls Tryd.prog 54 #[.slice a l.length cap, .func (.func 55) #[] #[.pointer (some ⟨b, 0, none⟩)]] w fun e w' => e = .returned (.int .i64 (whereG (isNd c q) l)) ∧ Below w.heap.size w w' := by
  have HA := Lib.hid ha
  have HF := Lib.hid fun (x : Nd) W (hv : VarAt W b [.int .i64 c, .int .i64 q]) => pl_clo b c q x W hv
  obtain ⟨p, hp⟩ : ∃ p, isNd c q = p := ⟨_, rfl⟩
  rw [hp] at HF ⊢
  obtain ⟨r, hr⟩ : ∃ r, whereG p l = r := ⟨_, rfl⟩
  rw [hr]
  have Hr := Lib.hid hr
  clear ha hr hp
  go_enter Tryd.func54, Tryd.ntmps54
  go_wp2_with fail
  go_loopw [5, 8] (fun _ i wr => ∃ k : Nat, k ≤ l.length ∧ i = .int .i64 k ∧ Hid (∀ j y, j < k → l[j]? = some y → p y = false) ∧ Below w.heap.size w wr) (fun _ i _ => l.length - (RowKit.intOf i).toNat)
  case atStart => exact ⟨0, Nat.zero_le _, rfl, Lib.hid (fun j _ hj => absurd hj (Nat.not_lt_zero _)), Below.refl _ _⟩
  case round =>
    obtain ⟨k, hk, rfl, Hk, hb⟩ := hrel
    by_cases hlt : k < l.length
    · obtain ⟨y, hy⟩ := at_some hlt
      obtain ⟨b1, off, rfl, hbl, c0, c1, c2, c3, c4, c5, c6⟩ := nd_at (HA.out.keeps hb) hy
      have Hy := Lib.hid hy
      have HFy := Lib.hid (HF.out y wr (hv.keeps hb hv.1))
      clear hy
      obtain ⟨v, hv'⟩ : ∃ v, p y = v := ⟨_, rfl⟩
      rw [hv'] at HFy
      have Hv := Lib.hid hv'
      clear hv'
      cases v with
      | true =>
        have Hq := Lib.hid (where_hitG Hy.out Hv.out Hk.out)
        go_wp2_with fail
        refine HFy.out.mono ?_
        rintro e w1 ⟨rfl, hb1⟩
        have hb2 := hb.trans (hb1.mono hb.size)
        go_wp2_with fail
        go_ret
        exact ⟨ret_intG (by rw [← Hr.out, Hq.out]), hb2⟩
      | false =>
        go_wp2_with fail
        refine HFy.out.mono ?_
        rintro e w1 ⟨rfl, hb1⟩
        have hb2 := hb.trans (hb1.mono hb.size)
        go_wp2_with fail
        go_roundw
        case rel =>
          refine ⟨k + 1, by omega, by go_num, Lib.hid (fun j z hj hz => ?_), hb2⟩
          by_cases e : j = k
          · subst e
            rw [Hy.out] at hz
            cases hz
            exact Hv.out
          · exact Hk.out j z (by omega) hz
        case measure => simp [RowKit.intOf]; omega
    · have Hq := Lib.hid (where_missG (l := l) (p := p) (fun j z hj hz => Hk.out j z (by omega) hz))
      go_wp2_with fail
      go_ret
      exact ⟨ret_intG (by rw [← Hr.out, Hq.out]), hb⟩
set_option maxRecDepth 100000 in
set_option maxHeartbeats 1600000 in
theorem gr_clo (b : Nat) (n : Nd) (x : Nd) (w : World) (hv : VarAt w b [.int .i64 n.cnt, .int .i64 n.who, .bool n.dir, .int .i64 n.pc, .int .i64 n.pw, .string n.name, .string n.man]) : Calls Tryd.prog 70 #[.agg #[.int .i64 x.cnt, .int .i64 x.who, .bool x.dir, .int .i64 x.pc, .int .i64 x.pw, .string x.name, .string x.man], .pointer (some ⟨b, 0, none⟩)] w fun e w' => e = .returned (.bool (ltNd n x)) ∧ Below w.heap.size w w' := by
  obtain ⟨xc, xw, xd, xp, xq, xn, xm⟩ := x
  dsimp only
  have hb := (Below.refl w.heap.size w).alloc (Nat.le_refl _) (.cells #[.int .i64 xc, .int .i64 xw, .bool xd, .int .i64 xp, .int .i64 xq, .string xn, .string xm] 46)
  have hv2 := hv.keeps hb hv.1
  have v0 := hv2.2.2 0 _ rfl
  have v1 := hv2.2.2 1 _ rfl
  have HL := Lib.hid fun W => cless_any n.cnt n.who xc xw W
  obtain ⟨r, hr⟩ : ∃ r, ltNd n ⟨xc, xw, xd, xp, xq, xn, xm⟩ = r := ⟨_, rfl⟩
  have hr2 : lessC n.cnt n.who xc xw = r := hr
  rw [hr2] at HL
  rw [hr]
  clear hr hr2 hv hv2
  go_enter Tryd.func70, Tryd.ntmps70
  go_wp2_with fail
  refine (HL.out _).mono ?_
  rintro e w1 ⟨rfl, hb1⟩
  go_wp2_with fail
  go_ret
  exact ⟨rfl, hb.trans (hb1.mono hb.size)⟩
set_option maxRecDepth 100000 in
set_option maxHeartbeats 1600000 in
theorem gr_index (b : Nat) (n : Nd) (a : Option Addr) (cap : Nat) (l : List Nd) (w : World) (hl : l.length ≤ 1000000) (ha : RowsAt ndLay w a l) (hv : VarAt w b [.int .i64 n.cnt, .int .i64 n.who, .bool n.dir, .int .i64 n.pc, .int .i64 n.pw, .string n.name, .string n.man]) :
    Calls Tryd.prog 54 #[.slice a l.length cap, .func (.func 70) #[] #[.pointer (some ⟨b, 0, none⟩)]] w fun e w' => e = .returned (.int .i64 (whereG (ltNd n) l)) ∧ Below w.heap.size w w' := by
  have HA := Lib.hid ha
  have HF := Lib.hid fun (x : Nd) W (hv : VarAt W b [.int .i64 n.cnt, .int .i64 n.who, .bool n.dir, .int .i64 n.pc, .int .i64 n.pw, .string n.name, .string n.man]) => gr_clo b n x W hv
  obtain ⟨p, hp⟩ : ∃ p, ltNd n = p := ⟨_, rfl⟩
  rw [hp] at HF ⊢
  obtain ⟨r, hr⟩ : ∃ r, whereG p l = r := ⟨_, rfl⟩
  rw [hr]
  have Hr := Lib.hid hr
  clear ha hr hp
  go_enter Tryd.func54, Tryd.ntmps54
  go_wp2_with fail
  go_loopw [5, 8] (fun _ i wr => ∃ k : Nat, k ≤ l.length ∧ i = .int .i64 k ∧ Hid (∀ j y, j < k → l[j]? = some y → p y = false) ∧ Below w.heap.size w wr) (fun _ i _ => l.length - (RowKit.intOf i).toNat)
  case atStart => exact ⟨0, Nat.zero_le _, rfl, Lib.hid (fun j _ hj => absurd hj (Nat.not_lt_zero _)), Below.refl _ _⟩
  case round =>
    obtain ⟨k, hk, rfl, Hk, hb⟩ := hrel
    by_cases hlt : k < l.length
    · obtain ⟨y, hy⟩ := at_some hlt
      obtain ⟨b1, off, rfl, hbl, c0, c1, c2, c3, c4, c5, c6⟩ := nd_at (HA.out.keeps hb) hy
      have Hy := Lib.hid hy
      have HFy := Lib.hid (HF.out y wr (hv.keeps hb hv.1))
      clear hy
      obtain ⟨v, hv'⟩ : ∃ v, p y = v := ⟨_, rfl⟩
      rw [hv'] at HFy
      have Hv := Lib.hid hv'
      clear hv'
      cases v with
      | true =>
        have Hq := Lib.hid (where_hitG Hy.out Hv.out Hk.out)
        go_wp2_with fail
        refine HFy.out.mono ?_
        rintro e w1 ⟨rfl, hb1⟩
        have hb2 := hb.trans (hb1.mono hb.size)
        go_wp2_with fail
        go_ret
        exact ⟨ret_intG (by rw [← Hr.out, Hq.out]), hb2⟩
      | false =>
        go_wp2_with fail
        refine HFy.out.mono ?_
        rintro e w1 ⟨rfl, hb1⟩
        have hb2 := hb.trans (hb1.mono hb.size)
        go_wp2_with fail
        go_roundw
        case rel =>
          refine ⟨k + 1, by omega, by go_num, Lib.hid (fun j z hj hz => ?_), hb2⟩
          by_cases e : j = k
          · subst e
            rw [Hy.out] at hz
            cases hz
            exact Hv.out
          · exact Hk.out j z (by omega) hz
        case measure => simp [RowKit.intOf]; omega
    · have Hq := Lib.hid (where_missG (l := l) (p := p) (fun j z hj hz => Hk.out j z (by omega) hz))
      go_wp2_with fail
      go_ret
      exact ⟨ret_intG (by rw [← Hr.out, Hq.out]), hb⟩
set_option maxRecDepth 100000 in
set_option maxHeartbeats 1600000 in
theorem tplace_any (a : Option Addr) (cap : Nat) (l : List Nd) (c q : Int) (w : World) (hl : l.length ≤ 1000000) (ha : RowsAt ndLay w a l) :
    Calls Tryd.prog 39 #[.slice a l.length cap, .agg #[.int .i64 c, .int .i64 q]] w fun e w' => e = .returned (.int .i64 (whereG (isNd c q) l)) ∧ Below w.heap.size w w' := by
  have hb := (Below.refl w.heap.size w).alloc (Nat.le_refl _) (.cells #[.int .i64 c, .int .i64 q] 32)
  have HI := Lib.hid (pl_index w.heap.size c q a cap l _ hl (ha.keeps hb) (VarAt.new w #[.int .i64 c, .int .i64 q] 32))
  have Hb := Lib.hid hb
  generalize whereG (isNd c q) l = r at *
  clear ha hb
  go_enter Tryd.func39, Tryd.ntmps39
  go_wp2_with fail
  refine HI.out.mono ?_
  rintro e w1 ⟨rfl, hb1⟩
  go_wp2_with fail
  go_ret
  exact ⟨rfl, Hb.out.trans (hb1.mono Hb.out.size)⟩
set_option maxRecDepth 100000 in
set_option maxHeartbeats 1600000 in
theorem tfind_any (a : Option Addr) (cap : Nat) (l : List Nd) (c q : Int) (w : World) (hl : l.length ≤ 1000000) (ha : RowsAt ndLay w a l) :
    Calls Tryd.prog 20 #[.slice a l.length cap, .agg #[.int .i64 c, .int .i64 q]] w fun e w' => e = .returned (.tuple #[(findT l c q).1.agg, .bool (findT l c q).2]) ∧ Below w.heap.size w w' := by
  have hb1 := (Below.refl w.heap.size w).alloc (Nat.le_refl _) (.cells #[.int .i64 c, .int .i64 q] 32)
  have hS0 := VarAt.new w #[.int .i64 c, .int .i64 q] 32
  have hR0 := VarAt.new (w.alloc (.cells #[.int .i64 c, .int .i64 q] 32)) #[.int .i64 0, .int .i64 0, .bool false, .int .i64 0, .int .i64 0, .string ⟨#[]⟩, .string ⟨#[]⟩] 46
  have hbz := hb1.alloc hb1.size (.cells #[.int .i64 0, .int .i64 0, .bool false, .int .i64 0, .int .i64 0, .string ⟨#[]⟩, .string ⟨#[]⟩] 46)
  have hS := hS0.keeps ((Below.refl _ _).alloc (Nat.le_refl _) (.cells #[.int .i64 0, .int .i64 0, .bool false, .int .i64 0, .int .i64 0, .string ⟨#[]⟩, .string ⟨#[]⟩] 46)) hS0.1
  obtain ⟨rb, hrb⟩ : ∃ rb, rb = w.heap.size + 1 := ⟨_, rfl⟩
  obtain ⟨sb, hsb⟩ : ∃ sb, sb = w.heap.size := ⟨_, rfl⟩
  rw [show (w.alloc (.cells #[.int .i64 c, .int .i64 q] 32)).heap.size = rb by rw [hrb]; simp] at hR0
  rw [← hsb] at hS
  have s0 := hS.2.2 0 _ rfl
  have s1 := hS.2.2 1 _ rfl
  have Hrb := Lib.hid hrb
  have Hsb := Lib.hid hsb
  have HI := Lib.hid (tplace_any a cap l c q _ hl (ha.keeps hbz))
  have HC := Lib.hid (where_casesG (z := nd0) (l := l) (p := isNd c q))
  have HA := Lib.hid fun W (h : Below w.heap.size w W) => ha.keeps h
  obtain ⟨r, hr⟩ : ∃ r, findT l c q = r := ⟨_, rfl⟩
  have hr' : findG nd0 (isNd c q) l = r := hr
  obtain ⟨q1, hq1⟩ : ∃ q1, whereG (isNd c q) l = q1 := ⟨_, rfl⟩
  rw [hr'] at HC
  rw [hr]
  rw [hq1] at HC HI
  clear hr hr' hq1 ha hrb hsb hb1 hS0 hS
  obtain ⟨rx, rok⟩ := r
  dsimp only
  unfold Nd.agg
  go_enter Tryd.func20, Tryd.ntmps20
  go_upto_region 1 with fail
  rw [← Hrb.out, ← Hsb.out]
  generalize (w.alloc (.cells #[.int .i64 c, .int .i64 q] 32)).alloc (.cells #[.int .i64 0, .int .i64 0, .bool false, .int .i64 0, .int .i64 0, .string ⟨#[]⟩, .string ⟨#[]⟩] 46) = W1 at *
  go_wp2_with fail
  refine HI.out.mono ?_
  rintro e w2 ⟨rfl, hb2⟩
  have hbw := hbz.trans (hb2.mono hbz.size)
  have hR2 := hR0.keeps hb2 hR0.1
  have ff := hR2.2.1
  have f0 := hR2.2.2 0 _ rfl
  have f1 := hR2.2.2 1 _ rfl
  have f2 := hR2.2.2 2 _ rfl
  have f3 := hR2.2.2 3 _ rfl
  have f4 := hR2.2.2 4 _ rfl
  have f5 := hR2.2.2 5 _ rfl
  have f6 := hR2.2.2 6 _ rfl
  clear hR0 HI hb2 s0 s1
  rcases HC.out with ⟨k, y, rfl, hy, hf, _⟩ | ⟨rfl, hf, _⟩
  · obtain ⟨rfl, rfl⟩ := Prod.mk.inj hf
    have hkl := (List.getElem?_eq_some_iff.1 hy).1
    obtain ⟨b1, off, rfl, hbl, c0, c1, c2, c3, c4, c5, c6⟩ := nd_at (HA.out w2 hbw) hy
    have hk0 : (0 : Int) ≤ (k : Int) := by omega
    have hk1 : (k : Int) < (l.length : Int) := by omega
    clear hy hf HC
    go_wp2_with fail
    have hR5 := hR2.put [.int .i64 rx.cnt, .int .i64 rx.who, .bool rx.dir, .int .i64 rx.pc, .int .i64 rx.pw, .string rx.name, .string rx.man] rfl
    have hB5 := belowPut (b := rb) hbw [.int .i64 rx.cnt, .int .i64 rx.who, .bool rx.dir, .int .i64 rx.pc, .int .i64 rx.pw, .string rx.name, .string rx.man] 0 (by have := Hrb.out; omega)
    simp only [putRow, Nat.zero_add, Nat.reduceAdd] at hR5 hB5
    have e0 := hR5.2.2 0 _ rfl
    have e1 := hR5.2.2 1 _ rfl
    have e2 := hR5.2.2 2 _ rfl
    have e3 := hR5.2.2 3 _ rfl
    have e4 := hR5.2.2 4 _ rfl
    have e5 := hR5.2.2 5 _ rfl
    have e6 := hR5.2.2 6 _ rfl
    refine bodyPost_ret (v := .tuple #[.agg #[.int .i64 rx.cnt, .int .i64 rx.who, .bool rx.dir, .int .i64 rx.pc, .int .i64 rx.pw, .string rx.name, .string rx.man], .bool true]) (by simp [results, Tryd.results20, go_sem, e0, e1, e2, e3, e4, e5, e6]) rfl ⟨rfl, hB5⟩
  · obtain ⟨rfl, rfl⟩ := Prod.mk.inj hf
    clear hf HC
    dsimp only [nd0]
    go_wp2_with fail
    have hR5 := hR2.put [.int .i64 0, .int .i64 0, .bool false, .int .i64 0, .int .i64 0, .string ⟨#[]⟩, .string ⟨#[]⟩] rfl
    have hB5 := belowPut (b := rb) hbw [.int .i64 0, .int .i64 0, .bool false, .int .i64 0, .int .i64 0, .string ⟨#[]⟩, .string ⟨#[]⟩] 0 (by have := Hrb.out; omega)
    simp only [putRow, Nat.zero_add, Nat.reduceAdd] at hR5 hB5
    have e0 := hR5.2.2 0 _ rfl
    have e1 := hR5.2.2 1 _ rfl
    have e2 := hR5.2.2 2 _ rfl
    have e3 := hR5.2.2 3 _ rfl
    have e4 := hR5.2.2 4 _ rfl
    have e5 := hR5.2.2 5 _ rfl
    have e6 := hR5.2.2 6 _ rfl
    refine bodyPost_ret (v := .tuple #[.agg #[.int .i64 0, .int .i64 0, .bool false, .int .i64 0, .int .i64 0, .string ⟨#[]⟩, .string ⟨#[]⟩], .bool false]) (by simp [results, Tryd.results20, go_sem, e0, e1, e2, e3, e4, e5, e6]) rfl ⟨rfl, hB5⟩
set_option maxRecDepth 100000 in
set_option maxHeartbeats 1600000 in
theorem trash_any (w : World) : Calls Tryd.prog 50 #[] w fun e w' => e = .returned (.agg #[.int .i64 0, .int .i64 1]) ∧ Below w.heap.size w w' := by
  have hb := (Below.refl w.heap.size w).alloc (Nat.le_refl _) (.cells #[.int .i64 0, .int .i64 1] 32)
  have hV := VarAt.new w #[.int .i64 0, .int .i64 1] 32
  have e0 := hV.2.2 0 _ rfl
  have e1 := hV.2.2 1 _ rfl
  go_enter Tryd.func50, Tryd.ntmps50
  go_wp2_with fail
  refine bodyPost_ret (v := .agg #[.int .i64 0, .int .i64 1]) (by simp [results, Tryd.results50, go_sem, e0, e1]) rfl ⟨rfl, hb⟩
set_option maxRecDepth 100000 in
set_option maxHeartbeats 1600000 in
theorem takes_any (a : Option Addr) (cap : Nat) (l : List Nd) (c q : Int) (w : World) (hl : l.length ≤ 1000000) (ha : RowsAt ndLay w a l) :
    Calls Tryd.prog 49 #[.slice a l.length cap, .agg #[.int .i64 c, .int .i64 q]] w fun e w' => e = .returned (.bool (takesT l c q)) ∧ Below w.heap.size w w' := by
  have hb := (Below.refl w.heap.size w).alloc (Nat.le_refl _) (.cells #[.int .i64 c, .int .i64 q] 32)
  have hS := VarAt.new w #[.int .i64 c, .int .i64 q] 32
  have HI := Lib.hid (tfind_any a cap l c q _ hl (ha.keeps hb))
  have HT := Lib.hid (show takesT l c q = (decide (c = 0 ∧ q = 0) || ((findT l c q).2 && (findT l c q).1.dir)) from rfl)
  generalize takesT l c q = r at *
  have heq := eqlSt c q 0 0
  obtain ⟨fx, hfx⟩ : ∃ fx, findT l c q = fx := ⟨_, rfl⟩
  rw [hfx] at HI HT
  obtain ⟨nx, nok⟩ := fx
  dsimp only at HI HT
  unfold Nd.agg at HI
  have s0 := hS.2.2 0 _ rfl
  have s1 := hS.2.2 1 _ rfl
  have Hb := Lib.hid hb
  obtain ⟨z, hz⟩ : ∃ z, decide (c = 0 ∧ q = 0) = z := ⟨_, rfl⟩
  rw [hz] at heq HT
  have Hz := Lib.hid hz
  clear ha hb hfx hS hz
  cases z with
  | true =>
    go_enter Tryd.func49, Tryd.ntmps49
    go_wp2_with fail
    go_ret
    exact ⟨ret_boolG (by rw [HT.out]; rfl), Hb.out⟩
  | false =>
    go_enter Tryd.func49, Tryd.ntmps49
    go_wp2_with fail
    refine HI.out.mono ?_
    rintro e w1 ⟨rfl, hb1⟩
    have hbw := Hb.out.trans (hb1.mono Hb.out.size)
    have hbw2 := hbw.alloc hbw.size (.cells #[.int .i64 nx.cnt, .int .i64 nx.who, .bool nx.dir, .int .i64 nx.pc, .int .i64 nx.pw, .string nx.name, .string nx.man] 46)
    cases nok with
    | true =>
      go_wp2_with fail
      go_ret
      exact ⟨ret_boolG (by rw [HT.out]; simp), hbw2⟩
    | false =>
      go_wp2_with fail
      go_ret
      exact ⟨ret_boolG (by rw [HT.out]; simp), hbw2⟩
end Go.Proofs.YtfbdbjookkogjaaDoor

namespace Go.Proofs.YtfbdbjookkogjaaDoor
open Go Go.RowKit Go.Lib

theorem rowsN_var {W : World} {b : Nat} {x : Nd} (h : VarAt W b x.cells) : RowsAt ndLay W (some ⟨b, 0, none⟩) [x] := by
  intro j y hy
  match j, hy with
  | 0, hy =>
    cases hy
    exact ⟨b, 0, rfl, h.1, fun f v hv => by simpa using h.2.2 f v hv⟩

set_option maxRecDepth 100000 in
theorem cloneN_any (a : Option Addr) (cap : Nat) (l : List Nd) (w : World) (hl : l.length ≤ 10000) (hnil : a = none → cap = 0) (ha : RowsAt ndLay w a l) :
    Calls Tryd.prog 53 #[.slice a l.length cap] w fun e w' => ∃ v, e = .returned v ∧ OwnRows ndLay w' w.heap.size 46 v l ∧ Below w.heap.size w w' := by
  obtain ⟨i0, hi, hz0, hz1, hz2⟩ := info_parts ndInfo
  have Hi := Lib.hid hi
  have Hz0 := Lib.hid hz0
  have Hz1 := Lib.hid hz1
  have Hz2 := Lib.hid hz2
  clear hi hz0 hz1 hz2
  cases a with
  | none =>
    obtain rfl : l = [] := by
      cases l with
      | nil => rfl
      | cons y l =>
        obtain ⟨b, off, e, _⟩ := ha 0 y rfl
        cases e
    obtain rfl := hnil rfl
    have hq : ∀ W, (binOp .eql 22 (.slice none 0 0) (.slice none 0 0)).run Tryd.prog W = .ok (.bool true) W := fun W => Lib.run_eql_slice_nil W _ _ _ _ _ _ _ Tryd.underlying22
    go_enter Tryd.func53, Tryd.ntmps53
    go_wp2_with fail
    go_ret
    exact ⟨_, rfl, OwnRows.nil _ _ _ _, Below.refl _ _⟩
  | some ad =>
    have hb0 := (Below.refl w.heap.size w).alloc (Nat.le_refl _) (.cells #[] 46)
    have ha1 := ha.keeps hb0
    have ho := OwnRows.lit w ndLay w.heap.size w.heap.size 46 #[] 0 [] rfl (Nat.le_refl _) (Nat.zero_le _) rfl rfl
    clear ha
    have hq : ∀ W, (binOp .eql 22 (.slice (some ad) l.length cap) (.slice none 0 0)).run Tryd.prog W = .ok (.bool false) W := fun W => Lib.run_eql_slice_nil W _ _ _ _ _ _ _ Tryd.underlying22
    go_enter Tryd.func53, Tryd.ntmps53
    go_wp2_with (at_builtin; refine wpList_append_from _ rfl _ _ 22 rfl ndLay w.heap.size 46 i0 (.agg #[.int .i64 0, .int .i64 0, .bool false, .int .i64 0, .int .i64 0, .string ⟨#[]⟩, .string ⟨#[]⟩]) 72 Tryd.underlying22 Hi.out Hz0.out Hz1.out Hz2.out rfl (by decide) _ [] rfl ho (some ad) cap l.length l rfl rfl ha1 (fun h => by cases h) (by unfold maxLen; simp; omega) (by simp; omega) (by simp) ?_)
    intro v w2 ho2 hg _
    have hb2 := hb0.grown hg (by simp) (fun j ej => (ho.lt ej).1)
    clear hg ho
    go_wp2_with fail
    go_ret
    exact ⟨_, rfl, by simpa using ho2, hb2⟩

set_option maxRecDepth 100000 in
theorem insertEndN_any (v : Value) (l : List Nd) (x : Nd) (vb B : Nat) (w : World) (hl : l.length ≤ 10000) (hv : OwnRows ndLay w B 46 v l) (hBw : B ≤ w.heap.size) (hx : VarAt w vb x.cells) :
    Calls Tryd.prog 71 #[v, .int .i64 l.length, .slice (some ⟨vb, 0, none⟩) 1 1] w fun e w' => ∃ v', e = .returned v' ∧ OwnRows ndLay w' B 46 v' (l ++ [x]) ∧ Below B w w' := by
  obtain ⟨i0, hi, hz0, hz1, hz2⟩ := info_parts ndInfo
  have Hi := Lib.hid hi
  have Hz0 := Lib.hid hz0
  have Hz1 := Lib.hid hz1
  have Hz2 := Lib.hid hz2
  clear hi hz0 hz1 hz2
  have hra := rowsN_var hx
  obtain ⟨a, cap, rfl, _, hlc, hnil, hcm⟩ := hv.read_nil
  have hsl := slice_low (P := Tryd.prog) Tryd.underlying22 (fun w => Tryd.sizeOf46 w) a l.length cap l.length (Nat.le_refl _)
  clear hx
  go_enter Tryd.func71, Tryd.ntmps71
  go_wp2_with (at_builtin; refine wpList_append_from _ rfl _ _ 22 rfl ndLay B 46 i0 (.agg #[.int .i64 0, .int .i64 0, .bool false, .int .i64 0, .int .i64 0, .string ⟨#[]⟩, .string ⟨#[]⟩]) 72 Tryd.underlying22 Hi.out Hz0.out Hz1.out Hz2.out rfl (by decide) _ l rfl hv (some ⟨vb, 0, none⟩) 1 1 [x] rfl rfl hra (fun h => by cases h) (by unfold maxLen; simp; omega) (by simp; omega) hBw ?_)
  intro v w2 ho2 hg _
  have hb2 := (Below.refl B w).grown hg hBw (fun j ej => (hv.lt ej).1)
  clear hg hv
  go_wp2_with fail
  go_ret
  exact ⟨_, rfl, ho2, hb2⟩

theorem shape_cellN {W : World} {b i : Nat} {v : Value} (h : W.cell? ⟨b, i, none⟩ = some v) : ∃ t k, W.shape? b = some (t, k) := by
  unfold World.cell? at h
  unfold World.shape?
  split at h
  · rename_i c e f heq
    dsimp only at heq
    rw [heq]
    exact ⟨_, _, rfl⟩
  · cases h
end Go.Proofs.YtfbdbjookkogjaaDoor

namespace Go.Proofs.YtfbdbjookkogjaaDoor
open Go Go.RowKit Go.Lib

theorem ndSz : (Tryd.prog.info? 46).map (·.size) = some 7 := by kernel_rfl
theorem insN_flat (l : List Nd) (x : Nd) (k : Nat) : flat ndLay (l.take k ++ x :: l.drop k) = flat ndLay (l.take k) ++ x.cells ++ flat ndLay (l.drop k) := by
  rw [show l.take k ++ x :: l.drop k = (l.take k ++ [x]) ++ l.drop k by simp, flat_append, flat_snoc]
  rfl
theorem flatN_take (l : List Nd) (k : Nat) (hk : k ≤ l.length) : (flat ndLay l).take (k * 7) = flat ndLay (l.take k) := by
  conv => lhs; rw [← List.take_append_drop k l, flat_append]
  rw [List.take_left' (by rw [flat_length, List.length_take, Nat.min_eq_left hk]; rfl)]
theorem flatN_drop (l : List Nd) (k : Nat) (hk : k ≤ l.length) : (flat ndLay l).drop (k * 7) = flat ndLay (l.drop k) := by
  conv => lhs; rw [← List.take_append_drop k l, flat_append]
  rw [List.drop_left' (by rw [flat_length, List.length_take, Nat.min_eq_left hk]; rfl)]

set_option maxRecDepth 100000 in
set_option maxHeartbeats 6400000 in
/-- slices.Insert in the midst of a slice that is the call's own. -/
theorem insertMidN_any (v : Value) (l : List Nd) (x : Nd) (vb B k : Nat) (w : World) (hl : l.length ≤ 10000) (hk : k < l.length) (hv : OwnRows ndLay w B 46 v l) (hBw : B ≤ w.heap.size) (hx : VarAt w vb x.cells) (hvb : v.ownBlock ≠ some vb) (hsh : ∃ tA kA, w.shape? vb = some (tA, kA)) :
    Calls Tryd.prog 71 #[v, .int .i64 k, .slice (some ⟨vb, 0, none⟩) 1 1] w fun e w' => ∃ v', e = .returned v' ∧ OwnRows ndLay w' B 46 v' (l.take k ++ x :: l.drop k) ∧ Below B w w' := by
  obtain ⟨hfl, hv2⟩ := hv
  rcases hv2 with ⟨rfl, h0⟩ | ⟨g, c, cur, rfl, hgB, hgg, hnc, hcm, hcs, htk⟩
  · omega
  have hgv : g ≠ vb := fun e => hvb (by rw [e]; rfl)
  have hglt : g < w.heap.size := (Array.getElem?_eq_some_iff.1 hgg).1
  have hsz : ndLay.sz = 7 := rfl
  rw [hsz] at hcs htk hfl
  have hxl : x.cells.length = 7 := rfl
  have hxa : ∀ j u, x.cells[j]? = some u → w.cell? ((⟨vb, 0, none⟩ : Addr).add j) = some u := fun j u hj => by
    rw [Addr.add_lit, Nat.zero_add]
    exact hx.2.2 j u hj
  have hFk : cur.toList.take (k * 7) = flat ndLay (l.take k) := by
    rw [← flatN_take l k (by omega), ← htk, List.take_take, Nat.min_eq_left (by omega)]
  have hD : ∀ j u, (flat ndLay (l.drop k))[j]? = some u → w.cell? ⟨g, k * 7 + j, none⟩ = some u := by
    intro j u hj
    rw [← flatN_drop l k (by omega), ← htk, List.getElem?_drop, List.getElem?_take] at hj
    split at hj
    · rw [Lib.cell_of_heap hgg]; simpa using hj
    · cases hj
  have hDl : (flat ndLay (l.drop k)).length = (l.length - k) * 7 := by rw [flat_length, List.length_drop]; rfl
  have hFl : (flat ndLay (l.take k)).length = k * 7 := by rw [flat_length, List.length_take, Nat.min_eq_left (by omega)]; rfl
  have Hins := Lib.hid (insN_flat l x k)
  have h1x : ∀ v ∈ x.cells, v.oneCell' = true := ndLay.one x
  have h1d : ∀ v ∈ flat ndLay (l.drop k), v.oneCell' = true := flat_one ndLay _
  have e1 : ((k : Int) == (l.length : Int)) = false := by rw [beq_eq_false_iff_ne]; omega
  have hlow : ∀ W, (Instr.slice 22 (.slice (some ⟨g, 0, none⟩) l.length c) (some (.int .i64 k)) none none).run Tryd.prog W = .ok (.slice (some ⟨g, k * 7, none⟩) (l.length - k) (c - k)) W := fun W => by
    have := slice_low (P := Tryd.prog) Tryd.underlying22 Tryd.sizeOf46 (some ⟨g, 0, none⟩) l.length c k (by omega) W
    rwa [lowA_some (by omega)] at this
  have hlow2 : ∀ W, (Instr.slice 22 (.slice (some ⟨g, 0, none⟩) (l.length + 1) c) (some (.int .i64 k)) none none).run Tryd.prog W = .ok (.slice (some ⟨g, k * 7, none⟩) (l.length + 1 - k) (c - k)) W ∨ c < l.length + 1 := fun W => by
    by_cases hc : c < l.length + 1
    · exact .inr hc
    · have := slice_low (P := Tryd.prog) Tryd.underlying22 Tryd.sizeOf46 (some ⟨g, 0, none⟩) (l.length + 1) c k (by omega) W
      rw [lowA_some (by omega)] at this
      exact .inl this
  obtain ⟨tA, kA, hsa⟩ := hsh
  have hxt : cur.toList.length = c * 7 := by rw [Array.length_toList]; exact hcs
  by_cases hroom : l.length + 1 ≤ c
  · have hlow3 : ∀ W, (Instr.slice 22 (.slice (some ⟨g, 0, none⟩) (l.length + 1) c) (some (.int .i64 k)) none none).run Tryd.prog W = .ok (.slice (some ⟨g, k * 7, none⟩) (l.length + 1 - k) (c - k)) W := fun W => (hlow2 W).resolve_right (by omega)
    have hlow4 : ∀ W, (Instr.slice 22 (.slice (some ⟨g, 0, none⟩) (l.length + 1) c) (some (.int .i64 ((k : Int) + 1))) none none).run Tryd.prog W = .ok (.slice (some ⟨g, (k + 1) * 7, none⟩) (l.length + 1 - (k + 1)) (c - (k + 1))) W := fun W => by
      have := slice_low (P := Tryd.prog) Tryd.underlying22 Tryd.sizeOf46 (some ⟨g, 0, none⟩) (l.length + 1) c (k + 1) (by omega) W
      rw [lowA_some (by omega)] at this
      exact_mod_cast this
    have hhigh : ∀ W, (Instr.slice 22 (.slice (some ⟨g, 0, none⟩) l.length c) none (some (.int .i64 ((l.length : Int) + 1))) none).run Tryd.prog W = .ok (.slice (some ⟨g, 0, none⟩) (l.length + 1) c) W := fun W => by
      have := slice_high (P := Tryd.prog) Tryd.underlying22 Tryd.sizeOf46 (some ⟨g, 0, none⟩) l.length c (l.length + 1) (by omega) W
      exact_mod_cast this
    have hsb : w.shape? g = some (46, cur.size) := by simp [World.shape?, hgg]
    have hov : ∀ o lb cb, (callFunc 84 #[.slice (some ⟨vb, 0, none⟩) 1 1, .slice (some ⟨g, o, none⟩) lb cb]).run Tryd.prog w = .ok (.value (.bool false)) w := fun o lb cb => by
      rw [run_callFunc_extern Tryd.func84 (by kernel_rfl) (by kernel_rfl) (by kernel_rfl) (e := Extern.SlicesOverlaps.overlaps #[22, 22] #[4]) (by kernel_rfl),
        Lib.run_overlaps_apart w 22 4 46 Tryd.underlying22 7 Tryd.sizeOf46 ⟨vb, 0, none⟩ ⟨g, o, none⟩ 1 1 lb cb (fun e => hgv e.symm) tA 46 kA cur.size hsa hsb (by omega) (hx.2.1 0) (hx.2.1 kA)]
      rfl
    have hgd : w.drew.heap[g]? = some (.cells cur 46 (0, 0)) := hgg
    have hcp1 : ∀ ty, (Builtin.copy_ #[22, 22] ty #[.slice (some ⟨g, (k + 1) * 7, none⟩) (l.length + 1 - (k + 1)) (c - (k + 1)), .slice (some ⟨g, k * 7, none⟩) (l.length + 1 - k) (c - k)]).run Tryd.prog w.drew = .ok (goInt ((l.length - k : Nat) : Int)) (w.drew.setRow g (cur.toList.take ((k + 1) * 7) ++ flat ndLay (l.drop k) ++ cur.toList.drop ((k + 1) * 7 + (flat ndLay (l.drop k)).length)).toArray) := fun ty =>
      run_copy_rows (P := Tryd.prog) w.drew 22 22 ty 46 g ((k + 1) * 7) (l.length + 1 - (k + 1)) (c - (k + 1)) ⟨g, k * 7, none⟩ (l.length + 1 - k) (c - k) cur 46 (flat ndLay (l.drop k)) 7 (l.length - k) Tryd.underlying22 ndSz hgd (by simp only [Nat.min_def]; split <;> omega) hDl
        (fun j u hj => by rw [Addr.add_lit]; exact hD j u hj) (by rw [hDl, hcs]; omega) h1d
    obtain ⟨arr1, ha1⟩ : ∃ arr1, arr1 = cur.toList.take ((k + 1) * 7) ++ flat ndLay (l.drop k) ++ cur.toList.drop ((k + 1) * 7 + (flat ndLay (l.drop k)).length) := ⟨_, rfl⟩
    rw [← ha1] at hcp1
    have hl1 : arr1.length = c * 7 := by
      rw [ha1]
      simp only [List.length_append, List.length_take, List.length_drop, hDl, hxt]
      omega
    have hcp2 : ∀ ty, (Builtin.copy_ #[22, 22] ty #[.slice (some ⟨g, k * 7, none⟩) (l.length + 1 - k) (c - k), .slice (some ⟨vb, 0, none⟩) 1 1]).run Tryd.prog (w.drew.setRow g arr1.toArray) = .ok (goInt 1) ((w.drew.setRow g arr1.toArray).setRow g (arr1.take (k * 7) ++ x.cells ++ arr1.drop (k * 7 + x.cells.length)).toArray) := fun ty => by
      have := run_copy_rows (P := Tryd.prog) (w.drew.setRow g arr1.toArray) 22 22 ty 46 g (k * 7) (l.length + 1 - k) (c - k) ⟨vb, 0, none⟩ 1 1 arr1.toArray 46 x.cells 7 1 Tryd.underlying22 ndSz (setRow_heap _ g _ _ _ _ hgd) (by simp only [Nat.min_def]; split <;> omega) hxl
        (fun j u hj => by rw [cell_setRow_other _ _ _ _ (by rw [Addr.add_lit]; exact fun e => hgv e.symm)]; exact hxa j u hj) (by rw [hxl]; simp [hl1]; omega) h1x
      simpa using this
    obtain ⟨arr2, ha2⟩ : ∃ arr2, arr2 = arr1.take (k * 7) ++ x.cells ++ arr1.drop (k * 7 + x.cells.length) := ⟨_, rfl⟩
    rw [← ha2] at hcp2
    have hl2 : arr2.length = c * 7 := by
      rw [ha2]
      simp only [List.length_append, List.length_take, List.length_drop, hxl, hl1]
      omega
    have hfin : arr2.take ((l.length + 1) * 7) = flat ndLay (l.take k) ++ x.cells ++ flat ndLay (l.drop k) := by
      rw [ha2, ha1]
      exact ins_shift hFk hxl hDl (by omega) hFl (by rw [hxt]; omega)
    have Hres := Lib.hid (show OwnRows ndLay ((w.drew.setRow g arr1.toArray).setRow g arr2.toArray) B 46 (.slice (some ⟨g, 0, none⟩) (l.length + 1) c) (l.take k ++ x :: l.drop k) from by
      refine ⟨flat_length _ _, .inr ⟨g, c, arr2.toArray, ?_, hgB, setRow_heap _ g _ _ _ _ (setRow_heap _ g _ _ _ _ hgd), ?_, hcm, ?_, ?_⟩⟩
      · congr 1
        simp; omega
      · simp; omega
      · simp [hl2, hsz]
      · rw [insN_flat, ← hfin, hsz]
        simp only [List.length_append, List.length_take, List.length_cons, List.length_drop]
        congr 2
        omega)
    have Hbel := Lib.hid (show Below B w ((w.drew.setRow g arr1.toArray).setRow g arr2.toArray) from below_setRow (below_setRow (Below.refl B w).drew hgB _) hgB _)
    have hnc2 : ¬ ((c : Int) < (l.length : Int) + 1) := by omega
    have hw1 : IntKind.i64.wrap ((k : Int) + 1) = (k : Int) + 1 := by rw [IntKind.wrap_i64]; omega
    have hb1 : (0 : Int) ≤ (k : Int) + 1 := by omega
    have htn : ((k : Int) + 1).toNat = k + 1 := by omega
    have hb2 : ¬ (c = k + 1) := by omega
    have hb3 : (k : Int) ≤ (l.length : Int) + 1 := by omega
    have hb4 : ¬ (c = k) := by omega
    have hb5 : k ≤ l.length := by omega
    have hb6 : (k : Int) + 1 ≤ (l.length : Int) + 1 := by omega
    clear hlow2 ha1 ha2 hl1 hl2 hfin hFk hFl hD hDl hgd hsa hsb h1x h1d hxa hxl hcs htk hfl hgg hxt Hins hx
    go_enter Tryd.func71, Tryd.ntmps71
    go_wp2_with (simp only [hov])
    go_region_law (refine step_copy_run rfl _ _ 22 22 rfl _ _ (by simp [Act.eval, Act.put]) (by simp [Act.eval, Act.put]) (hcp1 _) ?_)
    go_wp2_with (at_builtin; refine wpList_copy_run _ rfl _ _ 22 22 rfl _ _ rfl rfl (hcp2 _) ?_)
    go_ret
    exact ⟨_, rfl, Hres.out, Hbel.out⟩
  · have hkl : k ≤ c := by omega
    obtain ⟨k', hk'⟩ : ∃ k', k' = l.length + 1 - k := ⟨_, rfl⟩
    have hkk : k + k' = l.length + 1 := by omega
    obtain ⟨G, hG⟩ : ∃ G, G = grownCap w (k + k') c 46 := ⟨_, rfl⟩
    have hG1 : l.length + 1 ≤ G := by rw [hG, ← hkk]; exact grownCap_ge _ _ _ _
    have hG2 : G ≤ maxLen := by rw [hG]; exact grownCap_le_maxLen _ _ _ _ (by unfold maxLen; omega)
    have hgd : w.drew.heap[g]? = some (.cells cur 46 (0, 0)) := hgg
    have hhigh : ∀ W, (Instr.slice 22 (.slice (some ⟨g, 0, none⟩) l.length c) none (some (.int .i64 k)) none).run Tryd.prog W = .ok (.slice (some ⟨g, 0, none⟩) k c) W := fun W => slice_high (P := Tryd.prog) Tryd.underlying22 Tryd.sizeOf46 (some ⟨g, 0, none⟩) l.length c k (by omega) W
    obtain ⟨i0, hi, hz0, hz1, hz2⟩ := info_parts ndInfo
    obtain ⟨Z, hZ⟩ : ∃ Z, Z = (Builtin.zeroCells (Value.cells (.agg #[.int .i64 0, .int .i64 0, .bool false, .int .i64 0, .int .i64 0, .string ⟨#[]⟩, .string ⟨#[]⟩])) k' ++ Builtin.zeroCells (Value.cells (.agg #[.int .i64 0, .int .i64 0, .bool false, .int .i64 0, .int .i64 0, .string ⟨#[]⟩, .string ⟨#[]⟩])) (G - (k + k'))) := ⟨_, rfl⟩
    have hZl : Z.size = (G - k) * 7 := by
      rw [hZ, Array.size_append, size_zeroCells, size_zeroCells]
      rw [show (Value.cells (.agg #[.int .i64 0, .int .i64 0, .bool false, .int .i64 0, .int .i64 0, .string ⟨#[]⟩, .string ⟨#[]⟩])).size = 7 from rfl]
      omega
    have hap : ∀ ty, (Builtin.append_ #[22, 3] ty #[.slice (some ⟨g, 0, none⟩) k c, .int .i64 ((l.length : Int) + 1 - (k : Int))]).run Tryd.prog w = .ok (.slice (some ⟨w.heap.size, 0, none⟩) (l.length + 1) G) (w.drew.alloc (.cells ((flat ndLay (l.take k)).toArray ++ Z) 46)) := fun ty => by
      have h := Lib.run_append_grow_zeros (P := Tryd.prog) w 22 3 ty 46 i0 (.agg #[.int .i64 0, .int .i64 0, .bool false, .int .i64 0, .int .i64 0, .string ⟨#[]⟩, .string ⟨#[]⟩]) .i64 .i64 Tryd.underlying22 Tryd.underlying3 hi hz0 (some ⟨g, 0, none⟩) k c (flat ndLay (l.take k)) (by
          have := run_loadCells_list (P := Tryd.prog) w.drew ⟨g, 0, none⟩ (flat ndLay (l.take k)) (fun j u hj => by
            rw [Addr.add_lit, Nat.zero_add, Lib.cell_of_heap hgd]
            rw [← hFk, List.getElem?_take] at hj
            split at hj
            · simpa using hj
            · cases hj)
          rw [hFl] at this
          simpa [Builtin.firstCells, hz1] using this) k' (by omega) (by omega) (by omega) (by omega) (by rw [hz2]; omega) (by rw [hz2]; exact growslice_fits (by omega) (by omega))
      rw [show ((l.length : Int) + 1 - (k : Int)) = ((k' : Nat) : Int) by omega, h, ← hG, hZ, hkk, Array.append_assoc]
    obtain ⟨A, hA⟩ : ∃ A, A = (flat ndLay (l.take k)).toArray ++ Z := ⟨_, rfl⟩
    rw [← hA] at hap
    have hAs : A.size = G * 7 := by
      rw [hA, Array.size_append, hZl, List.size_toArray, hFl]
      omega
    have hAF : A.toList.take (k * 7) = flat ndLay (l.take k) := by
      rw [hA, Array.toList_append]
      rw [List.take_left' (by simpa using hFl)]
    obtain ⟨W1, hW1⟩ : ∃ W1, W1 = w.drew.alloc (.cells A 46) := ⟨_, rfl⟩
    rw [← hW1] at hap
    have hh1 : W1.heap[w.heap.size]? = some (.cells A 46 (0, 0)) := by rw [hW1]; exact heap_alloc_new w.drew _
    have hb1 : Below w.heap.size w W1 := by rw [hW1]; exact (Below.refl _ _).drew.alloc (Nat.le_refl _) _
    have hA1 : A.toList.length = G * 7 := by simpa using hAs
    have hxlt := hx.1
    obtain ⟨arr1, ha1⟩ : ∃ arr1, arr1 = A.toList.take (k * 7) ++ x.cells ++ A.toList.drop (k * 7 + x.cells.length) := ⟨_, rfl⟩
    have hl1 : arr1.length = G * 7 := by
      rw [ha1]
      simp only [List.length_append, List.length_take, List.length_drop, hxl, hA1]
      omega
    have hcp1 : ∀ ty, (Builtin.copy_ #[22, 22] ty #[.slice (some ⟨w.heap.size, k * 7, none⟩) (l.length + 1 - k) (G - k), .slice (some ⟨vb, 0, none⟩) 1 1]).run Tryd.prog W1 = .ok (goInt 1) (W1.setRow w.heap.size arr1.toArray) := fun ty => by
      have := run_copy_rows (P := Tryd.prog) W1 22 22 ty 46 w.heap.size (k * 7) (l.length + 1 - k) (G - k) ⟨vb, 0, none⟩ 1 1 A 46 x.cells 7 1 Tryd.underlying22 ndSz hh1 (by simp only [Nat.min_def]; split <;> omega) hxl
        (fun j u hj => by rw [hb1.cell (by rw [Addr.add_lit]; exact hxlt)]; exact hxa j u hj) (by rw [hxl, hAs]; omega) h1x
      rw [← ha1] at this
      simpa using this
    obtain ⟨W2, hW2⟩ : ∃ W2, W2 = W1.setRow w.heap.size arr1.toArray := ⟨_, rfl⟩
    rw [← hW2] at hcp1
    have hh2 : W2.heap[w.heap.size]? = some (.cells arr1.toArray 46 (0, 0)) := by rw [hW2]; exact setRow_heap _ _ _ _ _ _ hh1
    have hb2 : Below w.heap.size w W2 := by rw [hW2]; exact below_setRow hb1 (Nat.le_refl _) _
    obtain ⟨arr2, ha2⟩ : ∃ arr2, arr2 = arr1.take ((k + 1) * 7) ++ flat ndLay (l.drop k) ++ arr1.drop ((k + 1) * 7 + (flat ndLay (l.drop k)).length) := ⟨_, rfl⟩
    have hl2 : arr2.length = G * 7 := by
      rw [ha2]
      simp only [List.length_append, List.length_take, List.length_drop, hDl, hl1]
      omega
    have hcp2 : ∀ ty, (Builtin.copy_ #[22, 22] ty #[.slice (some ⟨w.heap.size, (k + 1) * 7, none⟩) (l.length + 1 - (k + 1)) (G - (k + 1)), .slice (some ⟨g, k * 7, none⟩) (l.length - k) (c - k)]).run Tryd.prog W2.drew = .ok (goInt ((l.length - k : Nat) : Int)) (W2.drew.setRow w.heap.size arr2.toArray) := fun ty => by
      have := run_copy_rows (P := Tryd.prog) W2.drew 22 22 ty 46 w.heap.size ((k + 1) * 7) (l.length + 1 - (k + 1)) (G - (k + 1)) ⟨g, k * 7, none⟩ (l.length - k) (c - k) arr1.toArray 46 (flat ndLay (l.drop k)) 7 (l.length - k) Tryd.underlying22 ndSz hh2 (by simp only [Nat.min_def]; split <;> omega) hDl
        (fun j u hj => by rw [Addr.add_lit]; exact (hb2.cell (p := ⟨g, k * 7 + j, none⟩) hglt).trans (hD j u hj)) (by rw [hDl, List.size_toArray, hl1]; omega) h1d
      rw [this, ha2]
    have hfin : arr2.take ((l.length + 1) * 7) = flat ndLay (l.take k) ++ x.cells ++ flat ndLay (l.drop k) := by
      rw [ha2, ha1]
      exact ins_grow hAF hxl hDl (by omega) (by rw [hA1]; omega) hFl
    have Hres := Lib.hid (show OwnRows ndLay (W2.drew.setRow w.heap.size arr2.toArray) B 46 (.slice (some ⟨w.heap.size, 0, none⟩) (l.length + 1) G) (l.take k ++ x :: l.drop k) from by
      refine ⟨flat_length _ _, .inr ⟨w.heap.size, G, arr2.toArray, ?_, hBw, setRow_heap _ _ _ _ _ _ hh2, ?_, hG2, ?_, ?_⟩⟩
      · congr 1
        simp; omega
      · simp; omega
      · simp [hl2, hsz]
      · rw [insN_flat, ← hfin, hsz]
        simp only [List.length_append, List.length_take, List.length_cons, List.length_drop]
        congr 2
        omega)
    have Hbel := Lib.hid (show Below B w (W2.drew.setRow w.heap.size arr2.toArray) from (below_setRow (hb2.drew) (Nat.le_refl _) _).mono hBw)
    have hnc2 : (c : Int) < (l.length : Int) + 1 := by omega
    have hw1 : IntKind.i64.wrap ((k : Int) + 1) = (k : Int) + 1 := by rw [IntKind.wrap_i64]; omega
    have hb0 : (0 : Int) ≤ (k : Int) + 1 := by omega
    have htn : ((k : Int) + 1).toNat = k + 1 := by omega
    have hq1 : ¬ (G = k + 1) := by omega
    have hq2 : ¬ (G = k) := by omega
    have hq3 : (k : Int) ≤ (l.length : Int) + 1 := by omega
    have hq4 : ¬ (c = k) := by omega
    have hq5 : k ≤ l.length := by omega
    have hq6 : (k : Int) + 1 ≤ (l.length : Int) + 1 := by omega
    have hq7 : k ≤ l.length + 1 := by omega
    have hlowG : ∀ W, (Instr.slice 22 (.slice (some ⟨w.heap.size, 0, none⟩) (l.length + 1) G) (some (.int .i64 k)) none none).run Tryd.prog W = .ok (.slice (some ⟨w.heap.size, k * 7, none⟩) (l.length + 1 - k) (G - k)) W := fun W => by
      have := slice_low (P := Tryd.prog) Tryd.underlying22 Tryd.sizeOf46 (some ⟨w.heap.size, 0, none⟩) (l.length + 1) G k (by omega) W
      rwa [lowA_some (by omega)] at this
    clear hlow2 ha1 ha2 hl1 hl2 hfin hFk hFl hD hDl hgd hsa h1x h1d hxa hxl hcs htk hfl hgg hxt Hins hx hA hAs hAF hW1 hW2 hh1 hh2 hb1 hb2 hA1 hZ hZl hi hz0 hz1 hz2 hG hG2 hk' hkk
    go_enter Tryd.func71, Tryd.ntmps71
    go_wp2_with (at_builtin; refine Lib.wpList_append_run _ rfl _ _ 22 3 rfl _ _ rfl rfl _ _ (hap _) ?_)
    go_wp2_with (at_builtin; refine wpList_copy_run _ rfl _ _ 22 22 rfl _ _ rfl rfl (hcp1 _) ?_)
    go_region_law (refine step_copy_run rfl _ _ 22 22 rfl _ _ (by simp [Act.eval, Act.put]) (by simp [Act.eval, Act.put]) (hcp2 _) ?_)
    go_wp2_with fail
    go_ret
    exact ⟨_, rfl, Hres.out, Hbel.out⟩
end Go.Proofs.YtfbdbjookkogjaaDoor

namespace Go.Proofs.YtfbdbjookkogjaaDoor
open Go Go.RowKit Go.Lib
theorem own_neN {W : World} {B vb : Nat} {v : Value} {l : List Nd} {x : Nd} (h : OwnRows ndLay W B 46 v l) (hx : VarAt W vb x.cells) (hk : 0 < l.length) (hm : ∀ y ∈ l, ¬ (y.cnt = x.cnt ∧ y.who = x.who)) : v.ownBlock ≠ some vb := by
  intro he
  obtain ⟨y, hy⟩ := at_some hk
  rcases h.2 with ⟨rfl, _⟩ | ⟨g, c, cur, rfl, _⟩
  · cases he
  · have hgv : g = vb := by simpa [Value.ownBlock] using he
    subst hgv
    obtain ⟨a, cap', e, hr, _⟩ := h.read
    cases e
    obtain ⟨b, off, e2, hlt, c0, c1, c2, c3, c4, c5, c6⟩ := nd_at hr hy
    cases e2
    have k0 := hx.2.2 0 _ rfl
    have k1 := hx.2.2 1 _ rfl
    simp only [Nat.zero_mul, Nat.add_zero, Nat.zero_add] at c0 c1
    rw [k0] at c0
    rw [k1] at c1
    have h0 := Option.some.inj c0
    have h1 := Option.some.inj c1
    simp only [Value.int.injEq, true_and] at h0 h1
    exact hm y (List.mem_of_getElem? hy) ⟨h0.symm, h1.symm⟩
theorem insN_ok {l : List Nd} {x : Nd} (hl : l.length ≤ 10000) (hm : ∀ y ∈ l, ¬ (y.cnt = x.cnt ∧ y.who = x.who)) (v : Value) (vb B : Nat) (W : World) (h1 : OwnRows ndLay W B 46 v l) (h2 : B ≤ W.heap.size) (h3 : VarAt W vb x.cells) :
    Calls Tryd.prog 71 #[v, .int .i64 (l.findIdx (ltNd x)), .slice (some ⟨vb, 0, none⟩) 1 1] W fun e w' => ∃ v', e = .returned v' ∧ OwnRows ndLay w' B 46 v' (grownT l x) ∧ Below B W w' := by
  by_cases hk : l.findIdx (ltNd x) < l.length
  · exact insertMidN_any v l x vb B (l.findIdx (ltNd x)) W hl hk h1 h2 h3 (own_neN h1 h3 (by omega) hm) (shape_cellN (h3.2.2 0 _ rfl))
  · have he : l.findIdx (ltNd x) = l.length := by have := List.findIdx_le_length (xs := l) (p := ltNd x); omega
    have := insertEndN_any v l x vb B W hl h1 h2 h3
    unfold grownT
    rw [he, List.take_length, List.drop_length]
    exact this
theorem box_VarN (W : World) (x : Nd) : VarAt (W.alloc (.cells #[.int .i64 x.cnt, .int .i64 x.who, .bool x.dir, .int .i64 x.pc, .int .i64 x.pw, .string x.name, .string x.man] 46)) W.heap.size x.cells := VarAt.new W #[.int .i64 x.cnt, .int .i64 x.who, .bool x.dir, .int .i64 x.pc, .int .i64 x.pw, .string x.name, .string x.man] 46
theorem var_adN (W : World) (x : Nd) : VarAt (World.drew (W.alloc (.cells #[.int .i64 x.cnt, .int .i64 x.who, .bool x.dir, .int .i64 x.pc, .int .i64 x.pw, .string x.name, .string x.man] 46))) W.heap.size x.cells := (box_VarN W x).drew 1
theorem lt_adN (W : World) (o : Obj) : W.heap.size < (World.drew (W.alloc o)).heap.size := by
  show W.heap.size < (W.alloc o).heap.size
  simp
theorem keepN {W w1 w2 : World} {b B : Nat} {x : Nd} (hX : VarAt W b x.cells) (hb : Below W.heap.size W w1) (h : Below B w1 w2) (hB : W.heap.size ≤ B) : Below W.heap.size W w2 ∧ w2.cell? ⟨b, 0, none⟩ = some (.int .i64 x.cnt) ∧ w2.cell? ⟨b, 1, none⟩ = some (.int .i64 x.who) ∧ w2.cell? ⟨b, 2, none⟩ = some (.bool x.dir) ∧ w2.cell? ⟨b, 3, none⟩ = some (.int .i64 x.pc) ∧ w2.cell? ⟨b, 4, none⟩ = some (.int .i64 x.pw) ∧ w2.cell? ⟨b, 5, none⟩ = some (.string x.name) ∧ w2.cell? ⟨b, 6, none⟩ = some (.string x.man) := by
  have hb2 := hb.trans (h.mono hB)
  have hv := hX.keeps hb2 hX.1
  exact ⟨hb2, hv.2.2 0 _ rfl, hv.2.2 1 _ rfl, hv.2.2 2 _ rfl, hv.2.2 3 _ rfl, hv.2.2 4 _ rfl, hv.2.2 5 _ rfl, hv.2.2 6 _ rfl⟩
set_option maxRecDepth 100000 in
set_option maxHeartbeats 6400000 in
theorem grown_any (a : Option Addr) (cap : Nat) (l : List Nd) (x : Nd) (w : World) (hl : l.length ≤ 10000) (hnil : a = none → cap = 0) (ha : RowsAt ndLay w a l) (hm : ∀ y ∈ l, ¬ (y.cnt = x.cnt ∧ y.who = x.who)) :
    Calls Tryd.prog 51 #[.slice a l.length cap, .agg #[.int .i64 x.cnt, .int .i64 x.who, .bool x.dir, .int .i64 x.pc, .int .i64 x.pw, .string x.name, .string x.man]] w fun e w' => ∃ a' cap', e = .returned (.slice a' (grownT l x).length cap') ∧ RowsAt ndLay w' a' (grownT l x) ∧ (a' = none → cap' = 0) ∧ Below w.heap.size w w' := by
  have hb1 := (Below.refl w.heap.size w).alloc (Nat.le_refl _) (.cells #[.int .i64 x.cnt, .int .i64 x.who, .bool x.dir, .int .i64 x.pc, .int .i64 x.pw, .string x.name, .string x.man] 46)
  have hX1 := box_VarN w x
  obtain ⟨nb, hnb⟩ : ∃ nb, nb = w.heap.size := ⟨_, rfl⟩
  obtain ⟨W1, hW1⟩ : ∃ W1, W1 = w.alloc (.cells #[.int .i64 x.cnt, .int .i64 x.who, .bool x.dir, .int .i64 x.pc, .int .i64 x.pw, .string x.name, .string x.man] 46) := ⟨_, rfl⟩
  rw [← hnb, ← hW1] at hX1
  rw [← hW1] at hb1
  have Hnb := Lib.hid hnb
  have HW1 := Lib.hid hW1
  have HG := Lib.hid (gr_index nb x a cap l W1 (by omega) (ha.keeps hb1) hX1)
  have HC := Lib.hid fun W (h : RowsAt ndLay W a l) => cloneN_any a cap l W hl hnil h
  have HIN := Lib.hid (insN_ok (x := x) hl hm)
  have hal := List.findIdx_le_length (xs := l) (p := ltNd x)
  have HO := Lib.hid (show whereG (ltNd x) l = if l.findIdx (ltNd x) < l.length then (l.findIdx (ltNd x) : Int) else -1 from rfl)
  have ha1 := ha.keeps hb1
  generalize whereG (ltNd x) l = fd at *
  generalize grownT l x = gl at *
  generalize l.findIdx (ltNd x) = k at *
  clear ha hm hnb hW1
  go_enter Tryd.func51, Tryd.ntmps51
  go_upto_region 1 with fail
  rw [← HW1.out, ← Hnb.out]
  go_wp2_with fail
  refine HG.out.mono ?_
  rintro e w4 ⟨rfl, hb4⟩
  have hX4 := hX1.keeps hb4 hX1.1
  have hc4 := hb1.trans (hb4.mono hb1.size)
  have ha4 := ha1.keeps hb4
  have hlt4 := hX4.1
  have x0 := hX4.2.2 0 _ rfl
  have x1 := hX4.2.2 1 _ rfl
  have x2 := hX4.2.2 2 _ rfl
  have x3 := hX4.2.2 3 _ rfl
  have x4 := hX4.2.2 4 _ rfl
  have x5 := hX4.2.2 5 _ rfl
  have x6 := hX4.2.2 6 _ rfl
  have hfd : (0 ≤ fd ∧ fd = k) ∨ (fd < 0 ∧ k = l.length) := by
    rw [HO.out]
    split
    · exact .inl ⟨by omega, rfl⟩
    · exact .inr ⟨by omega, by omega⟩
  clear hX1 ha1 HG hb4 HO
  rcases hfd with ⟨hp, rfl⟩ | ⟨hp, rfl⟩
  all_goals
    go_wp2_with fail
    have hB0 := Below.refl w4.heap.size w4
    have hkc : Below w4.heap.size w4 w4.drew ∧ w4.drew.cell? ⟨nb, 0, none⟩ = some (.int .i64 x.cnt) ∧ w4.drew.cell? ⟨nb, 1, none⟩ = some (.int .i64 x.who) ∧ w4.drew.cell? ⟨nb, 2, none⟩ = some (.bool x.dir) ∧ w4.drew.cell? ⟨nb, 3, none⟩ = some (.int .i64 x.pc) ∧ w4.drew.cell? ⟨nb, 4, none⟩ = some (.int .i64 x.pw) ∧ w4.drew.cell? ⟨nb, 5, none⟩ = some (.string x.name) ∧ w4.drew.cell? ⟨nb, 6, none⟩ = some (.string x.man) := ⟨hB0.drew, x0, x1, x2, x3, x4, x5, x6⟩
    go_region_held3 (fun w' => Below w4.heap.size w4 w' ∧ w'.cell? ⟨nb, 0, none⟩ = some (.int .i64 x.cnt) ∧ w'.cell? ⟨nb, 1, none⟩ = some (.int .i64 x.who) ∧ w'.cell? ⟨nb, 2, none⟩ = some (.bool x.dir) ∧ w'.cell? ⟨nb, 3, none⟩ = some (.int .i64 x.pc) ∧ w'.cell? ⟨nb, 4, none⟩ = some (.int .i64 x.pw) ∧ w'.cell? ⟨nb, 5, none⟩ = some (.string x.name) ∧ w'.cell? ⟨nb, 6, none⟩ = some (.string x.man))
      (first | exact hkc | (go_split_ands; first | exact keepN hX4 (by assumption) hbl2 (Below.size (by assumption)) | exact keepN hX4 (by assumption) hbl (Below.size (by assumption)) | exact keepN hX4 (by assumption) ((Below.refl _ _).alloc (Nat.le_refl _) _) (Below.size (by assumption))) | go_keep)
      (first | (go_at_call 53; go_split_ands; refine (HC.out _ (ha4.keeps (by assumption))).mono ?_; rintro e w' ⟨v, rfl, hown, hbl⟩) | (go_at_call 71; go_split_ands; refine (HIN.out _ _ _ _ (by first | exact hown | exact hown.alloc _) (by first | exact hbl.size | exact Nat.le_trans hbl.size (by simp)) (by first | exact box_VarN _ x | exact (var_adN w4 x).keeps hbl (lt_adN _ _))).mono ?_; rintro e w' ⟨v2, rfl, hown2, hbl2⟩))
  all_goals
    rename_i hH
    obtain ⟨hbz, -⟩ := hH
    obtain ⟨a', cap', rfl, hra, hlc', hnil', _⟩ := hown2.read_nil
    clear hown2 hown hbl hbl2
    go_wp2_with fail
    go_ret
    exact ⟨a', cap', rfl, hra, hnil', hc4.trans (hbz.mono hc4.size)⟩
end Go.Proofs.YtfbdbjookkogjaaDoor

namespace Go.Proofs.YtfbdbjookkogjaaDoor
open Go Go.RowKit Go.Lib Go.MapKept
def stLay : Lay (Int × Int) := { sz := 2, cells := fun x => [.int .i64 x.1, .int .i64 x.2], len := fun _ => rfl, one := fun x v hv => by simp only [List.mem_cons, List.mem_nil_iff, or_false] at hv; rcases hv with rfl | rfl <;> rfl }
theorem st_at {w : World} {a : Option Addr} {xs : List (Int × Int)} (h : RowsAt stLay w a xs) {k : Nat} {x : Int × Int} (hk : xs[k]? = some x) : ∃ b off, a = some ⟨b, off, none⟩ ∧ b < w.heap.size ∧ w.cell? ⟨b, off + k * 2, none⟩ = some (.int .i64 x.1) ∧ w.cell? ⟨b, off + k * 2 + 1, none⟩ = some (.int .i64 x.2) := by
  obtain ⟨b, off, e, hlt, hc⟩ := h k x hk
  exact ⟨b, off, e, hlt, hc 0 _ rfl, hc 1 _ rfl⟩
theorem stInfo : (Tryd.prog.info? 32).map (fun i => (i.zero, i.size, i.bytes)) = some (some (.agg #[.int .i64 0, .int .i64 0]), 2, 16) := by kernel_rfl
def eqSt (c q : Int) (p : Int × Int) : Bool := decide (c = p.1 ∧ q = p.2)
set_option maxRecDepth 100000 in
set_option maxHeartbeats 1600000 in
theorem st_index (a : Option Addr) (cap : Nat) (l : List (Int × Int)) (c q : Int) (w : World) (hl : l.length ≤ 1000000) (ha : RowsAt stLay w a l) :
    Calls Tryd.prog 86 #[.slice a l.length cap, .agg #[.int .i64 c, .int .i64 q]] w fun e w' => e = .returned (.int .i64 (whereG (eqSt c q) l)) ∧ Below w.heap.size w w' := by
  have hb0 := (Below.refl w.heap.size w).alloc (Nat.le_refl _) (.cells #[.int .i64 c, .int .i64 q] 32)
  have hS := VarAt.new w #[.int .i64 c, .int .i64 q] 32
  have HA := Lib.hid (ha.keeps hb0)
  obtain ⟨sb, hsb⟩ : ∃ sb, sb = w.heap.size := ⟨_, rfl⟩
  rw [← hsb] at hS
  have Hsb := Lib.hid hsb
  obtain ⟨p, hp⟩ : ∃ p, eqSt c q = p := ⟨_, rfl⟩
  have Hp := Lib.hid (show ∀ x : Int × Int, p x = decide (c = x.1 ∧ q = x.2) from fun x => by rw [← hp]; rfl)
  rw [hp]
  obtain ⟨r, hr⟩ : ∃ r, whereG p l = r := ⟨_, rfl⟩
  rw [hr]
  have Hr := Lib.hid hr
  clear ha hr hp hsb
  go_enter Tryd.func86, Tryd.ntmps86
  go_wp2_with fail
  rw [← Hsb.out]
  generalize w.alloc (.cells #[.int .i64 c, .int .i64 q] 32) = W1 at *
  go_loopw [5, 8] (fun _ i wr => ∃ k : Nat, k ≤ l.length ∧ i = .int .i64 k ∧ Hid (∀ j y, j < k → l[j]? = some y → p y = false) ∧ Below W1.heap.size W1 wr) (fun _ i _ => l.length - (RowKit.intOf i).toNat)
  case atStart => exact ⟨0, Nat.zero_le _, rfl, Lib.hid (fun j _ hj => absurd hj (Nat.not_lt_zero _)), Below.refl _ _⟩
  case round =>
    obtain ⟨k, hk, rfl, Hk, hb⟩ := hrel
    by_cases hlt : k < l.length
    · obtain ⟨y, hy⟩ := at_some hlt
      obtain ⟨b1, off, rfl, hbl, c0, c1⟩ := st_at (HA.out.keeps hb) hy
      have hS2 := hS.keeps hb hS.1
      have s0 := hS2.2.2 0 _ rfl
      have s1 := hS2.2.2 1 _ rfl
      have Hy := Lib.hid hy
      have heq := eqlSt c q y.1 y.2
      have hpy := Hp.out y
      obtain ⟨v, hv'⟩ : ∃ v, decide (c = y.1 ∧ q = y.2) = v := ⟨_, rfl⟩
      rw [hv'] at heq hpy
      have Hv := Lib.hid hpy
      clear hy hv' hpy
      cases v with
      | true =>
        have Hq := Lib.hid (where_hitG Hy.out Hv.out Hk.out)
        go_wp2_with fail
        go_quiet (fail)
        go_wp2_with fail
        go_ret
        exact ⟨ret_intG (by rw [← Hr.out, Hq.out]), hb0.trans ((belowDrew hb nq).mono hb0.size)⟩
      | false =>
        go_wp2_with fail
        go_quiet (fail)
        go_wp2_with fail
        go_roundw
        case rel =>
          refine ⟨k + 1, by omega, by go_num, Lib.hid (fun j z hj hz => ?_), belowDrew hb nq⟩
          by_cases e : j = k
          · subst e
            rw [Hy.out] at hz
            cases hz
            exact Hv.out
          · exact Hk.out j z (by omega) hz
        case measure => simp [RowKit.intOf]; omega
    · have Hq := Lib.hid (where_missG (l := l) (p := p) (fun j z hj hz => Hk.out j z (by omega) hz))
      go_wp2_with fail
      go_ret
      exact ⟨ret_intG (by rw [← Hr.out, Hq.out]), hb0.trans (hb.mono hb0.size)⟩
theorem where_st (l : List (Int × Int)) (c q : Int) : decide (0 ≤ whereG (eqSt c q) l) = decide ((c, q) ∈ l) := by
  rcases where_casesG (z := ((0 : Int), (0 : Int))) (l := l) (p := eqSt c q) with ⟨k, y, h1, h2, _, h4⟩ | ⟨h1, _, h3⟩
  · rw [h1, decide_eq_true (by omega)]
    have h5 := of_decide_eq_true h4
    refine (decide_eq_true ?_).symm
    have : y = (c, q) := Prod.ext h5.1.symm h5.2.symm
    rw [← this]
    exact List.mem_of_getElem? h2
  · rw [h1, decide_eq_false (by omega)]
    refine (decide_eq_false fun hm => ?_).symm
    have := h3 _ hm
    unfold eqSt at this
    simp at this
set_option maxRecDepth 100000 in
theorem st_contains (a : Option Addr) (cap : Nat) (l : List (Int × Int)) (c q : Int) (w : World) (hl : l.length ≤ 1000000) (ha : RowsAt stLay w a l) :
    Calls Tryd.prog 72 #[.slice a l.length cap, .agg #[.int .i64 c, .int .i64 q]] w fun e w' => e = .returned (.bool (decide ((c, q) ∈ l))) ∧ Below w.heap.size w w' := by
  have hb0 := (Below.refl w.heap.size w).alloc (Nat.le_refl _) (.cells #[.int .i64 c, .int .i64 q] 32)
  have HI := Lib.hid (st_index a cap l c q _ hl (ha.keeps hb0))
  have HW := Lib.hid (where_st l c q)
  have Hb := Lib.hid hb0
  generalize whereG (eqSt c q) l = r at *
  generalize decide ((c, q) ∈ l) = z at *
  clear ha hb0
  go_enter Tryd.func72, Tryd.ntmps72
  go_wp2_with fail
  refine HI.out.mono ?_
  rintro e w1 ⟨rfl, hb1⟩
  go_wp2_with fail
  go_ret
  exact ⟨ret_boolG HW.out, Hb.out.trans (hb1.mono Hb.out.size)⟩
end Go.Proofs.YtfbdbjookkogjaaDoor

namespace Go.Proofs.YtfbdbjookkogjaaDoor
open Go Go.RowKit Go.Lib Go.MapKept
def OutC (l : List Nd) (out : List (Int × Int)) : Prop := out.Nodup ∧ ∀ p ∈ out, (findT l p.1 p.2).2 = true
theorem findT_mem {l : List Nd} {c q : Int} (h : (findT l c q).2 = true) : (findT l c q).1 ∈ l ∧ (findT l c q).1.cnt = c ∧ (findT l c q).1.who = q := by
  unfold findT at h ⊢
  rcases where_casesG (z := nd0) (l := l) (p := isNd c q) with ⟨k, y, _, h2, h3, h4⟩ | ⟨_, h2, _⟩
  · rw [h3]
    have h5 := of_decide_eq_true h4
    exact ⟨List.mem_of_getElem? h2, h5.1, h5.2⟩
  · rw [h2] at h
    cases h
theorem outC_len {l : List Nd} {out : List (Int × Int)} (h : OutC l out) : out.length ≤ l.length := by
  have h2 := length_le_of_sub out (l.map fun n => (n.cnt, n.who)) h.1 fun p hp => by
    obtain ⟨h3, h4, h5⟩ := findT_mem (h.2 p hp)
    exact List.mem_map.2 ⟨_, h3, by rw [h4, h5]⟩
  rwa [List.length_map] at h2
theorem OutC.add {l : List Nd} {out : List (Int × Int)} (h : OutC l out) {c q : Int} (hn : (c, q) ∉ out) (hf : (findT l c q).2 = true) : OutC l (out ++ [(c, q)]) := by
  refine ⟨?_, fun p hp => ?_⟩
  · rw [List.nodup_append]
    exact ⟨h.1, by simp, fun a ha b hb e => by
      rw [List.mem_singleton] at hb
      rw [e, hb] at ha
      exact hn ha⟩
  · rcases List.mem_append.1 hp with hp | hp
    · exact h.2 p hp
    · rw [List.mem_singleton.1 hp]
      exact hf
def yesC (out : List (Int × Int)) : Pr → Option Value := fun p => if (p.1.1, p.1.2) ∈ out then some (.bool true) else none
theorem yesC_get (out : List (Int × Int)) (c q : Int) (h : idOK c q) : (yesC out (prOf c q h)).getD (.bool false) = .bool (decide ((c, q) ∈ out)) := by
  unfold yesC prOf
  by_cases hm : (c, q) ∈ out
  · rw [if_pos hm, decide_eq_true hm]
    rfl
  · rw [if_neg hm, decide_eq_false hm]
    rfl
theorem yesC_put (out : List (Int × Int)) (c q : Int) (h : idOK c q) : yesC (out ++ [(c, q)]) = putAt (yesC out) (prOf c q h) (.bool true) := by
  funext p
  unfold yesC putAt
  by_cases e : p = prOf c q h
  · subst e
    rw [if_pos rfl, if_pos (by simp [prOf])]
  · rw [if_neg e]
    have : ¬ ((p.1.1, p.1.2) = (c, q)) := fun h2 => e (Subtype.ext (Prod.ext (Prod.mk.inj h2).1 (Prod.mk.inj h2).2))
    have h3 : ((p.1.1, p.1.2) ∈ out ++ [(c, q)]) ↔ (p.1.1, p.1.2) ∈ out := by
      rw [List.mem_append, List.mem_singleton]
      exact ⟨fun h => h.resolve_right this, .inl⟩
    show (if (p.1.1, p.1.2) ∈ out ++ [(c, q)] then some (Value.bool true) else none) = if (p.1.1, p.1.2) ∈ out then some (Value.bool true) else none
    by_cases hm : (p.1.1, p.1.2) ∈ out
    · rw [if_pos (h3.2 hm), if_pos hm]
    · rw [if_neg (fun h4 => hm (h3.1 h4)), if_neg hm]
theorem chain_stop {l : List Nd} {f : Nat} {c q : Int} {out : List (Int × Int)} (h : (c, q) ∈ out) : chainGo l (f + 1) c q out = out := by
  unfold chainGo
  rw [if_pos h]
theorem chain_on {l : List Nd} {f : Nat} {c q : Int} {out : List (Int × Int)} (h : (c, q) ∉ out) (hf : (findT l c q).2 = true) : chainGo l (f + 1) c q out = chainGo l f (findT l c q).1.pc (findT l c q).1.pw (out ++ [(c, q)]) := by
  conv => lhs; unfold chainGo
  rw [if_neg h, if_pos hf]
theorem chain_end {l : List Nd} {f : Nat} {c q : Int} {out : List (Int × Int)} (h : (c, q) ∉ out) (hf : (findT l c q).2 = false) : chainGo l (f + 1) c q out = if out = [] then [] else out ++ [(c, q)] := by
  unfold chainGo
  rw [if_neg h, if_neg (by rw [hf]; simp)]
def sliceLen : Value → Nat
  | .slice _ n _ => n
  | _ => 0
set_option maxRecDepth 100000 in
set_option maxHeartbeats 6400000 in
theorem chain_any (a : Option Addr) (cap : Nat) (l : List Nd) (c q : Int) (w : World) (hl : l.length ≤ 1000) (ha : RowsAt ndLay w a l) (hR : ∀ n ∈ l, idOK n.pc n.pw) (hid : idOK c q) :
    Calls Tryd.prog 25 #[.slice a l.length cap, .agg #[.int .i64 c, .int .i64 q]] w fun e w' => ∃ v, e = .returned v ∧ OwnRows stLay w' w.heap.size 32 v (chainT l c q) ∧ Below w.heap.size w w' := by
  have hmm := @run_makeMap Tryd.prog
  obtain ⟨i0, hi, hz0, hz1, hz2⟩ := info_parts stInfo
  have Hi := Lib.hid hi
  have Hz0 := Lib.hid hz0
  have Hz1 := Lib.hid hz1
  have Hz2 := Lib.hid hz2
  have hb1 := (Below.refl w.heap.size w).alloc (Nat.le_refl _) (.cells #[.int .i64 c, .int .i64 q] 32)
  have hS0 := VarAt.new w #[.int .i64 c, .int .i64 q] 32
  have hb2 := hb1.alloc hb1.size (.map #[] 0)
  have hS := hS0.keeps ((Below.refl _ _).alloc (Nat.le_refl _) (.map #[] 0)) hS0.1
  have hM : MapOf Pr.val ((w.alloc (.cells #[.int .i64 c, .int .i64 q] 32)).alloc (.map #[] 0)) (w.alloc (.cells #[.int .i64 c, .int .i64 q] 32)).heap.size 0 (fun _ => none) := MapOf.made _
  rw [show (w.alloc (.cells #[.int .i64 c, .int .i64 q] 32)).heap.size = w.heap.size + 1 by simp] at hM
  obtain ⟨mb, hmb⟩ : ∃ mb, mb = w.heap.size + 1 := ⟨_, rfl⟩
  obtain ⟨sb, hsb⟩ : ∃ sb, sb = w.heap.size := ⟨_, rfl⟩
  rw [← hmb] at hM
  rw [← hsb] at hS
  obtain ⟨W1, hW1⟩ : ∃ W1, W1 = (w.alloc (.cells #[.int .i64 c, .int .i64 q] 32)).alloc (.map #[] 0) := ⟨_, rfl⟩
  have hBz : mb + 1 ≤ W1.heap.size := by rw [hW1, hmb]; simp
  rw [← hW1] at hS hM hb2
  have Hmb := Lib.hid hmb
  have Hsb := Lib.hid hsb
  have HW1 := Lib.hid hW1
  have HF := Lib.hid fun W c' q' (h : Below w.heap.size w W) => tfind_any a cap l c' q' W (by omega) (ha.keeps h)
  have HRR := Lib.hid hR
  clear hi hz0 hz1 hz2 hb1 hS0 ha hmb hsb hW1 hR
  go_enter Tryd.func25, Tryd.ntmps25
  go_upto_region 2 with fail
  rw [← Hmb.out, ← Hsb.out, ← HW1.out]
  go_wp2_with fail
  go_loopw [6] (fun va wr => ∃ (c' q' : Int) (out : List (Int × Int)), VarAt wr sb [.int .i64 c', .int .i64 q'] ∧ Hid (∃ n, MapOf Pr.val wr mb n (yesC out)) ∧ OwnRows stLay wr (mb + 1) 32 va out ∧ Hid (idOK c' q' ∧ OutC l out ∧ chainT l c q = chainGo l (l.length + 2 - out.length) c' q' out) ∧ Below w.heap.size w wr ∧ mb + 1 ≤ wr.heap.size) (fun va _ => l.length + 1 - sliceLen va)
  case atStart => exact ⟨c, q, [], hS, Lib.hid ⟨0, hM.congr fun p => by simp [yesC]⟩, OwnRows.nil _ _ _ _, Lib.hid ⟨hid, ⟨List.nodup_nil, fun p hp => by simp at hp⟩, rfl⟩, hb2, hBz⟩
  case round =>
    clear hS hM hb2 hBz
    obtain ⟨c', q', out, hS, HM, hoa, HO, hb, hBz⟩ := hrel
    obtain ⟨va', ca', rfl, _, hoc, hnil, _⟩ := hoa.read_nil
    have hvb : ∀ j, (Value.slice va' out.length ca').ownBlock = some j → mb + 1 ≤ j ∧ j < wr.heap.size := fun j hj => hoa.lt hj
    have Hvb := Lib.hid hvb
    clear hvb
    have s0 := hS.2.2 0 _ rfl
    have s1 := hS.2.2 1 _ rfl
    have hid' := HO.out.1
    have hol := outC_len HO.out.2.1
    have hmbw := Hmb.out
    have hsbw := Hsb.out
    have hlk0 : ∀ b, decide ((c', q') ∈ out) = b → (Instr.lookup 61 (.map (some mb)) (.agg #[.int .i64 c', .int .i64 q']) false).run Tryd.prog wr = .ok (.bool b) wr := fun b hb => by
      obtain ⟨nn, hm⟩ := HM.out
      have h1 := hm.lookup stpK Tryd.underlying61 (prOf c' q' hid') (zeroBool _)
      rw [yesC_get] at h1
      rw [← hb]
      exact h1
    by_cases hin : (c', q') ∈ out
    · have hlk := hlk0 true (decide_eq_true hin)
      have HE := Lib.hid (show chainT l c q = out by
        rw [HO.out.2.2, show l.length + 2 - out.length = (l.length + 1 - out.length) + 1 by omega, chain_stop hin])
      clear hlk0 hmbw hsbw
      go_wp2_with fail
      go_ret
      refine ⟨_, rfl, ?_, hb⟩
      rw [HE.out]
      exact hoa.lower (by have := Hmb.out; omega)
    · have hlk := hlk0 false (decide_eq_false hin)
      have HFi := Lib.hid (HF.out wr c' q' hb)
      have Hin := Lib.hid hin
      obtain ⟨fx, hfx⟩ : ∃ fx, findT l c' q' = fx := ⟨_, rfl⟩
      rw [hfx] at HFi
      obtain ⟨nx, nok⟩ := fx
      dsimp only at HFi
      unfold Nd.agg at HFi
      have Hfx := Lib.hid hfx
      clear hlk0 hfx hin hmbw hsbw
      go_wp2_with fail
      refine HFi.out.mono ?_
      rintro e w2 ⟨rfl, hbf⟩
      have hbA := hbf.alloc hbf.size (.cells #[.int .i64 nx.cnt, .int .i64 nx.who, .bool nx.dir, .int .i64 nx.pc, .int .i64 nx.pw, .string nx.name, .string nx.man] 46)
      have hX := VarAt.new w2 #[.int .i64 nx.cnt, .int .i64 nx.who, .bool nx.dir, .int .i64 nx.pc, .int .i64 nx.pw, .string nx.name, .string nx.man] 46
      obtain ⟨xb, hxb⟩ : ∃ xb, xb = w2.heap.size := ⟨_, rfl⟩
      rw [← hxb] at hX
      have hxw : wr.heap.size ≤ xb := by rw [hxb]; exact hbf.size
      obtain ⟨w3, hw3⟩ : ∃ w3, w3 = w2.alloc (.cells #[.int .i64 nx.cnt, .int .i64 nx.who, .bool nx.dir, .int .i64 nx.pc, .int .i64 nx.pw, .string nx.name, .string nx.man] 46) := ⟨_, rfl⟩
      rw [← hw3] at hbA hX
      have Hxb := Lib.hid hxb
      have Hw3 := Lib.hid hw3
      have hS3 := hS.keeps hbA hS.1
      have hm3 : ∃ n, MapOf Pr.val w3 mb n (yesC out) := by
        obtain ⟨n, h⟩ := HM.out
        exact ⟨n, h.below hbA h.lt⟩
      have ho3 := hoa.below hbA
      have hb3 := hb.trans (hbA.mono hb.size)
      have hBz3 : mb + 1 ≤ w3.heap.size := Nat.le_trans hBz hbA.size
      clear hlk s0 s1 hS hxb hw3 hbf HFi hoa hb
      have s0 := hS3.2.2 0 _ rfl
      have s1 := hS3.2.2 1 _ rfl
      have x3 := hX.2.2 3 _ rfl
      have x4 := hX.2.2 4 _ rfl
      obtain ⟨nn, hm3⟩ := hm3
      have Hmk := Lib.hid (fun w5 (h : MapOf Pr.val w5 mb (nn + 1) (putAt (yesC out) (prOf c' q' hid') (.bool true))) => (show ∃ n, MapOf Pr.val w5 mb n (yesC (out ++ [(c', q')])) from ⟨_, h.congr fun p => by rw [yesC_put out c' q' hid']⟩))
      go_upto_region 5 with fail
      rw [← Hxb.out, ← Hw3.out]
      cases nok with
      | true =>
        have HO2 := Lib.hid (show idOK nx.pc nx.pw ∧ OutC l (out ++ [(c', q')]) ∧ chainT l c q = chainGo l (l.length + 2 - (out ++ [(c', q')]).length) nx.pc nx.pw (out ++ [(c', q')]) by
          have hf := Hfx.out
          have h2 : (findT l c' q').2 = true := by rw [hf]
          have h1 : (findT l c' q').1 = nx := by rw [hf]
          refine ⟨?_, HO.out.2.1.add Hin.out h2, ?_⟩
          · have := HRR.out _ (findT_mem h2).1
            rw [h1] at this
            exact this
          · rw [HO.out.2.2, show l.length + 2 - out.length = (l.length + 1 - out.length) + 1 by omega, chain_on Hin.out h2, h1, List.length_append, List.length_singleton, show l.length + 2 - (out.length + 1) = l.length + 1 - out.length by omega])
        go_wp2_with (at_mapUpdate; refine wpList_mapUpdate_of rfl _ _ _ 61 rfl 32 4 stpK Tryd.underlying61 rfl hm3 (prOf c' q' hid') rfl (.bool true) rfl ?_)
        intro w5 hm5 hg5
        have hsm : sb ≠ mb := by have h1 := Hmb.out; have h2 := Hsb.out; omega
        have hS5 := hS3.grown hg5 (fun e => hsm (Option.some.inj e))
        have hX5 := hX.grown hg5 (fun e => by have h1 := Option.some.inj e; omega)
        have ho5 := ho3.kept hg5 (.inr (fun e => by have := (Hvb.out _ e).1; omega))
        have hb5 := hb3.grown hg5 hb3.size (fun j ej => by have h1 := Option.some.inj ej; have h2 := Hmb.out; omega)
        have hz5 := hg5.size
        clear s0 s1 x3 x4
        have s0 := hS5.2.2 0 _ rfl
        have s1 := hS5.2.2 1 _ rfl
        go_wp2_with (at_builtin; refine wpList_append_rows _ rfl _ _ 54 rfl stLay (mb + 1) 32 i0 (.agg #[.int .i64 0, .int .i64 0]) 16 Tryd.underlying54 Hi.out Hz0.out Hz1.out Hz2.out rfl (by decide) _ _ rfl (ho5.alloc _) ⟨w5.heap.size, 0, none⟩ 1 (c', q') rfl (cells_new_at w5 w5.heap.size #[.int .i64 c', .int .i64 q'] 32 rfl) (by unfold maxLen; omega) (by omega) (by simp; omega) ?_)
        intro v6 w6 ho6 hg6 hw6
        have hal5 := (Below.refl w5.heap.size w5).alloc (Nat.le_refl _) (.cells #[.int .i64 c', .int .i64 q'] 32)
        have hS6 := (hS5.keeps hal5 hS5.1).grown hg6 (fun e => by have h1 := (Hvb.out _ e.symm).1; have h2 := Hmb.out; have h3 := Hsb.out; omega)
        have hX6 := (hX5.keeps hal5 hX5.1).grown hg6 (fun e => by have h1 := (Hvb.out _ e.symm).2; omega)
        have hm6 := (hm5.alloc (.cells #[.int .i64 c', .int .i64 q'] 32)).grown hg6 (fun e => by have h1 := (Hvb.out _ e.symm).1; omega)
        have hb6 := (hb5.alloc hb5.size (.cells #[.int .i64 c', .int .i64 q'] 32)).grown hg6 (by have := hb5.size; simp; omega) (fun j ej => by have h1 := (Hvb.out _ ej).1; have h2 := Hmb.out; omega)
        have hz6 : mb + 1 ≤ w6.heap.size := by have h1 := hg6.size; have h2 : w5.heap.size + 1 ≤ w6.heap.size := by simpa using h1
                                               omega
        clear s0 s1 hm5 hg5 hg6 hw6 ho5 hal5 hS5 hX5 hb5 hS3 hX ho3 hm3
        have x3 := hX6.2.2 3 _ rfl
        have x4 := hX6.2.2 4 _ rfl
        have ff := hS6.2.1
        have f0 := hS6.2.2 0 _ rfl
        have f1 := hS6.2.2 1 _ rfl
        go_wp2_with fail
        have hS7 := hS6.put [.int .i64 nx.pc, .int .i64 nx.pw] rfl
        have hb7 := belowPut (b := sb) hb6 [.int .i64 nx.pc, .int .i64 nx.pw] 0 (by have := Hsb.out; omega)
        have hm7 := hm6.of_block (putRow_block (b := sb) (fun e => hsm e.symm) [.int .i64 nx.pc, .int .i64 nx.pw] 0 w6)
        simp only [putRow, Nat.zero_add] at hS7 hb7 hm7
        have hsl : sb < mb + 1 := by have h1 := Hmb.out; have h2 := Hsb.out; omega
        have ho7 := own_setV (own_setV ho6 (b := sb) 0 (.int .i64 nx.pc) hsl) (b := sb) 1 (.int .i64 nx.pw) hsl
        obtain ⟨a9, c9, hv9, _, _⟩ := ho6.read
        have HV9 := Lib.hid hv9
        have hol2 := outC_len HO2.out.2.1
        clear hv9
        go_roundw
        case rel => exact ⟨nx.pc, nx.pw, out ++ [(c', q')], hS7, Hmk.out _ hm7, ho7, HO2, hb7, by simp; omega⟩
        case measure =>
          rw [List.length_append, List.length_singleton] at hol2
          simp [sliceLen, HV9.out]
          omega
      | false =>
        have hf2 : (findT l c' q').2 = false := by rw [Hfx.out]
        by_cases hoz : out = []
        · subst hoz
          have HE := Lib.hid (show chainT l c q = [] by
            rw [HO.out.2.2, show l.length + 2 - ([] : List (Int × Int)).length = (l.length + 1) + 1 by simp, chain_end Hin.out hf2, if_pos rfl])
          clear hf2
          go_wp2_with fail
          go_ret
          refine ⟨_, rfl, ?_, hb3⟩
          rw [HE.out]
          exact OwnRows.nil _ _ _ _
        · have hq : ((out.length : Int) == 0) = false := by
            rw [beq_eq_false_iff_ne]
            intro e
            exact hoz (List.length_eq_zero_iff.1 (by omega))
          have HE := Lib.hid (show chainT l c q = out ++ [(c', q')] by
            rw [HO.out.2.2, show l.length + 2 - out.length = (l.length + 1 - out.length) + 1 by omega, chain_end Hin.out hf2, if_neg hoz])
          clear hf2 hoz
          go_wp2_with (at_mapUpdate; refine wpList_mapUpdate_of rfl _ _ _ 61 rfl 32 4 stpK Tryd.underlying61 rfl hm3 (prOf c' q' hid') rfl (.bool true) rfl ?_)
          intro w5 hm5 hg5
          have hsm : sb ≠ mb := by have h1 := Hmb.out; have h2 := Hsb.out; omega
          have hS5 := hS3.grown hg5 (fun e => hsm (Option.some.inj e))
          have hX5 := hX.grown hg5 (fun e => by have h1 := Option.some.inj e; omega)
          have ho5 := ho3.kept hg5 (.inr (fun e => by have := (Hvb.out _ e).1; omega))
          have hb5 := hb3.grown hg5 hb3.size (fun j ej => by have h1 := Option.some.inj ej; have h2 := Hmb.out; omega)
          have hz5 := hg5.size
          clear s0 s1 x3 x4
          have s0 := hS5.2.2 0 _ rfl
          have s1 := hS5.2.2 1 _ rfl
          go_wp2_with (at_builtin; refine wpList_append_rows _ rfl _ _ 54 rfl stLay (mb + 1) 32 i0 (.agg #[.int .i64 0, .int .i64 0]) 16 Tryd.underlying54 Hi.out Hz0.out Hz1.out Hz2.out rfl (by decide) _ _ rfl (ho5.alloc _) ⟨w5.heap.size, 0, none⟩ 1 (c', q') rfl (cells_new_at w5 w5.heap.size #[.int .i64 c', .int .i64 q'] 32 rfl) (by unfold maxLen; omega) (by omega) (by simp; omega) ?_)
          intro v6 w6 ho6 hg6 hw6
          have hal5 := (Below.refl w5.heap.size w5).alloc (Nat.le_refl _) (.cells #[.int .i64 c', .int .i64 q'] 32)
          have hS6 := (hS5.keeps hal5 hS5.1).grown hg6 (fun e => by have h1 := (Hvb.out _ e.symm).1; have h2 := Hmb.out; have h3 := Hsb.out; omega)
          have hX6 := (hX5.keeps hal5 hX5.1).grown hg6 (fun e => by have h1 := (Hvb.out _ e.symm).2; omega)
          have hm6 := (hm5.alloc (.cells #[.int .i64 c', .int .i64 q'] 32)).grown hg6 (fun e => by have h1 := (Hvb.out _ e.symm).1; omega)
          have hb6 := (hb5.alloc hb5.size (.cells #[.int .i64 c', .int .i64 q'] 32)).grown hg6 (by have := hb5.size; simp; omega) (fun j ej => by have h1 := (Hvb.out _ ej).1; have h2 := Hmb.out; omega)
          have hz6 : mb + 1 ≤ w6.heap.size := by have h1 := hg6.size; have h2 : w5.heap.size + 1 ≤ w6.heap.size := by simpa using h1
                                                 omega
          clear s0 s1 hm5 hg5 hg6 hw6 ho5 hal5 hS5 hX5 hb5 hS3 hX ho3 hm3
          go_wp2_with fail
          go_ret
          refine ⟨_, rfl, ?_, hb6⟩
          rw [HE.out]
          exact ho6.lower (by have := Hmb.out; omega)
end Go.Proofs.YtfbdbjookkogjaaDoor

namespace Go.Proofs.YtfbdbjookkogjaaDoor
open Go Go.RowKit Go.Lib
theorem chainGo_len (l : List Nd) : ∀ (f : Nat) (c q : Int) (out : List (Int × Int)), (chainGo l f c q out).length ≤ out.length + f
  | 0, _, _, _ => Nat.le_refl _
  | f + 1, c, q, out => by
    unfold chainGo
    split
    · omega
    · split
      · have := chainGo_len l f (findT l c q).1.pc (findT l c q).1.pw (out ++ [(c, q)])
        rw [List.length_append, List.length_singleton] at this
        omega
      · split
        · exact Nat.zero_le _
        · rw [List.length_append, List.length_singleton]
          omega
theorem chainT_len (l : List Nd) (c q : Int) : (chainT l c q).length ≤ l.length + 2 := by
  have := chainGo_len l (l.length + 2) c q []
  rw [List.length_nil] at this
  unfold chainT
  omega
theorem contains_own {W : World} {base : Nat} {e : TypeId} {v : Value} {xs : List (Int × Int)} (h : OwnRows stLay W base e v xs) (c q : Int) (hl : xs.length ≤ 1000000) :
    Calls Tryd.prog 72 #[v, .agg #[.int .i64 c, .int .i64 q]] W fun e w' => e = .returned (.bool (decide ((c, q) ∈ xs))) ∧ Below W.heap.size W w' := by
  obtain ⟨a, cap, rfl, hr, _⟩ := h.read
  exact st_contains a cap xs c q W hl hr
set_option maxRecDepth 100000 in
set_option maxHeartbeats 6400000 in
theorem turned_any (a : Option Addr) (cap : Nat) (l : List Nd) (n : Nd) (x : Opr) (w : World) (hl : l.length ≤ 1000) (ha : RowsAt ndLay w a l) (hRR : ∀ n ∈ l, idOK n.pc n.pw) (hid : idOK x.pc x.pw) :
    Calls Tryd.prog 52 #[.slice a l.length cap, .agg #[.int .i64 n.cnt, .int .i64 n.who, .bool n.dir, .int .i64 n.pc, .int .i64 n.pw, .string n.name, .string n.man], .agg #[.int .i64 x.cnt, .int .i64 x.who, .int .i64 x.seq, .int .i64 x.kind, .int .i64 x.nc, .int .i64 x.nw, .bool x.dir, .int .i64 x.pc, .int .i64 x.pw, .string x.name, .string x.man]] w fun e w' => e = .returned (.tuple #[(turnedT l n x).1.agg, .bool (turnedT l n x).2]) ∧ Below w.heap.size w w' := by
  have hb1 := (Below.refl w.heap.size w).alloc (Nat.le_refl _) (.cells #[.int .i64 n.cnt, .int .i64 n.who, .bool n.dir, .int .i64 n.pc, .int .i64 n.pw, .string n.name, .string n.man] 46)
  have hN0 := VarAt.new w #[.int .i64 n.cnt, .int .i64 n.who, .bool n.dir, .int .i64 n.pc, .int .i64 n.pw, .string n.name, .string n.man] 46
  have hO0 := VarAt.new (w.alloc (.cells #[.int .i64 n.cnt, .int .i64 n.who, .bool n.dir, .int .i64 n.pc, .int .i64 n.pw, .string n.name, .string n.man] 46)) #[.int .i64 x.cnt, .int .i64 x.who, .int .i64 x.seq, .int .i64 x.kind, .int .i64 x.nc, .int .i64 x.nw, .bool x.dir, .int .i64 x.pc, .int .i64 x.pw, .string x.name, .string x.man] 43
  have hb2 := hb1.alloc hb1.size (.cells #[.int .i64 x.cnt, .int .i64 x.who, .int .i64 x.seq, .int .i64 x.kind, .int .i64 x.nc, .int .i64 x.nw, .bool x.dir, .int .i64 x.pc, .int .i64 x.pw, .string x.name, .string x.man] 43)
  have hN1 := hN0.keeps ((Below.refl _ _).alloc (Nat.le_refl _) (.cells #[.int .i64 x.cnt, .int .i64 x.who, .int .i64 x.seq, .int .i64 x.kind, .int .i64 x.nc, .int .i64 x.nw, .bool x.dir, .int .i64 x.pc, .int .i64 x.pw, .string x.name, .string x.man] 43)) hN0.1
  have hR0 := VarAt.new ((w.alloc (.cells #[.int .i64 n.cnt, .int .i64 n.who, .bool n.dir, .int .i64 n.pc, .int .i64 n.pw, .string n.name, .string n.man] 46)).alloc (.cells #[.int .i64 x.cnt, .int .i64 x.who, .int .i64 x.seq, .int .i64 x.kind, .int .i64 x.nc, .int .i64 x.nw, .bool x.dir, .int .i64 x.pc, .int .i64 x.pw, .string x.name, .string x.man] 43)) #[.int .i64 0, .int .i64 0, .bool false, .int .i64 0, .int .i64 0, .string ⟨#[]⟩, .string ⟨#[]⟩] 46
  have hb3 := hb2.alloc hb2.size (.cells #[.int .i64 0, .int .i64 0, .bool false, .int .i64 0, .int .i64 0, .string ⟨#[]⟩, .string ⟨#[]⟩] 46)
  have hN2 := hN1.keeps ((Below.refl _ _).alloc (Nat.le_refl _) (.cells #[.int .i64 0, .int .i64 0, .bool false, .int .i64 0, .int .i64 0, .string ⟨#[]⟩, .string ⟨#[]⟩] 46)) hN1.1
  have hO1 := hO0.keeps ((Below.refl _ _).alloc (Nat.le_refl _) (.cells #[.int .i64 0, .int .i64 0, .bool false, .int .i64 0, .int .i64 0, .string ⟨#[]⟩, .string ⟨#[]⟩] 46)) hO0.1
  obtain ⟨rb, hrb⟩ : ∃ rb, rb = w.heap.size + 1 + 1 := ⟨_, rfl⟩
  obtain ⟨ob, hob⟩ : ∃ ob, ob = w.heap.size + 1 := ⟨_, rfl⟩
  obtain ⟨nb, hnb⟩ : ∃ nb, nb = w.heap.size := ⟨_, rfl⟩
  rw [show ((w.alloc (.cells #[.int .i64 n.cnt, .int .i64 n.who, .bool n.dir, .int .i64 n.pc, .int .i64 n.pw, .string n.name, .string n.man] 46)).alloc (.cells #[.int .i64 x.cnt, .int .i64 x.who, .int .i64 x.seq, .int .i64 x.kind, .int .i64 x.nc, .int .i64 x.nw, .bool x.dir, .int .i64 x.pc, .int .i64 x.pw, .string x.name, .string x.man] 43)).heap.size = rb by rw [hrb]; simp] at hR0
  rw [show (w.alloc (.cells #[.int .i64 n.cnt, .int .i64 n.who, .bool n.dir, .int .i64 n.pc, .int .i64 n.pw, .string n.name, .string n.man] 46)).heap.size = ob by rw [hob]; simp] at hO1
  rw [← hnb] at hN2
  obtain ⟨W1, hW1⟩ : ∃ W1, W1 = ((w.alloc (.cells #[.int .i64 n.cnt, .int .i64 n.who, .bool n.dir, .int .i64 n.pc, .int .i64 n.pw, .string n.name, .string n.man] 46)).alloc (.cells #[.int .i64 x.cnt, .int .i64 x.who, .int .i64 x.seq, .int .i64 x.kind, .int .i64 x.nc, .int .i64 x.nw, .bool x.dir, .int .i64 x.pc, .int .i64 x.pw, .string x.name, .string x.man] 43)).alloc (.cells #[.int .i64 0, .int .i64 0, .bool false, .int .i64 0, .int .i64 0, .string ⟨#[]⟩, .string ⟨#[]⟩] 46) := ⟨_, rfl⟩
  rw [← hW1] at hR0 hO1 hN2 hb3
  have Hrb := Lib.hid hrb
  have Hob := Lib.hid hob
  have Hnb := Lib.hid hnb
  have HW1 := Lib.hid hW1
  have hR := hR0
  have hO := hO1
  have hN := hN2
  have hb := hb3
  have hno : nb ≠ ob := by omega
  have hnr : nb ≠ rb := by omega
  have hor : ob ≠ rb := by omega
  have HA := Lib.hid fun W (h : Below w.heap.size w W) => ha.keeps h
  clear hb1 hN0 hO0 hb2 hN1 hR0 hb3 hN2 hO1 hrb hob hnb hW1 ha
  have HD := Lib.hid (show turnedT l n x = if x.kind = 2 then ({ n with pc := x.pc, pw := x.pw, name := x.name }, takesT l x.pc x.pw && !decide ((x.nc, x.nw) ∈ chainT l x.pc x.pw)) else if x.kind = 3 then ({ n with man := x.man }, !n.dir) else if x.kind = 4 then ({ n with pc := 0, pw := 1 }, true) else (n, false) from rfl)
  obtain ⟨r, hr⟩ : ∃ r, turnedT l n x = r := ⟨_, rfl⟩
  rw [hr] at HD ⊢
  clear hr
  have n0 := hN.2.2 0 _ rfl
  have n1 := hN.2.2 1 _ rfl
  have n2 := hN.2.2 2 _ rfl
  have n3 := hN.2.2 3 _ rfl
  have n4 := hN.2.2 4 _ rfl
  have n5 := hN.2.2 5 _ rfl
  have n6 := hN.2.2 6 _ rfl
  have o0 := hO.2.2 0 _ rfl
  have o1 := hO.2.2 1 _ rfl
  have o2 := hO.2.2 2 _ rfl
  have o3 := hO.2.2 3 _ rfl
  have o4 := hO.2.2 4 _ rfl
  have o5 := hO.2.2 5 _ rfl
  have o6 := hO.2.2 6 _ rfl
  have o7 := hO.2.2 7 _ rfl
  have o8 := hO.2.2 8 _ rfl
  have o9 := hO.2.2 9 _ rfl
  have o10 := hO.2.2 10 _ rfl
  have nf := hN.2.1
  by_cases h2 : x.kind = 2
  · have e2 : (x.kind == 2) = true := by rw [h2]; rfl
    have HT := Lib.hid (HD.out.trans (if_pos h2))
    clear h2
    go_enter Tryd.func52, Tryd.ntmps52
    go_upto_region 1 with fail
    rw [← Hrb.out, ← Hob.out, ← Hnb.out, ← HW1.out]
    go_upto_region 3 with fail
    go_cut [12] from 12 to 17 (fun _ wx => VarAt wx nb [.int .i64 n.cnt, .int .i64 n.who, .bool n.dir, .int .i64 x.pc, .int .i64 x.pw, .string x.name, .string n.man] ∧ VarAt wx ob [.int .i64 x.cnt, .int .i64 x.who, .int .i64 x.seq, .int .i64 x.kind, .int .i64 x.nc, .int .i64 x.nw, .bool x.dir, .int .i64 x.pc, .int .i64 x.pw, .string x.name, .string x.man] ∧ VarAt wx rb [.int .i64 0, .int .i64 0, .bool false, .int .i64 0, .int .i64 0, .string ⟨#[]⟩, .string ⟨#[]⟩] ∧ Below w.heap.size w wx)
    case first =>
      go_region_law (fail)
      all_goals
        go_wp2_with fail
        go_meet
        refine ⟨?_, ?_, ?_, ?_⟩
        · exact (((hN.set 3 _ (by show 3 < 7; omega)).set 4 _ (by show 4 < 7; omega)).set 5 _ (by show 5 < 7; omega))
        · exact ((hO.other _ hno.symm).other _ hno.symm).other _ hno.symm
        · exact ((hR.other _ hnr.symm).other _ hnr.symm).other _ hnr.symm
        · exact belowDrew (((hb.setCell (by have := Hnb.out; show _ ≤ nb; omega) _).setCell (by have := Hnb.out; show _ ≤ nb; omega) _).setCell (by have := Hnb.out; show _ ≤ nb; omega) _) 1
    case rest =>
      obtain ⟨hN3, hO3, hR3, hb3⟩ := hcut
      clear hN hO hR hb nf n0 n1 n2 n3 n4 n5 n6 o0 o1 o2 o3 o4 o5 o6 o7 o8 o9 o10
      have n0 := hN3.2.2 0 _ rfl
      have n1 := hN3.2.2 1 _ rfl
      have n2 := hN3.2.2 2 _ rfl
      have n3 := hN3.2.2 3 _ rfl
      have n4 := hN3.2.2 4 _ rfl
      have n5 := hN3.2.2 5 _ rfl
      have n6 := hN3.2.2 6 _ rfl
      have f0 := hR3.2.2 0 _ rfl
      have f1 := hR3.2.2 1 _ rfl
      have f2 := hR3.2.2 2 _ rfl
      have f3 := hR3.2.2 3 _ rfl
      have f4 := hR3.2.2 4 _ rfl
      have f5 := hR3.2.2 5 _ rfl
      have f6 := hR3.2.2 6 _ rfl
      have ff := hR3.2.1
      have o4 := hO3.2.2 4 _ rfl
      have o5 := hO3.2.2 5 _ rfl
      have o7 := hO3.2.2 7 _ rfl
      have o8 := hO3.2.2 8 _ rfl
      have HTK := Lib.hid fun W (h : Below w.heap.size w W) => takes_any a cap l x.pc x.pw W (by omega) (HA.out W h)
      have HCH := Lib.hid fun W (h : Below w.heap.size w W) => chain_any a cap l x.pc x.pw W hl (HA.out W h) hRR hid
      obtain ⟨tk, htk⟩ : ∃ tk, takesT l x.pc x.pw = tk := ⟨_, rfl⟩
      rw [htk] at HTK
      have HTF := Lib.hid htk
      clear htk
      cases tk with
      | true =>
        obtain ⟨mm, hmm⟩ : ∃ mm, decide ((x.nc, x.nw) ∈ chainT l x.pc x.pw) = mm := ⟨_, rfl⟩
        have HT2 := Lib.hid (show r = ({ n with pc := x.pc, pw := x.pw, name := x.name }, !mm) by rw [HT.out, HTF.out, hmm]; rfl)
        have hcl : (chainT l x.pc x.pw).length ≤ 1000000 := by have := chainT_len l x.pc x.pw; omega
        have HCO := Lib.hid fun W v (h : OwnRows stLay W w.heap.size 32 v (chainT l x.pc x.pw)) => contains_own h x.nc x.nw hcl
        rw [hmm] at HCO
        clear HT hmm
        have HT := HT2
        go_wp2_with fail
        refine wp_region_held_drew (S := (fun w' => Below w.heap.size w w' ∧ w'.cell? ⟨nb, 0, none⟩ = some (.int .i64 n.cnt) ∧ w'.cell? ⟨nb, 1, none⟩ = some (.int .i64 n.who) ∧ w'.cell? ⟨nb, 2, none⟩ = some (.bool n.dir) ∧ w'.cell? ⟨nb, 3, none⟩ = some (.int .i64 x.pc) ∧ w'.cell? ⟨nb, 4, none⟩ = some (.int .i64 x.pw) ∧ w'.cell? ⟨nb, 5, none⟩ = some (.string x.name) ∧ w'.cell? ⟨nb, 6, none⟩ = some (.string n.man) ∧ w'.cell? ⟨ob, 4, none⟩ = some (.int .i64 x.nc) ∧ w'.cell? ⟨ob, 5, none⟩ = some (.int .i64 x.nw) ∧ w'.cell? ⟨ob, 7, none⟩ = some (.int .i64 x.pc) ∧ w'.cell? ⟨ob, 8, none⟩ = some (.int .i64 x.pw))) (by kernel_rfl) ⟨belowDrew hb3 1, hN3.2.2 0 _ rfl, hN3.2.2 1 _ rfl, hN3.2.2 2 _ rfl, hN3.2.2 3 _ rfl, hN3.2.2 4 _ rfl, hN3.2.2 5 _ rfl, hN3.2.2 6 _ rfl, hO3.2.2 4 _ rfl, hO3.2.2 5 _ rfl, hO3.2.2 7 _ rfl, hO3.2.2 8 _ rfl⟩ (fun hHeld => ?_)
        refine wpAnyH_take (i := 0) (oi := { dst := some 18, op := Op.load 46 (Operand.tmp 4), type := 46, pos := "tree.go:79", after := #[], guard := none }) (v := ?_) rfl (by kernel_rfl) (by kernel_rfl) (by kernel_rfl) (fun _ _ _ h => h) (Or.inl ⟨by rfl, ?_⟩) (by assumption) ?_
        rotate_left
        · intro w9 hSw
          try dsimp only at hSw
          first | (go_simp; done) | (go_simp; with_reducible rfl)
        try simp only [Act.put, List.setIfInBounds_toArray, List.set_cons_zero, List.set_cons_succ]
        refine wpAnyH_take (i := 1) (oi := { dst := some 19, op := Op.move (Operand.tmp 0), type := 22, pos := "tree.go:79", after := #[], guard := none }) (v := ?_) rfl (by kernel_rfl) (by kernel_rfl) (by kernel_rfl) (fun _ _ _ h => h) (Or.inl ⟨by rfl, ?_⟩) (by assumption) ?_
        rotate_left
        · intro w9 hSw
          try dsimp only at hSw
          first | (go_simp; done) | (go_simp; with_reducible rfl)
        try simp only [Act.put, List.setIfInBounds_toArray, List.set_cons_zero, List.set_cons_succ]
        refine wpAnyH_take (i := 2) (oi := { dst := some 20, op := Op.fieldAddr 43 (Operand.tmp 5) 5, type := 0, pos := "tree.go:79", after := #[], guard := none }) (v := ?_) rfl (by kernel_rfl) (by kernel_rfl) (by kernel_rfl) (fun _ _ _ h => h) (Or.inl ⟨by rfl, ?_⟩) (by assumption) ?_
        rotate_left
        · intro w9 hSw
          try dsimp only at hSw
          first | (go_simp; done) | (go_simp; with_reducible rfl)
        try simp only [Act.put, List.setIfInBounds_toArray, List.set_cons_zero, List.set_cons_succ]
        refine wpAnyH_take (i := 3) (oi := { dst := some 21, op := Op.load 32 (Operand.tmp 20), type := 32, pos := "tree.go:79", after := #[{ on := 2, ground := Ground.data }], guard := none }) (v := ?_) rfl (by kernel_rfl) (by kernel_rfl) (by kernel_rfl) (fun _ _ _ h => h) (Or.inl ⟨by rfl, ?_⟩) (by assumption) ?_
        rotate_left
        · intro w9 hSw
          try dsimp only at hSw
          first | (go_simp; done) | (go_simp; with_reducible rfl)
        try simp only [Act.put, List.setIfInBounds_toArray, List.set_cons_zero, List.set_cons_succ]
        refine wpAnyH_ready (rs := [4]) (by kernel_rfl) (by simp) ?_
        refine AllReadyH.cons (o := { dst := some 22, op := Op.call { callee := Callee.value (Operand.func 49), args := #[Operand.tmp 19, Operand.tmp 21], argTypes := #[22, 32] }, type := 4, pos := "tree.go:79", after := #[{ on := 1, ground := Ground.data }, { on := 3, ground := Ground.data }], guard := none }) rfl (fun K hK => ?_) ?_
        · rw [if_pos (by first | rfl | simp [Region.wanted])]
          go_simp
          go_at_call 49
          refine (HTK.out _ (belowDrew hb3 1)).mono ?_
          rintro e w5 ⟨rfl, hc5⟩
          try dsimp only
          have hN5 := VarAt.keeps (W := wc.drew) hN3 hc5 hN3.1
          have hO5 := VarAt.keeps (W := wc.drew) hO3 hc5 hO3.1
          have hR5 := VarAt.keeps (W := wc.drew) hR3 hc5 hR3.1
          have hb5 : Below w.heap.size w _ := (show Below w.heap.size w wc.drew from belowDrew hb3 1).trans (hc5.mono (show w.heap.size ≤ wc.drew.heap.size from hb3.size))
          refine hK.out _ _ ?_ (fun hHeld2 => ?_)
          · exact ⟨hb5, hN5.2.2 0 _ rfl, hN5.2.2 1 _ rfl, hN5.2.2 2 _ rfl, hN5.2.2 3 _ rfl, hN5.2.2 4 _ rfl, hN5.2.2 5 _ rfl, hN5.2.2 6 _ rfl, hO5.2.2 4 _ rfl, hO5.2.2 5 _ rfl, hO5.2.2 7 _ rfl, hO5.2.2 8 _ rfl⟩
          clear hK K hHeld
          have hHeld := hHeld2
          clear hHeld2
          try simp only [Act.put, List.setIfInBounds_toArray, List.set_cons_zero, List.set_cons_succ]
          refine wpAnyH_take (i := 5) (oi := { dst := some 23, op := Op.move (Operand.tmp 22), type := 4, pos := "tree.go:79", after := #[{ on := 4, ground := Ground.data }, { on := 4, ground := Ground.chain }], guard := none }) (v := ?_) rfl (by kernel_rfl) (by kernel_rfl) (by kernel_rfl) (fun _ _ _ h => h) (Or.inl ⟨by rfl, ?_⟩) (by assumption) ?_
          rotate_left
          · intro w9 hSw
            try dsimp only at hSw
            first | (go_simp; done) | (go_simp; with_reducible rfl)
          try simp only [Act.put, List.setIfInBounds_toArray, List.set_cons_zero, List.set_cons_succ]
          refine wpAnyH_take (i := 6) (oi := { dst := some 24, op := Op.move (Operand.tmp 0), type := 22, pos := "tree.go:79", after := #[{ on := 5, ground := Ground.guard }], guard := some (5, true) }) (v := ?_) rfl (by kernel_rfl) (by kernel_rfl) (by kernel_rfl) (fun _ _ _ h => h) (Or.inl ⟨by rfl, ?_⟩) (by assumption) ?_
          rotate_left
          · intro w9 hSw
            try dsimp only at hSw
            first | (go_simp; done) | (go_simp; with_reducible rfl)
          try simp only [Act.put, List.setIfInBounds_toArray, List.set_cons_zero, List.set_cons_succ]
          refine wpAnyH_take (i := 7) (oi := { dst := some 25, op := Op.fieldAddr 43 (Operand.tmp 5) 5, type := 0, pos := "tree.go:79", after := #[{ on := 5, ground := Ground.guard }], guard := some (5, true) }) (v := ?_) rfl (by kernel_rfl) (by kernel_rfl) (by kernel_rfl) (fun _ _ _ h => h) (Or.inl ⟨by rfl, ?_⟩) (by assumption) ?_
          rotate_left
          · intro w9 hSw
            try dsimp only at hSw
            first | (go_simp; done) | (go_simp; with_reducible rfl)
          try simp only [Act.put, List.setIfInBounds_toArray, List.set_cons_zero, List.set_cons_succ]
          refine wpAnyH_take (i := 8) (oi := { dst := some 26, op := Op.load 32 (Operand.tmp 25), type := 32, pos := "tree.go:79", after := #[{ on := 7, ground := Ground.data }, { on := 5, ground := Ground.guard }], guard := some (5, true) }) (v := ?_) rfl (by kernel_rfl) (by kernel_rfl) (by kernel_rfl) (fun _ _ _ h => h) (Or.inl ⟨by rfl, ?_⟩) (by assumption) ?_
          rotate_left
          · intro w9 hSw
            try dsimp only at hSw
            first | (go_simp; done) | (go_simp; with_reducible rfl)
          try simp only [Act.put, List.setIfInBounds_toArray, List.set_cons_zero, List.set_cons_succ]
          refine wpAnyH_take (i := 10) (oi := { dst := some 28, op := Op.fieldAddr 43 (Operand.tmp 5) 3, type := 0, pos := "tree.go:79", after := #[{ on := 5, ground := Ground.guard }], guard := some (5, true) }) (v := ?_) rfl (by kernel_rfl) (by kernel_rfl) (by kernel_rfl) (fun _ _ _ h => h) (Or.inl ⟨by rfl, ?_⟩) (by assumption) ?_
          rotate_left
          · intro w9 hSw
            try dsimp only at hSw
            first | (go_simp; done) | (go_simp; with_reducible rfl)
          try simp only [Act.put, List.setIfInBounds_toArray, List.set_cons_zero, List.set_cons_succ]
          refine wpAnyH_take (i := 11) (oi := { dst := some 29, op := Op.load 32 (Operand.tmp 28), type := 32, pos := "tree.go:79", after := #[{ on := 10, ground := Ground.data }, { on := 5, ground := Ground.guard }], guard := some (5, true) }) (v := ?_) rfl (by kernel_rfl) (by kernel_rfl) (by kernel_rfl) (fun _ _ _ h => h) (Or.inl ⟨by rfl, ?_⟩) (by assumption) ?_
          rotate_left
          · intro w9 hSw
            try dsimp only at hSw
            first | (go_simp; done) | (go_simp; with_reducible rfl)
          try simp only [Act.put, List.setIfInBounds_toArray, List.set_cons_zero, List.set_cons_succ]
          refine wpAnyH_ready (rs := [9]) (by kernel_rfl) (by simp) ?_
          refine AllReadyH.cons (o := { dst := some 27, op := Op.call { callee := Callee.value (Operand.func 25), args := #[Operand.tmp 24, Operand.tmp 26], argTypes := #[22, 32] }, type := 54, pos := "tree.go:79", after := #[{ on := 6, ground := Ground.data }, { on := 8, ground := Ground.data }, { on := 5, ground := Ground.chain }, { on := 5, ground := Ground.guard }], guard := some (5, true) }) rfl (fun K hK => ?_) ?_
          · rw [if_pos (by first | rfl | simp [Region.wanted])]
            go_simp
            go_at_call 25
            refine (HCH.out _ hb5).mono ?_
            rintro e w6 ⟨v6, rfl, ho6, hc6⟩
            try dsimp only
            have hN6 := VarAt.keeps (W := w5) hN5 hc6 hN5.1
            have hO6 := VarAt.keeps (W := w5) hO5 hc6 hO5.1
            have hR6 := VarAt.keeps (W := w5) hR5 hc6 hR5.1
            have hb6 : Below w.heap.size w _ := (show Below w.heap.size w w5 from hb5).trans (hc6.mono (show w.heap.size ≤ w5.heap.size from hb5.size))
            have ho6b := ho6.lower (show w.heap.size ≤ w5.heap.size from hb5.size)
            refine hK.out _ _ ?_ (fun hHeld2 => ?_)
            · exact ⟨hb6, hN6.2.2 0 _ rfl, hN6.2.2 1 _ rfl, hN6.2.2 2 _ rfl, hN6.2.2 3 _ rfl, hN6.2.2 4 _ rfl, hN6.2.2 5 _ rfl, hN6.2.2 6 _ rfl, hO6.2.2 4 _ rfl, hO6.2.2 5 _ rfl, hO6.2.2 7 _ rfl, hO6.2.2 8 _ rfl⟩
            clear hK K hHeld
            have hHeld := hHeld2
            clear hHeld2
            try simp only [Act.put, List.setIfInBounds_toArray, List.set_cons_zero, List.set_cons_succ]
            refine wpAnyH_ready (rs := [12]) (by kernel_rfl) (by simp) ?_
            refine AllReadyH.cons (o := { dst := some 30, op := Op.call { callee := Callee.value (Operand.func 72), args := #[Operand.tmp 27, Operand.tmp 29], argTypes := #[54, 32] }, type := 4, pos := "tree.go:79", after := #[{ on := 9, ground := Ground.data }, { on := 11, ground := Ground.data }, { on := 9, ground := Ground.chain }, { on := 5, ground := Ground.guard }], guard := some (5, true) }) rfl (fun K hK => ?_) ?_
            · rw [if_pos (by first | rfl | simp [Region.wanted])]
              go_simp
              go_at_call 72
              refine (HCO.out _ _ ho6b).mono ?_
              rintro e w7 ⟨rfl, hc7⟩
              try dsimp only
              have hN7 := VarAt.keeps (W := w6) hN6 hc7 hN6.1
              have hO7 := VarAt.keeps (W := w6) hO6 hc7 hO6.1
              have hR7 := VarAt.keeps (W := w6) hR6 hc7 hR6.1
              have hb7 : Below w.heap.size w _ := (show Below w.heap.size w w6 from hb6).trans (hc7.mono (show w.heap.size ≤ w6.heap.size from hb6.size))
              refine hK.out _ _ ?_ (fun hHeld2 => ?_)
              · exact ⟨hb7, hN7.2.2 0 _ rfl, hN7.2.2 1 _ rfl, hN7.2.2 2 _ rfl, hN7.2.2 3 _ rfl, hN7.2.2 4 _ rfl, hN7.2.2 5 _ rfl, hN7.2.2 6 _ rfl, hO7.2.2 4 _ rfl, hO7.2.2 5 _ rfl, hO7.2.2 7 _ rfl, hO7.2.2 8 _ rfl⟩
              clear hK K hHeld
              have hHeld := hHeld2
              clear hHeld2
              try simp only [Act.put, List.setIfInBounds_toArray, List.set_cons_zero, List.set_cons_succ]
              refine wpAnyH_take (i := 13) (oi := { dst := some 31, op := Op.unOp UnOp.not 4 (Operand.tmp 30), type := 4, pos := "tree.go:79", after := #[{ on := 12, ground := Ground.data }, { on := 5, ground := Ground.guard }, { on := 15, ground := Ground.gcOnly Departure.lateStores }], guard := some (5, true) }) (v := ?_) rfl (by kernel_rfl) (by kernel_rfl) (by kernel_rfl) (fun _ _ _ h => h) (Or.inl ⟨by rfl, ?_⟩) (by assumption) ?_
              rotate_left
              · intro w9 hSw
                try dsimp only at hSw
                first | (go_simp; done) | (go_simp; with_reducible rfl)
              try simp only [Act.put, List.setIfInBounds_toArray, List.set_cons_zero, List.set_cons_succ]
              refine wpAnyH_take (i := 14) (oi := { dst := some 32, op := Op.pick (Operand.tmp 23) (Operand.tmp 31) (Operand.const (Value.bool false)), type := 4, pos := "tree.go:79", after := #[{ on := 5, ground := Ground.data }, { on := 13, ground := Ground.data }, { on := 15, ground := Ground.gcOnly Departure.lateStores }], guard := none }) (v := ?_) rfl (by kernel_rfl) (by kernel_rfl) (by kernel_rfl) (fun _ _ _ h => h) (Or.inl ⟨by rfl, ?_⟩) (by assumption) ?_
              rotate_left
              · intro w9 hSw
                try dsimp only at hSw
                first | (go_simp; done) | (go_simp; with_reducible rfl)
              try simp only [Act.put, List.setIfInBounds_toArray, List.set_cons_zero, List.set_cons_succ]
              refine wpAnyH_ready (rs := [15]) (by kernel_rfl) (by simp) ?_
              refine AllReadyH.cons (o := { dst := none, op := Op.store 46 (Operand.tmp 6) (Operand.tmp 18), type := 0, pos := "tree.go:79", after := #[{ on := 0, ground := Ground.data }, { on := 12, ground := Ground.chain }, { on := 0, ground := Ground.phase }, { on := 1, ground := Ground.textOnly Departure.lateStores }, { on := 2, ground := Ground.textOnly Departure.lateStores }, { on := 3, ground := Ground.textOnly Departure.lateStores }, { on := 4, ground := Ground.textOnly Departure.lateStoresUnsure }, { on := 5, ground := Ground.textOnly Departure.lateStores }, { on := 6, ground := Ground.textOnly Departure.lateStores }, { on := 7, ground := Ground.textOnly Departure.lateStores }, { on := 8, ground := Ground.textOnly Departure.lateStores }, { on := 9, ground := Ground.textOnly Departure.lateStoresUnsure }, { on := 10, ground := Ground.textOnly Departure.lateStores }, { on := 11, ground := Ground.textOnly Departure.lateStores }, { on := 12, ground := Ground.textOnly Departure.lateStoresUnsure }, { on := 13, ground := Ground.textOnly Departure.lateStores }, { on := 14, ground := Ground.textOnly Departure.lateStores }], guard := none }) rfl (fun K hK => ?_) ?_
              · have f0 := hR7.2.2 0 _ rfl
                have f1 := hR7.2.2 1 _ rfl
                have f2 := hR7.2.2 2 _ rfl
                have f3 := hR7.2.2 3 _ rfl
                have f4 := hR7.2.2 4 _ rfl
                have f5 := hR7.2.2 5 _ rfl
                have f6 := hR7.2.2 6 _ rfl
                have ff := hR7.2.1
                go_simp
                have hNp := hN7.putOther (b := rb) [.int .i64 n.cnt, .int .i64 n.who, .bool n.dir, .int .i64 x.pc, .int .i64 x.pw, .string x.name, .string n.man] 0 hnr
                have hOp := hO7.putOther (b := rb) [.int .i64 n.cnt, .int .i64 n.who, .bool n.dir, .int .i64 x.pc, .int .i64 x.pw, .string x.name, .string n.man] 0 hor
                have hRp := hR7.put [.int .i64 n.cnt, .int .i64 n.who, .bool n.dir, .int .i64 x.pc, .int .i64 x.pw, .string x.name, .string n.man] rfl
                have hbp := belowPut (b := rb) hb7 [.int .i64 n.cnt, .int .i64 n.who, .bool n.dir, .int .i64 x.pc, .int .i64 x.pw, .string x.name, .string n.man] 0 (by have := Hrb.out; omega)
                simp only [putRow, Nat.zero_add, Nat.reduceAdd] at hNp hOp hRp hbp
                refine hK.out _ _ ?_ (fun hHeld2 => ?_)
                · exact ⟨hbp, hNp.2.2 0 _ rfl, hNp.2.2 1 _ rfl, hNp.2.2 2 _ rfl, hNp.2.2 3 _ rfl, hNp.2.2 4 _ rfl, hNp.2.2 5 _ rfl, hNp.2.2 6 _ rfl, hOp.2.2 4 _ rfl, hOp.2.2 5 _ rfl, hOp.2.2 7 _ rfl, hOp.2.2 8 _ rfl⟩
                clear hK K hHeld
                have hHeld := hHeld2
                clear hHeld2
                try simp only [Act.put, List.setIfInBounds_toArray, List.set_cons_zero, List.set_cons_succ]
                refine wpAnyH_take (i := 16) (oi := { dst := some 7, op := Op.assign (Operand.tmp 32), type := 4, pos := "tree.go:79", after := #[{ on := 14, ground := Ground.data }, { on := 15, ground := Ground.chain }, { on := 0, ground := Ground.phase }, { on := 1, ground := Ground.phase }, { on := 2, ground := Ground.phase }, { on := 3, ground := Ground.phase }, { on := 4, ground := Ground.phase }, { on := 5, ground := Ground.phase }, { on := 6, ground := Ground.phase }, { on := 7, ground := Ground.phase }, { on := 8, ground := Ground.phase }, { on := 9, ground := Ground.phase }, { on := 10, ground := Ground.phase }, { on := 11, ground := Ground.phase }, { on := 12, ground := Ground.phase }, { on := 13, ground := Ground.phase }, { on := 14, ground := Ground.phase }, { on := 15, ground := Ground.phase }], guard := none }) (v := ?_) rfl (by kernel_rfl) (by kernel_rfl) (by kernel_rfl) (fun _ _ _ h => h) (Or.inl ⟨by rfl, ?_⟩) (by assumption) ?_
                rotate_left
                · intro w9 hSw
                  try dsimp only at hSw
                  first | (go_simp; done) | (go_simp; with_reducible rfl)
                try simp only [Act.put, List.setIfInBounds_toArray, List.set_cons_zero, List.set_cons_succ]
                refine wpAnyH_done (by kernel_rfl) ?_ _
                have e0 := hRp.2.2 0 _ rfl
                have e1 := hRp.2.2 1 _ rfl
                have e2 := hRp.2.2 2 _ rfl
                have e3 := hRp.2.2 3 _ rfl
                have e4 := hRp.2.2 4 _ rfl
                have e5 := hRp.2.2 5 _ rfl
                have e6 := hRp.2.2 6 _ rfl
                go_wp2_with fail
                refine bodyPost_ret (v := .tuple #[.agg #[.int .i64 n.cnt, .int .i64 n.who, .bool n.dir, .int .i64 x.pc, .int .i64 x.pw, .string x.name, .string n.man], .bool (!mm)]) (by simp [results, Tryd.results52, go_sem, e0, e1, e2, e3, e4, e5, e6]) rfl ⟨by rw [HT.out]; rfl, hbp⟩
              exact AllReadyH.nil
            exact AllReadyH.nil
          exact AllReadyH.nil
        exact AllReadyH.nil
      | false =>
        have HT2 := Lib.hid (show r = ({ n with pc := x.pc, pw := x.pw, name := x.name }, false) by rw [HT.out, HTF.out]; rfl)
        clear HT
        have HT := HT2
        go_wp2_with fail
        refine wp_region_held_drew (S := (fun w' => Below w.heap.size w w' ∧ w'.cell? ⟨nb, 0, none⟩ = some (.int .i64 n.cnt) ∧ w'.cell? ⟨nb, 1, none⟩ = some (.int .i64 n.who) ∧ w'.cell? ⟨nb, 2, none⟩ = some (.bool n.dir) ∧ w'.cell? ⟨nb, 3, none⟩ = some (.int .i64 x.pc) ∧ w'.cell? ⟨nb, 4, none⟩ = some (.int .i64 x.pw) ∧ w'.cell? ⟨nb, 5, none⟩ = some (.string x.name) ∧ w'.cell? ⟨nb, 6, none⟩ = some (.string n.man) ∧ w'.cell? ⟨ob, 4, none⟩ = some (.int .i64 x.nc) ∧ w'.cell? ⟨ob, 5, none⟩ = some (.int .i64 x.nw) ∧ w'.cell? ⟨ob, 7, none⟩ = some (.int .i64 x.pc) ∧ w'.cell? ⟨ob, 8, none⟩ = some (.int .i64 x.pw))) (by kernel_rfl) ⟨belowDrew hb3 1, hN3.2.2 0 _ rfl, hN3.2.2 1 _ rfl, hN3.2.2 2 _ rfl, hN3.2.2 3 _ rfl, hN3.2.2 4 _ rfl, hN3.2.2 5 _ rfl, hN3.2.2 6 _ rfl, hO3.2.2 4 _ rfl, hO3.2.2 5 _ rfl, hO3.2.2 7 _ rfl, hO3.2.2 8 _ rfl⟩ (fun hHeld => ?_)
        refine wpAnyH_take (i := 0) (oi := { dst := some 18, op := Op.load 46 (Operand.tmp 4), type := 46, pos := "tree.go:79", after := #[], guard := none }) (v := ?_) rfl (by kernel_rfl) (by kernel_rfl) (by kernel_rfl) (fun _ _ _ h => h) (Or.inl ⟨by rfl, ?_⟩) (by assumption) ?_
        rotate_left
        · intro w9 hSw
          try dsimp only at hSw
          first | (go_simp; done) | (go_simp; with_reducible rfl)
        try simp only [Act.put, List.setIfInBounds_toArray, List.set_cons_zero, List.set_cons_succ]
        refine wpAnyH_take (i := 1) (oi := { dst := some 19, op := Op.move (Operand.tmp 0), type := 22, pos := "tree.go:79", after := #[], guard := none }) (v := ?_) rfl (by kernel_rfl) (by kernel_rfl) (by kernel_rfl) (fun _ _ _ h => h) (Or.inl ⟨by rfl, ?_⟩) (by assumption) ?_
        rotate_left
        · intro w9 hSw
          try dsimp only at hSw
          first | (go_simp; done) | (go_simp; with_reducible rfl)
        try simp only [Act.put, List.setIfInBounds_toArray, List.set_cons_zero, List.set_cons_succ]
        refine wpAnyH_take (i := 2) (oi := { dst := some 20, op := Op.fieldAddr 43 (Operand.tmp 5) 5, type := 0, pos := "tree.go:79", after := #[], guard := none }) (v := ?_) rfl (by kernel_rfl) (by kernel_rfl) (by kernel_rfl) (fun _ _ _ h => h) (Or.inl ⟨by rfl, ?_⟩) (by assumption) ?_
        rotate_left
        · intro w9 hSw
          try dsimp only at hSw
          first | (go_simp; done) | (go_simp; with_reducible rfl)
        try simp only [Act.put, List.setIfInBounds_toArray, List.set_cons_zero, List.set_cons_succ]
        refine wpAnyH_take (i := 3) (oi := { dst := some 21, op := Op.load 32 (Operand.tmp 20), type := 32, pos := "tree.go:79", after := #[{ on := 2, ground := Ground.data }], guard := none }) (v := ?_) rfl (by kernel_rfl) (by kernel_rfl) (by kernel_rfl) (fun _ _ _ h => h) (Or.inl ⟨by rfl, ?_⟩) (by assumption) ?_
        rotate_left
        · intro w9 hSw
          try dsimp only at hSw
          first | (go_simp; done) | (go_simp; with_reducible rfl)
        try simp only [Act.put, List.setIfInBounds_toArray, List.set_cons_zero, List.set_cons_succ]
        refine wpAnyH_ready (rs := [4]) (by kernel_rfl) (by simp) ?_
        refine AllReadyH.cons (o := { dst := some 22, op := Op.call { callee := Callee.value (Operand.func 49), args := #[Operand.tmp 19, Operand.tmp 21], argTypes := #[22, 32] }, type := 4, pos := "tree.go:79", after := #[{ on := 1, ground := Ground.data }, { on := 3, ground := Ground.data }], guard := none }) rfl (fun K hK => ?_) ?_
        · rw [if_pos (by first | rfl | simp [Region.wanted])]
          go_simp
          go_at_call 49
          refine (HTK.out _ (belowDrew hb3 1)).mono ?_
          rintro e w5 ⟨rfl, hc5⟩
          try dsimp only
          have hN5 := VarAt.keeps (W := wc.drew) hN3 hc5 hN3.1
          have hO5 := VarAt.keeps (W := wc.drew) hO3 hc5 hO3.1
          have hR5 := VarAt.keeps (W := wc.drew) hR3 hc5 hR3.1
          have hb5 : Below w.heap.size w _ := (show Below w.heap.size w wc.drew from belowDrew hb3 1).trans (hc5.mono (show w.heap.size ≤ wc.drew.heap.size from hb3.size))
          refine hK.out _ _ ?_ (fun hHeld2 => ?_)
          · exact ⟨hb5, hN5.2.2 0 _ rfl, hN5.2.2 1 _ rfl, hN5.2.2 2 _ rfl, hN5.2.2 3 _ rfl, hN5.2.2 4 _ rfl, hN5.2.2 5 _ rfl, hN5.2.2 6 _ rfl, hO5.2.2 4 _ rfl, hO5.2.2 5 _ rfl, hO5.2.2 7 _ rfl, hO5.2.2 8 _ rfl⟩
          clear hK K hHeld
          have hHeld := hHeld2
          clear hHeld2
          try simp only [Act.put, List.setIfInBounds_toArray, List.set_cons_zero, List.set_cons_succ]
          refine wpAnyH_take (i := 5) (oi := { dst := some 23, op := Op.move (Operand.tmp 22), type := 4, pos := "tree.go:79", after := #[{ on := 4, ground := Ground.data }, { on := 4, ground := Ground.chain }], guard := none }) (v := ?_) rfl (by kernel_rfl) (by kernel_rfl) (by kernel_rfl) (fun _ _ _ h => h) (Or.inl ⟨by rfl, ?_⟩) (by assumption) ?_
          rotate_left
          · intro w9 hSw
            try dsimp only at hSw
            first | (go_simp; done) | (go_simp; with_reducible rfl)
          try simp only [Act.put, List.setIfInBounds_toArray, List.set_cons_zero, List.set_cons_succ]
          refine wpAnyH_take (i := 6) (oi := { dst := some 24, op := Op.move (Operand.tmp 0), type := 22, pos := "tree.go:79", after := #[{ on := 5, ground := Ground.guard }], guard := some (5, true) }) (v := undef) rfl (by kernel_rfl) (by kernel_rfl) (by kernel_rfl) (fun _ _ _ h => h) (Or.inr ⟨by rfl, rfl⟩) (by assumption) ?_
          try simp only [Act.put, List.setIfInBounds_toArray, List.set_cons_zero, List.set_cons_succ]
          refine wpAnyH_take (i := 7) (oi := { dst := some 25, op := Op.fieldAddr 43 (Operand.tmp 5) 5, type := 0, pos := "tree.go:79", after := #[{ on := 5, ground := Ground.guard }], guard := some (5, true) }) (v := undef) rfl (by kernel_rfl) (by kernel_rfl) (by kernel_rfl) (fun _ _ _ h => h) (Or.inr ⟨by rfl, rfl⟩) (by assumption) ?_
          try simp only [Act.put, List.setIfInBounds_toArray, List.set_cons_zero, List.set_cons_succ]
          refine wpAnyH_take (i := 8) (oi := { dst := some 26, op := Op.load 32 (Operand.tmp 25), type := 32, pos := "tree.go:79", after := #[{ on := 7, ground := Ground.data }, { on := 5, ground := Ground.guard }], guard := some (5, true) }) (v := undef) rfl (by kernel_rfl) (by kernel_rfl) (by kernel_rfl) (fun _ _ _ h => h) (Or.inr ⟨by rfl, rfl⟩) (by assumption) ?_
          try simp only [Act.put, List.setIfInBounds_toArray, List.set_cons_zero, List.set_cons_succ]
          refine wpAnyH_take (i := 9) (oi := { dst := some 27, op := Op.call { callee := Callee.value (Operand.func 25), args := #[Operand.tmp 24, Operand.tmp 26], argTypes := #[22, 32] }, type := 54, pos := "tree.go:79", after := #[{ on := 6, ground := Ground.data }, { on := 8, ground := Ground.data }, { on := 5, ground := Ground.chain }, { on := 5, ground := Ground.guard }], guard := some (5, true) }) (v := undef) rfl (by kernel_rfl) (by kernel_rfl) (by kernel_rfl) (fun _ _ _ h => h) (Or.inr ⟨by rfl, rfl⟩) (by assumption) ?_
          try simp only [Act.put, List.setIfInBounds_toArray, List.set_cons_zero, List.set_cons_succ]
          refine wpAnyH_take (i := 10) (oi := { dst := some 28, op := Op.fieldAddr 43 (Operand.tmp 5) 3, type := 0, pos := "tree.go:79", after := #[{ on := 5, ground := Ground.guard }], guard := some (5, true) }) (v := undef) rfl (by kernel_rfl) (by kernel_rfl) (by kernel_rfl) (fun _ _ _ h => h) (Or.inr ⟨by rfl, rfl⟩) (by assumption) ?_
          try simp only [Act.put, List.setIfInBounds_toArray, List.set_cons_zero, List.set_cons_succ]
          refine wpAnyH_take (i := 11) (oi := { dst := some 29, op := Op.load 32 (Operand.tmp 28), type := 32, pos := "tree.go:79", after := #[{ on := 10, ground := Ground.data }, { on := 5, ground := Ground.guard }], guard := some (5, true) }) (v := undef) rfl (by kernel_rfl) (by kernel_rfl) (by kernel_rfl) (fun _ _ _ h => h) (Or.inr ⟨by rfl, rfl⟩) (by assumption) ?_
          try simp only [Act.put, List.setIfInBounds_toArray, List.set_cons_zero, List.set_cons_succ]
          refine wpAnyH_take (i := 12) (oi := { dst := some 30, op := Op.call { callee := Callee.value (Operand.func 72), args := #[Operand.tmp 27, Operand.tmp 29], argTypes := #[54, 32] }, type := 4, pos := "tree.go:79", after := #[{ on := 9, ground := Ground.data }, { on := 11, ground := Ground.data }, { on := 9, ground := Ground.chain }, { on := 5, ground := Ground.guard }], guard := some (5, true) }) (v := undef) rfl (by kernel_rfl) (by kernel_rfl) (by kernel_rfl) (fun _ _ _ h => h) (Or.inr ⟨by rfl, rfl⟩) (by assumption) ?_
          try simp only [Act.put, List.setIfInBounds_toArray, List.set_cons_zero, List.set_cons_succ]
          refine wpAnyH_take (i := 13) (oi := { dst := some 31, op := Op.unOp UnOp.not 4 (Operand.tmp 30), type := 4, pos := "tree.go:79", after := #[{ on := 12, ground := Ground.data }, { on := 5, ground := Ground.guard }, { on := 15, ground := Ground.gcOnly Departure.lateStores }], guard := some (5, true) }) (v := undef) rfl (by kernel_rfl) (by kernel_rfl) (by kernel_rfl) (fun _ _ _ h => h) (Or.inr ⟨by rfl, rfl⟩) (by assumption) ?_
          try simp only [Act.put, List.setIfInBounds_toArray, List.set_cons_zero, List.set_cons_succ]
          refine wpAnyH_take (i := 14) (oi := { dst := some 32, op := Op.pick (Operand.tmp 23) (Operand.tmp 31) (Operand.const (Value.bool false)), type := 4, pos := "tree.go:79", after := #[{ on := 5, ground := Ground.data }, { on := 13, ground := Ground.data }, { on := 15, ground := Ground.gcOnly Departure.lateStores }], guard := none }) (v := ?_) rfl (by kernel_rfl) (by kernel_rfl) (by kernel_rfl) (fun _ _ _ h => h) (Or.inl ⟨by rfl, ?_⟩) (by assumption) ?_
          rotate_left
          · intro w9 hSw
            try dsimp only at hSw
            first | (go_simp; done) | (go_simp; with_reducible rfl)
          try simp only [Act.put, List.setIfInBounds_toArray, List.set_cons_zero, List.set_cons_succ]
          refine wpAnyH_ready (rs := [15]) (by kernel_rfl) (by simp) ?_
          refine AllReadyH.cons (o := { dst := none, op := Op.store 46 (Operand.tmp 6) (Operand.tmp 18), type := 0, pos := "tree.go:79", after := #[{ on := 0, ground := Ground.data }, { on := 12, ground := Ground.chain }, { on := 0, ground := Ground.phase }, { on := 1, ground := Ground.textOnly Departure.lateStores }, { on := 2, ground := Ground.textOnly Departure.lateStores }, { on := 3, ground := Ground.textOnly Departure.lateStores }, { on := 4, ground := Ground.textOnly Departure.lateStoresUnsure }, { on := 5, ground := Ground.textOnly Departure.lateStores }, { on := 6, ground := Ground.textOnly Departure.lateStores }, { on := 7, ground := Ground.textOnly Departure.lateStores }, { on := 8, ground := Ground.textOnly Departure.lateStores }, { on := 9, ground := Ground.textOnly Departure.lateStoresUnsure }, { on := 10, ground := Ground.textOnly Departure.lateStores }, { on := 11, ground := Ground.textOnly Departure.lateStores }, { on := 12, ground := Ground.textOnly Departure.lateStoresUnsure }, { on := 13, ground := Ground.textOnly Departure.lateStores }, { on := 14, ground := Ground.textOnly Departure.lateStores }], guard := none }) rfl (fun K hK => ?_) ?_
          · have f0 := hR5.2.2 0 _ rfl
            have f1 := hR5.2.2 1 _ rfl
            have f2 := hR5.2.2 2 _ rfl
            have f3 := hR5.2.2 3 _ rfl
            have f4 := hR5.2.2 4 _ rfl
            have f5 := hR5.2.2 5 _ rfl
            have f6 := hR5.2.2 6 _ rfl
            have ff := hR5.2.1
            go_simp
            have hNp := hN5.putOther (b := rb) [.int .i64 n.cnt, .int .i64 n.who, .bool n.dir, .int .i64 x.pc, .int .i64 x.pw, .string x.name, .string n.man] 0 hnr
            have hOp := hO5.putOther (b := rb) [.int .i64 n.cnt, .int .i64 n.who, .bool n.dir, .int .i64 x.pc, .int .i64 x.pw, .string x.name, .string n.man] 0 hor
            have hRp := hR5.put [.int .i64 n.cnt, .int .i64 n.who, .bool n.dir, .int .i64 x.pc, .int .i64 x.pw, .string x.name, .string n.man] rfl
            have hbp := belowPut (b := rb) hb5 [.int .i64 n.cnt, .int .i64 n.who, .bool n.dir, .int .i64 x.pc, .int .i64 x.pw, .string x.name, .string n.man] 0 (by have := Hrb.out; omega)
            simp only [putRow, Nat.zero_add, Nat.reduceAdd] at hNp hOp hRp hbp
            refine hK.out _ _ ?_ (fun hHeld2 => ?_)
            · exact ⟨hbp, hNp.2.2 0 _ rfl, hNp.2.2 1 _ rfl, hNp.2.2 2 _ rfl, hNp.2.2 3 _ rfl, hNp.2.2 4 _ rfl, hNp.2.2 5 _ rfl, hNp.2.2 6 _ rfl, hOp.2.2 4 _ rfl, hOp.2.2 5 _ rfl, hOp.2.2 7 _ rfl, hOp.2.2 8 _ rfl⟩
            clear hK K hHeld
            have hHeld := hHeld2
            clear hHeld2
            try simp only [Act.put, List.setIfInBounds_toArray, List.set_cons_zero, List.set_cons_succ]
            refine wpAnyH_take (i := 16) (oi := { dst := some 7, op := Op.assign (Operand.tmp 32), type := 4, pos := "tree.go:79", after := #[{ on := 14, ground := Ground.data }, { on := 15, ground := Ground.chain }, { on := 0, ground := Ground.phase }, { on := 1, ground := Ground.phase }, { on := 2, ground := Ground.phase }, { on := 3, ground := Ground.phase }, { on := 4, ground := Ground.phase }, { on := 5, ground := Ground.phase }, { on := 6, ground := Ground.phase }, { on := 7, ground := Ground.phase }, { on := 8, ground := Ground.phase }, { on := 9, ground := Ground.phase }, { on := 10, ground := Ground.phase }, { on := 11, ground := Ground.phase }, { on := 12, ground := Ground.phase }, { on := 13, ground := Ground.phase }, { on := 14, ground := Ground.phase }, { on := 15, ground := Ground.phase }], guard := none }) (v := ?_) rfl (by kernel_rfl) (by kernel_rfl) (by kernel_rfl) (fun _ _ _ h => h) (Or.inl ⟨by rfl, ?_⟩) (by assumption) ?_
            rotate_left
            · intro w9 hSw
              try dsimp only at hSw
              first | (go_simp; done) | (go_simp; with_reducible rfl)
            try simp only [Act.put, List.setIfInBounds_toArray, List.set_cons_zero, List.set_cons_succ]
            refine wpAnyH_done (by kernel_rfl) ?_ _
            have e0 := hRp.2.2 0 _ rfl
            have e1 := hRp.2.2 1 _ rfl
            have e2 := hRp.2.2 2 _ rfl
            have e3 := hRp.2.2 3 _ rfl
            have e4 := hRp.2.2 4 _ rfl
            have e5 := hRp.2.2 5 _ rfl
            have e6 := hRp.2.2 6 _ rfl
            go_wp2_with fail
            refine bodyPost_ret (v := .tuple #[.agg #[.int .i64 n.cnt, .int .i64 n.who, .bool n.dir, .int .i64 x.pc, .int .i64 x.pw, .string x.name, .string n.man], .bool false]) (by simp [results, Tryd.results52, go_sem, e0, e1, e2, e3, e4, e5, e6]) rfl ⟨by rw [HT.out]; rfl, hbp⟩
          exact AllReadyH.nil
        exact AllReadyH.nil
  by_cases h3 : x.kind = 3
  · have e2 : (x.kind == 2) = false := by rw [h3]; rfl
    have e3 : (x.kind == 3) = true := by rw [h3]; rfl
    have HT := Lib.hid ((HD.out.trans (if_neg h2)).trans (if_pos h3))
    clear h2 h3
    go_enter Tryd.func52, Tryd.ntmps52
    go_upto_region 1 with fail
    rw [← Hrb.out, ← Hob.out, ← Hnb.out, ← HW1.out]
    go_upto_region 7 with fail
    clear n0 n1 n2 n3 n4 n5 n6
    obtain ⟨W3, hW3⟩ : ∃ W, W = (W1.setCell ⟨nb, 6, none⟩ (.string x.man)) := ⟨_, rfl⟩
    have hN3 : VarAt W3 nb [.int .i64 n.cnt, .int .i64 n.who, .bool n.dir, .int .i64 n.pc, .int .i64 n.pw, .string n.name, .string x.man] := by rw [hW3]; exact (hN.set 6 _ (by show 6 < 7; omega))
    have hO3 : VarAt W3 ob [.int .i64 x.cnt, .int .i64 x.who, .int .i64 x.seq, .int .i64 x.kind, .int .i64 x.nc, .int .i64 x.nw, .bool x.dir, .int .i64 x.pc, .int .i64 x.pw, .string x.name, .string x.man] := by rw [hW3]; exact (hO.other _ hno.symm)
    have hR3 : VarAt W3 rb [.int .i64 0, .int .i64 0, .bool false, .int .i64 0, .int .i64 0, .string ⟨#[]⟩, .string ⟨#[]⟩] := by rw [hW3]; exact (hR.other _ hnr.symm)
    have hb3 : Below w.heap.size w W3 := by rw [hW3]; exact (hb.setCell (by have := Hnb.out; show _ ≤ nb; omega) _)
    have HW3 := Lib.hid hW3
    clear hW3 hN hO hR hb
    have n0 := hN3.2.2 0 _ rfl
    have n1 := hN3.2.2 1 _ rfl
    have n2 := hN3.2.2 2 _ rfl
    have n3 := hN3.2.2 3 _ rfl
    have n4 := hN3.2.2 4 _ rfl
    have n5 := hN3.2.2 5 _ rfl
    have n6 := hN3.2.2 6 _ rfl
    have f0 := hR3.2.2 0 _ rfl
    have f1 := hR3.2.2 1 _ rfl
    have f2 := hR3.2.2 2 _ rfl
    have f3 := hR3.2.2 3 _ rfl
    have f4 := hR3.2.2 4 _ rfl
    have f5 := hR3.2.2 5 _ rfl
    have f6 := hR3.2.2 6 _ rfl
    have ff := hR3.2.1
    rw [← HW3.out]
    go_wp2_with fail
    go_region_law (fail)
    all_goals
      go_wp2_with fail
      have hR5 := hR3.put [.int .i64 n.cnt, .int .i64 n.who, .bool n.dir, .int .i64 n.pc, .int .i64 n.pw, .string n.name, .string x.man] rfl
      have hB5 := belowPut (b := rb) hb3 [.int .i64 n.cnt, .int .i64 n.who, .bool n.dir, .int .i64 n.pc, .int .i64 n.pw, .string n.name, .string x.man] 0 (by have := Hrb.out; omega)
      simp only [putRow, Nat.zero_add, Nat.reduceAdd] at hR5 hB5
      have hR6 : VarAt (World.drew _) rb [.int .i64 n.cnt, .int .i64 n.who, .bool n.dir, .int .i64 n.pc, .int .i64 n.pw, .string n.name, .string x.man] := hR5.drew 1
      have hB6 : Below w.heap.size w (World.drew _) := belowDrew hB5 1
      have e0 := hR6.2.2 0 _ rfl
      have e1 := hR6.2.2 1 _ rfl
      have e2 := hR6.2.2 2 _ rfl
      have e3 := hR6.2.2 3 _ rfl
      have e4 := hR6.2.2 4 _ rfl
      have e5 := hR6.2.2 5 _ rfl
      have e6 := hR6.2.2 6 _ rfl
      refine bodyPost_ret (v := .tuple #[.agg #[.int .i64 n.cnt, .int .i64 n.who, .bool n.dir, .int .i64 n.pc, .int .i64 n.pw, .string n.name, .string x.man], .bool (!n.dir)]) (by simp [results, Tryd.results52, go_sem, e0, e1, e2, e3, e4, e5, e6]) rfl ⟨by rw [HT.out]; rfl, hB6⟩
  by_cases h4 : x.kind = 4
  · have e2 : (x.kind == 2) = false := by rw [h4]; rfl
    have e3 : (x.kind == 3) = false := by rw [h4]; rfl
    have e4 : (x.kind == 4) = true := by rw [h4]; rfl
    have HT := Lib.hid (((HD.out.trans (if_neg h2)).trans (if_neg h3)).trans (if_pos h4))
    clear h2 h3 h4
    go_enter Tryd.func52, Tryd.ntmps52
    go_upto_region 1 with fail
    rw [← Hrb.out, ← Hob.out, ← Hnb.out, ← HW1.out]
    have HTR := Lib.hid (trash_any W1)
    go_wp2_with fail
    refine HTR.out.mono ?_
    rintro e w2 ⟨rfl, hbt⟩
    clear n0 n1 n2 n3 n4 n5 n6
    replace hN := hN.keeps hbt hN.1
    replace hO := hO.keeps hbt hO.1
    replace hR := hR.keeps hbt hR.1
    replace hb := hb.trans (hbt.mono hb.size)
    have nf := hN.2.1
    have n0 := hN.2.2 0 _ rfl
    have n1 := hN.2.2 1 _ rfl
    have n2 := hN.2.2 2 _ rfl
    have n3 := hN.2.2 3 _ rfl
    have n4 := hN.2.2 4 _ rfl
    have n5 := hN.2.2 5 _ rfl
    have n6 := hN.2.2 6 _ rfl
    go_upto_region 10 with fail
    clear n0 n1 n2 n3 n4 n5 n6
    obtain ⟨W3, hW3⟩ : ∃ W, W = ((w2.setCell ⟨nb, 3, none⟩ (.int .i64 0)).setCell ⟨nb, 4, none⟩ (.int .i64 1)) := ⟨_, rfl⟩
    have hN3 : VarAt W3 nb [.int .i64 n.cnt, .int .i64 n.who, .bool n.dir, .int .i64 0, .int .i64 1, .string n.name, .string n.man] := by rw [hW3]; exact ((hN.set 3 _ (by show 3 < 7; omega)).set 4 _ (by show 4 < 7; omega))
    have hO3 : VarAt W3 ob [.int .i64 x.cnt, .int .i64 x.who, .int .i64 x.seq, .int .i64 x.kind, .int .i64 x.nc, .int .i64 x.nw, .bool x.dir, .int .i64 x.pc, .int .i64 x.pw, .string x.name, .string x.man] := by rw [hW3]; exact ((hO.other _ hno.symm).other _ hno.symm)
    have hR3 : VarAt W3 rb [.int .i64 0, .int .i64 0, .bool false, .int .i64 0, .int .i64 0, .string ⟨#[]⟩, .string ⟨#[]⟩] := by rw [hW3]; exact ((hR.other _ hnr.symm).other _ hnr.symm)
    have hb3 : Below w.heap.size w W3 := by rw [hW3]; exact ((hb.setCell (by have := Hnb.out; show _ ≤ nb; omega) _).setCell (by have := Hnb.out; show _ ≤ nb; omega) _)
    have HW3 := Lib.hid hW3
    clear hW3 hN hO hR hb
    have n0 := hN3.2.2 0 _ rfl
    have n1 := hN3.2.2 1 _ rfl
    have n2 := hN3.2.2 2 _ rfl
    have n3 := hN3.2.2 3 _ rfl
    have n4 := hN3.2.2 4 _ rfl
    have n5 := hN3.2.2 5 _ rfl
    have n6 := hN3.2.2 6 _ rfl
    have f0 := hR3.2.2 0 _ rfl
    have f1 := hR3.2.2 1 _ rfl
    have f2 := hR3.2.2 2 _ rfl
    have f3 := hR3.2.2 3 _ rfl
    have f4 := hR3.2.2 4 _ rfl
    have f5 := hR3.2.2 5 _ rfl
    have f6 := hR3.2.2 6 _ rfl
    have ff := hR3.2.1
    rw [← HW3.out]
    go_wp2_with fail
    have hR5 := hR3.put [.int .i64 n.cnt, .int .i64 n.who, .bool n.dir, .int .i64 0, .int .i64 1, .string n.name, .string n.man] rfl
    have hB5 := belowPut (b := rb) hb3 [.int .i64 n.cnt, .int .i64 n.who, .bool n.dir, .int .i64 0, .int .i64 1, .string n.name, .string n.man] 0 (by have := Hrb.out; omega)
    simp only [putRow, Nat.zero_add, Nat.reduceAdd] at hR5 hB5
    have e0 := hR5.2.2 0 _ rfl
    have e1 := hR5.2.2 1 _ rfl
    have e2 := hR5.2.2 2 _ rfl
    have e3 := hR5.2.2 3 _ rfl
    have e4 := hR5.2.2 4 _ rfl
    have e5 := hR5.2.2 5 _ rfl
    have e6 := hR5.2.2 6 _ rfl
    refine bodyPost_ret (v := .tuple #[.agg #[.int .i64 n.cnt, .int .i64 n.who, .bool n.dir, .int .i64 0, .int .i64 1, .string n.name, .string n.man], .bool true]) (by simp [results, Tryd.results52, go_sem, e0, e1, e2, e3, e4, e5, e6]) rfl ⟨by rw [HT.out]; rfl, hB5⟩
  · have e2 : (x.kind == 2) = false := by rw [beq_eq_false_iff_ne]; exact h2
    have e3 : (x.kind == 3) = false := by rw [beq_eq_false_iff_ne]; exact h3
    have e4 : (x.kind == 4) = false := by rw [beq_eq_false_iff_ne]; exact h4
    have HT := Lib.hid (((HD.out.trans (if_neg h2)).trans (if_neg h3)).trans (if_neg h4))
    clear h2 h3 h4
    go_enter Tryd.func52, Tryd.ntmps52
    go_upto_region 1 with fail
    rw [← Hrb.out, ← Hob.out, ← Hnb.out, ← HW1.out]
    have ff := hR.2.1
    have f0 := hR.2.2 0 _ rfl
    have f1 := hR.2.2 1 _ rfl
    have f2 := hR.2.2 2 _ rfl
    have f3 := hR.2.2 3 _ rfl
    have f4 := hR.2.2 4 _ rfl
    have f5 := hR.2.2 5 _ rfl
    have f6 := hR.2.2 6 _ rfl
    go_wp2_with fail
    have hR5 := hR.put [.int .i64 n.cnt, .int .i64 n.who, .bool n.dir, .int .i64 n.pc, .int .i64 n.pw, .string n.name, .string n.man] rfl
    have hB5 := belowPut (b := rb) hb [.int .i64 n.cnt, .int .i64 n.who, .bool n.dir, .int .i64 n.pc, .int .i64 n.pw, .string n.name, .string n.man] 0 (by have := Hrb.out; omega)
    simp only [putRow, Nat.zero_add, Nat.reduceAdd] at hR5 hB5
    have e0 := hR5.2.2 0 _ rfl
    have e1 := hR5.2.2 1 _ rfl
    have e2 := hR5.2.2 2 _ rfl
    have e3 := hR5.2.2 3 _ rfl
    have e4 := hR5.2.2 4 _ rfl
    have e5 := hR5.2.2 5 _ rfl
    have e6 := hR5.2.2 6 _ rfl
    refine bodyPost_ret (v := .tuple #[.agg #[.int .i64 n.cnt, .int .i64 n.who, .bool n.dir, .int .i64 n.pc, .int .i64 n.pw, .string n.name, .string n.man], .bool false]) (by simp [results, Tryd.results52, go_sem, e0, e1, e2, e3, e4, e5, e6]) rfl ⟨by rw [HT.out]; rfl, hB5⟩
end Go.Proofs.YtfbdbjookkogjaaDoor

namespace Go.Proofs.YtfbdbjookkogjaaDoor
open Go Go.RowKit Go.Lib
theorem setCells_size (b : Nat) : ∀ (vs : List Value) (o : Nat) (w : World), (w.setCells b o vs).heap.size = w.heap.size
  | [], _, _ => rfl
  | v :: r, o, w => by
    rw [World.setCells, setCells_size b r (o + 1)]
    simp
theorem setCells_below {B : Nat} {W : World} (b : Nat) (hB : B ≤ b) : ∀ (vs : List Value) (o : Nat) (W' : World), Below B W W' → Below B W (W'.setCells b o vs)
  | [], _, _, h => h
  | v :: r, o, _, h => setCells_below b hB r (o + 1) _ (h.setCell (p := ⟨b, o, none⟩) hB v)
theorem rows_set {w : World} {g : Nat} {l : List Nd} {k : Nat} {y : Nd} (h : RowsAt ndLay w (some ⟨g, 0, none⟩) l) (hk : k < l.length) : RowsAt ndLay (w.setCells g (k * 7) y.cells) (some ⟨g, 0, none⟩) (l.set k y) := by
  intro j z hz
  have hjl : j < l.length := by
    have := (List.getElem?_eq_some_iff.1 hz).1
    rwa [List.length_set] at this
  have hgl : g < (w.setCells g (k * 7) y.cells).heap.size := by
    obtain ⟨b, off, e, hlt, _⟩ := h j l[j] (List.getElem?_eq_getElem hjl)
    cases e
    exact Nat.lt_of_lt_of_le hlt (Nat.le_of_eq (setCells_size _ _ _ _).symm)
  refine ⟨g, 0, rfl, hgl, fun c v hv => ?_⟩
  have hc7 : c < 7 := by
    have := (List.getElem?_eq_some_iff.1 hv).1
    rwa [ndLay.len] at this
  by_cases hjk : j = k
  · subst hjk
    rw [List.getElem?_set_self hjl] at hz
    cases hz
    obtain ⟨b, off, e, _, hcell⟩ := h j l[j] (List.getElem?_eq_getElem hjl)
    cases e
    have h1 := World.cell?_setCells_in g y.cells (j * 7) w (fun i hi => by
      have hi7 : i < (Nd.cells l[j]).length := hi
      have h2 := hcell i _ (List.getElem?_eq_getElem hi7)
      rw [show 0 + j * ndLay.sz + i = j * 7 + i by show 0 + j * 7 + i = _; omega] at h2
      rw [h2]
      rfl) c (by exact hc7)
    rw [show 0 + j * ndLay.sz + c = j * 7 + c by show 0 + j * 7 + c = _; omega, h1]
    have h3 := (List.getElem?_eq_some_iff.1 hv).2
    rw [← h3]
    rfl
  · rw [List.getElem?_set_ne (Ne.symm hjk)] at hz
    obtain ⟨b, off, e, _, hcell⟩ := h j z hz
    cases e
    rw [World.cell?_setCells_out g y.cells (k * 7) w _ (fun _ _ => by
      show 0 + j * 7 + c < k * 7 ∨ k * 7 + 7 ≤ 0 + j * 7 + c
      omega)]
    exact hcell c v hv
set_option maxRecDepth 100000 in
set_option maxHeartbeats 6400000 in
theorem do_any (a : Option Addr) (cap : Nat) (l : List Nd) (x : Opr) (w : World) (hl : l.length ≤ 999) (hnil : a = none → cap = 0) (ha : RowsAt ndLay w a l) (hRR : ∀ n ∈ l, idOK n.pc n.pw) (hid : idOK x.pc x.pw) :
    Calls Tryd.prog 38 #[.slice a l.length cap, .agg #[.int .i64 x.cnt, .int .i64 x.who, .int .i64 x.seq, .int .i64 x.kind, .int .i64 x.nc, .int .i64 x.nw, .bool x.dir, .int .i64 x.pc, .int .i64 x.pw, .string x.name, .string x.man]] w fun e w' => ∃ a' cap', e = .returned (.slice a' (doT l x).length cap') ∧ RowsAt ndLay w' a' (doT l x) ∧ (a' = none → cap' = 0) ∧ Below w.heap.size w w' := by
  have hb1 := (Below.refl w.heap.size w).alloc (Nat.le_refl _) (.cells #[.int .i64 x.cnt, .int .i64 x.who, .int .i64 x.seq, .int .i64 x.kind, .int .i64 x.nc, .int .i64 x.nw, .bool x.dir, .int .i64 x.pc, .int .i64 x.pw, .string x.name, .string x.man] 43)
  have hO1 := VarAt.new w #[.int .i64 x.cnt, .int .i64 x.who, .int .i64 x.seq, .int .i64 x.kind, .int .i64 x.nc, .int .i64 x.nw, .bool x.dir, .int .i64 x.pc, .int .i64 x.pw, .string x.name, .string x.man] 43
  obtain ⟨ob, hob⟩ : ∃ ob, ob = w.heap.size := ⟨_, rfl⟩
  obtain ⟨W1, hW1⟩ : ∃ W1, W1 = w.alloc (.cells #[.int .i64 x.cnt, .int .i64 x.who, .int .i64 x.seq, .int .i64 x.kind, .int .i64 x.nc, .int .i64 x.nw, .bool x.dir, .int .i64 x.pc, .int .i64 x.pw, .string x.name, .string x.man] 43) := ⟨_, rfl⟩
  rw [← hob, ← hW1] at hO1
  rw [← hW1] at hb1
  have Hob := Lib.hid hob
  have HW1 := Lib.hid hW1
  have hO := hO1
  have hb := hb1
  have HA := Lib.hid fun W (h : Below w.heap.size w W) => ha.keeps h
  have HP := Lib.hid (tplace_any a cap l x.nc x.nw W1 (by omega) (ha.keeps hb))
  clear hob hW1 hb1 hO1 ha
  obtain ⟨d, hd⟩ : ∃ d, doT l x = d := ⟨_, rfl⟩
  rw [hd]
  have o0 := hO.2.2 0 _ rfl
  have o1 := hO.2.2 1 _ rfl
  have o2 := hO.2.2 2 _ rfl
  have o3 := hO.2.2 3 _ rfl
  have o4 := hO.2.2 4 _ rfl
  have o5 := hO.2.2 5 _ rfl
  have o6 := hO.2.2 6 _ rfl
  have o7 := hO.2.2 7 _ rfl
  have o8 := hO.2.2 8 _ rfl
  have o9 := hO.2.2 9 _ rfl
  have o10 := hO.2.2 10 _ rfl
  rcases where_casesG (z := nd0) (l := l) (p := isNd x.nc x.nw) with ⟨k, y, h1, hy, hf, hp⟩ | ⟨h1, hf, hmiss⟩
  · rw [h1] at HP
    have hf2 : findT l x.nc x.nw = (y, true) := hf
    have hkl := (List.getElem?_eq_some_iff.1 hy).1
    have hk0 : ¬ ((k : Int) < 0) := by omega
    have hk1 : (0 : Int) ≤ (k : Int) := by omega
    have hk2 : (k : Int) < (l.length : Int) := by omega
    have hk3 : decide ((k : Int) < 0) = false := decide_eq_false hk0
    by_cases hkd : x.kind = 1
    · have HT := Lib.hid (show d = l by rw [← hd]; unfold doT; rw [hf2, if_neg (by simp), if_pos hkd])
      have e1 : (x.kind == 1) = true := by rw [hkd]; rfl
      clear hd h1 hf hf2 hy hp hkd
      go_enter Tryd.func38, Tryd.ntmps38
      go_upto_region 1 with fail
      rw [← Hob.out, ← HW1.out]
      go_wp2_with fail
      refine HP.out.mono ?_
      rintro e w2 ⟨rfl, hb2⟩
      have hO2 := hO.keeps hb2 hO.1
      have hbr := hb.trans (hb2.mono hb.size)
      clear o0 o1 o2 o3 o4 o5 o6 o7 o8 o9 o10
      have o0 := hO2.2.2 0 _ rfl
      have o1 := hO2.2.2 1 _ rfl
      have o2 := hO2.2.2 2 _ rfl
      have o3 := hO2.2.2 3 _ rfl
      have o4 := hO2.2.2 4 _ rfl
      have o5 := hO2.2.2 5 _ rfl
      have o6 := hO2.2.2 6 _ rfl
      have o7 := hO2.2.2 7 _ rfl
      have o8 := hO2.2.2 8 _ rfl
      have o9 := hO2.2.2 9 _ rfl
      have o10 := hO2.2.2 10 _ rfl
      go_wp2_with fail
      go_ret
      rw [HT.out]
      exact ⟨a, cap, rfl, HA.out _ hbr, hnil, hbr⟩
    · have e1 : (x.kind == 1) = false := by rw [beq_eq_false_iff_ne]; exact hkd
      have hfi : l.findIdx (isNd x.nc x.nw) = k := by
        unfold whereG at h1
        split at h1
        · omega
        · omega
      have HD := Lib.hid (show d = if (turnedT l y x).2 = true then l.set k (turnedT l y x).1 else l by rw [← hd]; unfold doT; rw [hf2, if_neg (by simp), if_neg hkd, hfi])
      have Hy := Lib.hid hy
      clear hd h1 hf hf2 hy hp hkd hfi
      go_enter Tryd.func38, Tryd.ntmps38
      go_upto_region 1 with fail
      rw [← Hob.out, ← HW1.out]
      go_wp2_with fail
      refine HP.out.mono ?_
      rintro e w2 ⟨rfl, hb2⟩
      have hO2 := hO.keeps hb2 hO.1
      have hbr := hb.trans (hb2.mono hb.size)
      clear o0 o1 o2 o3 o4 o5 o6 o7 o8 o9 o10
      have o0 := hO2.2.2 0 _ rfl
      have o1 := hO2.2.2 1 _ rfl
      have o2 := hO2.2.2 2 _ rfl
      have o3 := hO2.2.2 3 _ rfl
      have o4 := hO2.2.2 4 _ rfl
      have o5 := hO2.2.2 5 _ rfl
      have o6 := hO2.2.2 6 _ rfl
      have o7 := hO2.2.2 7 _ rfl
      have o8 := hO2.2.2 8 _ rfl
      have o9 := hO2.2.2 9 _ rfl
      have o10 := hO2.2.2 10 _ rfl
      obtain ⟨b, off, hae, hbl, c0, c1, c2, c3, c4, c5, c6⟩ := nd_at (HA.out w2 hbr) Hy.out
      subst hae
      obtain ⟨B2, hB2⟩ : ∃ B2, B2 = w2.heap.size := ⟨_, rfl⟩
      have HB2 := Lib.hid hB2
      clear hB2
      have HS := Lib.hid fun W (h : Below w2.heap.size w2 W) => (show (fun w' => Below B2 w2 w' ∧ w'.cell? ⟨b, off + k * 7, none⟩ = some (.int .i64 y.cnt) ∧ w'.cell? ⟨b, off + k * 7 + 1, none⟩ = some (.int .i64 y.who) ∧ w'.cell? ⟨b, off + k * 7 + 2, none⟩ = some (.bool y.dir) ∧ w'.cell? ⟨b, off + k * 7 + 3, none⟩ = some (.int .i64 y.pc) ∧ w'.cell? ⟨b, off + k * 7 + 4, none⟩ = some (.int .i64 y.pw) ∧ w'.cell? ⟨b, off + k * 7 + 5, none⟩ = some (.string y.name) ∧ w'.cell? ⟨b, off + k * 7 + 6, none⟩ = some (.string y.man) ∧ w'.cell? ⟨ob, 0, none⟩ = some (.int .i64 x.cnt) ∧ w'.cell? ⟨ob, 1, none⟩ = some (.int .i64 x.who) ∧ w'.cell? ⟨ob, 2, none⟩ = some (.int .i64 x.seq) ∧ w'.cell? ⟨ob, 3, none⟩ = some (.int .i64 x.kind) ∧ w'.cell? ⟨ob, 4, none⟩ = some (.int .i64 x.nc) ∧ w'.cell? ⟨ob, 5, none⟩ = some (.int .i64 x.nw) ∧ w'.cell? ⟨ob, 6, none⟩ = some (.bool x.dir) ∧ w'.cell? ⟨ob, 7, none⟩ = some (.int .i64 x.pc) ∧ w'.cell? ⟨ob, 8, none⟩ = some (.int .i64 x.pw) ∧ w'.cell? ⟨ob, 9, none⟩ = some (.string x.name) ∧ w'.cell? ⟨ob, 10, none⟩ = some (.string x.man)) W from ⟨by rw [HB2.out]; exact h, (h.cell (p := ⟨b, off + k * 7, none⟩) hbl).trans c0, (h.cell (p := ⟨b, off + k * 7 + 1, none⟩) hbl).trans c1, (h.cell (p := ⟨b, off + k * 7 + 2, none⟩) hbl).trans c2, (h.cell (p := ⟨b, off + k * 7 + 3, none⟩) hbl).trans c3, (h.cell (p := ⟨b, off + k * 7 + 4, none⟩) hbl).trans c4, (h.cell (p := ⟨b, off + k * 7 + 5, none⟩) hbl).trans c5, (h.cell (p := ⟨b, off + k * 7 + 6, none⟩) hbl).trans c6, (h.cell (p := ⟨ob, 0, none⟩) hO2.1).trans o0, (h.cell (p := ⟨ob, 1, none⟩) hO2.1).trans o1, (h.cell (p := ⟨ob, 2, none⟩) hO2.1).trans o2, (h.cell (p := ⟨ob, 3, none⟩) hO2.1).trans o3, (h.cell (p := ⟨ob, 4, none⟩) hO2.1).trans o4, (h.cell (p := ⟨ob, 5, none⟩) hO2.1).trans o5, (h.cell (p := ⟨ob, 6, none⟩) hO2.1).trans o6, (h.cell (p := ⟨ob, 7, none⟩) hO2.1).trans o7, (h.cell (p := ⟨ob, 8, none⟩) hO2.1).trans o8, (h.cell (p := ⟨ob, 9, none⟩) hO2.1).trans o9, (h.cell (p := ⟨ob, 10, none⟩) hO2.1).trans o10⟩)
      have HTU := Lib.hid fun W (h : Below w.heap.size w W) => turned_any (some ⟨b, off, none⟩) cap l y x W (by omega) (HA.out W h) hRR hid
      have hyl := (List.getElem?_eq_some_iff.1 Hy.out).1
      obtain ⟨r, hr⟩ : ∃ r, turnedT l y x = r := ⟨_, rfl⟩
      rw [hr] at HTU HD
      obtain ⟨rx, rok⟩ := r
      dsimp only at HTU HD
      unfold Nd.agg at HTU
      clear hr hb2 hO hb HP
      go_wp2_with fail
      go_cut [7, 8] from 50 to 59 (fun p ok wx => ∃ fb, p = .pointer (some ⟨fb, 0, none⟩) ∧ ok = .bool rok ∧ VarAt wx fb [.int .i64 rx.cnt, .int .i64 rx.who, .bool rx.dir, .int .i64 rx.pc, .int .i64 rx.pw, .string rx.name, .string rx.man] ∧ Below w2.heap.size w2 wx)
      case first =>
        refine wp_region_held_drew (S := (fun w' => Below B2 w2 w' ∧ w'.cell? ⟨b, off + k * 7, none⟩ = some (.int .i64 y.cnt) ∧ w'.cell? ⟨b, off + k * 7 + 1, none⟩ = some (.int .i64 y.who) ∧ w'.cell? ⟨b, off + k * 7 + 2, none⟩ = some (.bool y.dir) ∧ w'.cell? ⟨b, off + k * 7 + 3, none⟩ = some (.int .i64 y.pc) ∧ w'.cell? ⟨b, off + k * 7 + 4, none⟩ = some (.int .i64 y.pw) ∧ w'.cell? ⟨b, off + k * 7 + 5, none⟩ = some (.string y.name) ∧ w'.cell? ⟨b, off + k * 7 + 6, none⟩ = some (.string y.man) ∧ w'.cell? ⟨ob, 0, none⟩ = some (.int .i64 x.cnt) ∧ w'.cell? ⟨ob, 1, none⟩ = some (.int .i64 x.who) ∧ w'.cell? ⟨ob, 2, none⟩ = some (.int .i64 x.seq) ∧ w'.cell? ⟨ob, 3, none⟩ = some (.int .i64 x.kind) ∧ w'.cell? ⟨ob, 4, none⟩ = some (.int .i64 x.nc) ∧ w'.cell? ⟨ob, 5, none⟩ = some (.int .i64 x.nw) ∧ w'.cell? ⟨ob, 6, none⟩ = some (.bool x.dir) ∧ w'.cell? ⟨ob, 7, none⟩ = some (.int .i64 x.pc) ∧ w'.cell? ⟨ob, 8, none⟩ = some (.int .i64 x.pw) ∧ w'.cell? ⟨ob, 9, none⟩ = some (.string x.name) ∧ w'.cell? ⟨ob, 10, none⟩ = some (.string x.man))) (by kernel_rfl) (HS.out _ (belowDrew (Below.refl w2.heap.size w2) 1)) (fun hHeld => ?_)
        refine wpAnyH_take (i := 0) (oi := { dst := some 51, op := Op.move (Operand.tmp 0), type := 22, pos := "tree.go:103", after := #[], guard := none }) (v := ?_) rfl (by kernel_rfl) (by kernel_rfl) (by kernel_rfl) (fun _ _ _ h => h) (Or.inl ⟨by rfl, ?_⟩) (by assumption) ?_
        rotate_left
        · intro w9 hSw
          try dsimp only at hSw
          first | (go_simp; done) | (go_simp; with_reducible rfl)
        try simp only [Act.put, List.setIfInBounds_toArray, List.set_cons_zero, List.set_cons_succ]
        refine wpAnyH_take (i := 1) (oi := { dst := some 52, op := Op.move (Operand.tmp 0), type := 22, pos := "tree.go:103", after := #[], guard := none }) (v := ?_) rfl (by kernel_rfl) (by kernel_rfl) (by kernel_rfl) (fun _ _ _ h => h) (Or.inl ⟨by rfl, ?_⟩) (by assumption) ?_
        rotate_left
        · intro w9 hSw
          try dsimp only at hSw
          first | (go_simp; done) | (go_simp; with_reducible rfl)
        try simp only [Act.put, List.setIfInBounds_toArray, List.set_cons_zero, List.set_cons_succ]
        refine wpAnyH_take (i := 2) (oi := { dst := some 53, op := Op.move (Operand.tmp 5), type := 3, pos := "tree.go:103", after := #[], guard := none }) (v := ?_) rfl (by kernel_rfl) (by kernel_rfl) (by kernel_rfl) (fun _ _ _ h => h) (Or.inl ⟨by rfl, ?_⟩) (by assumption) ?_
        rotate_left
        · intro w9 hSw
          try dsimp only at hSw
          first | (go_simp; done) | (go_simp; with_reducible rfl)
        try simp only [Act.put, List.setIfInBounds_toArray, List.set_cons_zero, List.set_cons_succ]
        refine wpAnyH_take (i := 3) (oi := { dst := some 54, op := Op.indexAddr 22 (Operand.tmp 52) (Operand.tmp 53), type := 0, pos := "tree.go:103", after := #[{ on := 1, ground := Ground.data }, { on := 2, ground := Ground.data }], guard := none }) (v := ?_) rfl (by kernel_rfl) (by kernel_rfl) (by kernel_rfl) (fun _ _ _ h => h) (Or.inl ⟨by rfl, ?_⟩) (by assumption) ?_
        rotate_left
        · intro w9 hSw
          try dsimp only at hSw
          first | (go_simp; done) | (go_simp; with_reducible rfl)
        try simp only [Act.put, List.setIfInBounds_toArray, List.set_cons_zero, List.set_cons_succ]
        refine wpAnyH_take (i := 4) (oi := { dst := some 55, op := Op.load 46 (Operand.tmp 54), type := 46, pos := "tree.go:103", after := #[{ on := 3, ground := Ground.data }], guard := none }) (v := ?_) rfl (by kernel_rfl) (by kernel_rfl) (by kernel_rfl) (fun _ _ _ h => h) (Or.inl ⟨by rfl, ?_⟩) (by assumption) ?_
        rotate_left
        · intro w9 hSw
          try dsimp only at hSw
          first | (go_simp; done) | (go_simp; with_reducible rfl)
        try simp only [Act.put, List.setIfInBounds_toArray, List.set_cons_zero, List.set_cons_succ]
        refine wpAnyH_take (i := 5) (oi := { dst := some 56, op := Op.load 43 (Operand.tmp 3), type := 43, pos := "tree.go:103", after := #[], guard := none }) (v := ?_) rfl (by kernel_rfl) (by kernel_rfl) (by kernel_rfl) (fun _ _ _ h => h) (Or.inl ⟨by rfl, ?_⟩) (by assumption) ?_
        rotate_left
        · intro w9 hSw
          try dsimp only at hSw
          first | (go_simp; done) | (go_simp; with_reducible rfl)
        try simp only [Act.put, List.setIfInBounds_toArray, List.set_cons_zero, List.set_cons_succ]
        refine wpAnyH_ready (rs := [6, 10]) (by kernel_rfl) (by simp) ?_
        refine AllReadyH.cons (o := { dst := some 57, op := Op.call { callee := Callee.value (Operand.func 52), args := #[Operand.tmp 51, Operand.tmp 55, Operand.tmp 56], argTypes := #[22, 46, 43] }, type := 47, pos := "tree.go:103", after := #[{ on := 0, ground := Ground.data }, { on := 4, ground := Ground.data }, { on := 5, ground := Ground.data }], guard := none }) rfl (fun K hK => ?_) ?_
        · rw [if_pos (by first | rfl | simp [Region.wanted])]
          go_simp
          go_at_call 52
          refine (HTU.out _ (hbr.trans ((belowDrew (Below.refl w2.heap.size w2) 1).mono hbr.size))).mono ?_
          rintro e w5 ⟨rfl, hc5⟩
          try dsimp only
          have hB5 : Below w2.heap.size w2 w5 := ((belowDrew (Below.refl w2.heap.size w2) 1)).trans (hc5.mono (show w2.heap.size ≤ _ from ((belowDrew (Below.refl w2.heap.size w2) 1)).size))
          refine hK.out _ _ ?_ (fun hHeld2 => ?_)
          · exact HS.out _ hB5
          clear hK K hHeld
          have hHeld := hHeld2
          clear hHeld2
          try simp only [Act.put, List.setIfInBounds_toArray, List.set_cons_zero, List.set_cons_succ]
          refine wpAnyH_take (i := 7) (oi := { dst := some 50, op := Op.move (Operand.tmp 57), type := 47, pos := "tree.go:103", after := #[{ on := 6, ground := Ground.data }], guard := none }) (v := ?_) rfl (by kernel_rfl) (by kernel_rfl) (by kernel_rfl) (fun _ _ _ h => h) (Or.inl ⟨by rfl, ?_⟩) (by assumption) ?_
          rotate_left
          · intro w9 hSw
            try dsimp only at hSw
            first | (go_simp; done) | (go_simp; with_reducible rfl)
          try simp only [Act.put, List.setIfInBounds_toArray, List.set_cons_zero, List.set_cons_succ]
          refine wpAnyH_take (i := 8) (oi := { dst := some 58, op := Op.extract (Operand.tmp 50) 0, type := 46, pos := "tree.go:103", after := #[{ on := 7, ground := Ground.data }], guard := none }) (v := ?_) rfl (by kernel_rfl) (by kernel_rfl) (by kernel_rfl) (fun _ _ _ h => h) (Or.inl ⟨by rfl, ?_⟩) (by assumption) ?_
          rotate_left
          · intro w9 hSw
            try dsimp only at hSw
            first | (go_simp; done) | (go_simp; with_reducible rfl)
          try simp only [Act.put, List.setIfInBounds_toArray, List.set_cons_zero, List.set_cons_succ]
          refine wpAnyH_take (i := 9) (oi := { dst := some 59, op := Op.extract (Operand.tmp 50) 1, type := 4, pos := "tree.go:103", after := #[{ on := 7, ground := Ground.data }, { on := 11, ground := Ground.gcOnly Departure.lateStores }], guard := none }) (v := ?_) rfl (by kernel_rfl) (by kernel_rfl) (by kernel_rfl) (fun _ _ _ h => h) (Or.inl ⟨by rfl, ?_⟩) (by assumption) ?_
          rotate_left
          · intro w9 hSw
            try dsimp only at hSw
            first | (go_simp; done) | (go_simp; with_reducible rfl)
          try simp only [Act.put, List.setIfInBounds_toArray, List.set_cons_zero, List.set_cons_succ]
          refine wpAnyH_ready (rs := [10]) (by kernel_rfl) (by simp) ?_
          refine AllReadyH.cons (o := { dst := some 7, op := Op.alloc 46, type := 0, pos := "tree.go:103", after := #[], guard := none }) rfl (fun K hK => ?_) ?_
          · go_simp
            refine hK.out _ _ ?_ (fun hHeld2 => ?_)
            · exact HS.out _ ((hB5).alloc (hB5).size _)
            clear hK K hHeld
            have hHeld := hHeld2
            clear hHeld2
            try simp only [Act.put, List.setIfInBounds_toArray, List.set_cons_zero, List.set_cons_succ]
            have hF := VarAt.new (w5) #[.int .i64 0, .int .i64 0, .bool false, .int .i64 0, .int .i64 0, .string ⟨#[]⟩, .string ⟨#[]⟩] 46
            have hBF := (hB5).alloc (hB5).size (.cells #[.int .i64 0, .int .i64 0, .bool false, .int .i64 0, .int .i64 0, .string ⟨#[]⟩, .string ⟨#[]⟩] 46)
            obtain ⟨fb, hfb⟩ : ∃ fb, fb = (w5).heap.size := ⟨_, rfl⟩
            obtain ⟨W6, hW6⟩ : ∃ W6, W6 = (w5).alloc (.cells #[.int .i64 0, .int .i64 0, .bool false, .int .i64 0, .int .i64 0, .string ⟨#[]⟩, .string ⟨#[]⟩] 46) := ⟨_, rfl⟩
            have hfw : w2.heap.size ≤ fb := by rw [hfb]; exact (hB5).size
            have hfs : fb < W6.heap.size := by rw [hfb, hW6]; simp
            try rw [show (World.drew w2).heap.size = w2.heap.size from rfl] at hfb hF
            rw [← hfb, ← hW6] at hF
            rw [← hW6] at hBF hHeld
            rw [← hfb, ← hW6]
            have Hfb := Lib.hid hfb
            have HW6 := Lib.hid hW6
            clear hfb hW6
            refine wpAnyH_ready (rs := [11]) (by kernel_rfl) (by simp) ?_
            refine AllReadyH.cons (o := { dst := none, op := Op.store 46 (Operand.tmp 7) (Operand.tmp 58), type := 0, pos := "tree.go:103", after := #[{ on := 10, ground := Ground.data }, { on := 8, ground := Ground.data }, { on := 6, ground := Ground.chain }, { on := 0, ground := Ground.phase }, { on := 1, ground := Ground.phase }, { on := 2, ground := Ground.phase }, { on := 3, ground := Ground.phase }, { on := 4, ground := Ground.phase }, { on := 5, ground := Ground.phase }, { on := 6, ground := Ground.phase }, { on := 7, ground := Ground.phase }, { on := 8, ground := Ground.phase }, { on := 9, ground := Ground.textOnly Departure.lateStores }, { on := 10, ground := Ground.phase }], guard := none }) rfl (fun K hK => ?_) ?_
            · have f0 := hF.2.2 0 _ rfl
              have f1 := hF.2.2 1 _ rfl
              have f2 := hF.2.2 2 _ rfl
              have f3 := hF.2.2 3 _ rfl
              have f4 := hF.2.2 4 _ rfl
              have f5 := hF.2.2 5 _ rfl
              have f6 := hF.2.2 6 _ rfl
              have ff := hF.2.1
              go_simp
              have hFp := hF.put [.int .i64 rx.cnt, .int .i64 rx.who, .bool rx.dir, .int .i64 rx.pc, .int .i64 rx.pw, .string rx.name, .string rx.man] rfl
              have hBp := belowPut (b := fb) hBF [.int .i64 rx.cnt, .int .i64 rx.who, .bool rx.dir, .int .i64 rx.pc, .int .i64 rx.pw, .string rx.name, .string rx.man] 0 hfw
              simp only [putRow, Nat.zero_add, Nat.reduceAdd] at hFp hBp
              refine hK.out _ _ ?_ (fun hHeld2 => ?_)
              · exact HS.out _ hBp
              clear hK K hHeld
              have hHeld := hHeld2
              clear hHeld2
              try simp only [Act.put, List.setIfInBounds_toArray, List.set_cons_zero, List.set_cons_succ]
              refine wpAnyH_take (i := 12) (oi := { dst := some 8, op := Op.assign (Operand.tmp 59), type := 4, pos := "tree.go:103", after := #[{ on := 9, ground := Ground.data }, { on := 11, ground := Ground.chain }, { on := 0, ground := Ground.phase }, { on := 1, ground := Ground.phase }, { on := 2, ground := Ground.phase }, { on := 3, ground := Ground.phase }, { on := 4, ground := Ground.phase }, { on := 5, ground := Ground.phase }, { on := 6, ground := Ground.phase }, { on := 7, ground := Ground.phase }, { on := 8, ground := Ground.phase }, { on := 9, ground := Ground.phase }, { on := 10, ground := Ground.phase }, { on := 11, ground := Ground.phase }], guard := none }) (v := ?_) rfl (by kernel_rfl) (by kernel_rfl) (by kernel_rfl) (fun _ _ _ h => h) (Or.inl ⟨by rfl, ?_⟩) (by assumption) ?_
              rotate_left
              · intro w9 hSw
                try dsimp only at hSw
                first | (go_simp; done) | (go_simp; with_reducible rfl)
              try simp only [Act.put, List.setIfInBounds_toArray, List.set_cons_zero, List.set_cons_succ]
              refine wpAnyH_done (by kernel_rfl) ?_ _
              go_wp2_with fail
              go_meet
              exact ⟨fb, rfl, rfl, hFp, hBp⟩
            exact AllReadyH.nil
          exact AllReadyH.nil
        refine AllReadyH.cons (o := { dst := some 7, op := Op.alloc 46, type := 0, pos := "tree.go:103", after := #[], guard := none }) rfl (fun K hK => ?_) ?_
        · go_simp
          refine hK.out _ _ ?_ (fun hHeld2 => ?_)
          · exact HS.out _ (belowDrew ((Below.refl w2.heap.size w2).alloc (Nat.le_refl _) _) 1)
          clear hK K hHeld
          have hHeld := hHeld2
          clear hHeld2
          try simp only [Act.put, List.setIfInBounds_toArray, List.set_cons_zero, List.set_cons_succ]
          have hF : VarAt (w2.alloc (.cells #[.int .i64 0, .int .i64 0, .bool false, .int .i64 0, .int .i64 0, .string ⟨#[]⟩, .string ⟨#[]⟩] 46)).drew w2.heap.size [.int .i64 0, .int .i64 0, .bool false, .int .i64 0, .int .i64 0, .string ⟨#[]⟩, .string ⟨#[]⟩] := VarAt.new w2 #[.int .i64 0, .int .i64 0, .bool false, .int .i64 0, .int .i64 0, .string ⟨#[]⟩, .string ⟨#[]⟩] 46
          have hBF : Below w2.heap.size w2 (w2.alloc (.cells #[.int .i64 0, .int .i64 0, .bool false, .int .i64 0, .int .i64 0, .string ⟨#[]⟩, .string ⟨#[]⟩] 46)).drew := belowDrew ((Below.refl w2.heap.size w2).alloc (Nat.le_refl _) _) 1
          obtain ⟨fb, hfb⟩ : ∃ fb, fb = w2.heap.size := ⟨_, rfl⟩
          obtain ⟨W6, hW6⟩ : ∃ W6, W6 = (w2.alloc (.cells #[.int .i64 0, .int .i64 0, .bool false, .int .i64 0, .int .i64 0, .string ⟨#[]⟩, .string ⟨#[]⟩] 46)).drew := ⟨_, rfl⟩
          have hfw : w2.heap.size ≤ fb := by rw [hfb]; exact Nat.le_refl _
          rw [← hfb, ← hW6] at hF
          rw [← hW6] at hBF hHeld
          rw [← hfb, ← hW6]
          have Hfb := Lib.hid hfb
          have HW6 := Lib.hid hW6
          clear hfb hW6
          refine wpAnyH_ready (rs := [6]) (by kernel_rfl) (by simp) ?_
          refine AllReadyH.cons (o := { dst := some 57, op := Op.call { callee := Callee.value (Operand.func 52), args := #[Operand.tmp 51, Operand.tmp 55, Operand.tmp 56], argTypes := #[22, 46, 43] }, type := 47, pos := "tree.go:103", after := #[{ on := 0, ground := Ground.data }, { on := 4, ground := Ground.data }, { on := 5, ground := Ground.data }], guard := none }) rfl (fun K hK => ?_) ?_
          · rw [if_pos (by first | rfl | simp [Region.wanted])]
            go_simp
            go_at_call 52
            refine (HTU.out _ (hbr.trans (hBF.mono hbr.size))).mono ?_
            rintro e w5 ⟨rfl, hc5⟩
            try dsimp only
            have hB5 : Below w2.heap.size w2 w5 := (hBF).trans (hc5.mono (show w2.heap.size ≤ _ from (hBF).size))
            refine hK.out _ _ ?_ (fun hHeld2 => ?_)
            · exact HS.out _ hB5
            clear hK K hHeld
            have hHeld := hHeld2
            clear hHeld2
            try simp only [Act.put, List.setIfInBounds_toArray, List.set_cons_zero, List.set_cons_succ]
            refine wpAnyH_take (i := 7) (oi := { dst := some 50, op := Op.move (Operand.tmp 57), type := 47, pos := "tree.go:103", after := #[{ on := 6, ground := Ground.data }], guard := none }) (v := ?_) rfl (by kernel_rfl) (by kernel_rfl) (by kernel_rfl) (fun _ _ _ h => h) (Or.inl ⟨by rfl, ?_⟩) (by assumption) ?_
            rotate_left
            · intro w9 hSw
              try dsimp only at hSw
              first | (go_simp; done) | (go_simp; with_reducible rfl)
            try simp only [Act.put, List.setIfInBounds_toArray, List.set_cons_zero, List.set_cons_succ]
            refine wpAnyH_take (i := 8) (oi := { dst := some 58, op := Op.extract (Operand.tmp 50) 0, type := 46, pos := "tree.go:103", after := #[{ on := 7, ground := Ground.data }], guard := none }) (v := ?_) rfl (by kernel_rfl) (by kernel_rfl) (by kernel_rfl) (fun _ _ _ h => h) (Or.inl ⟨by rfl, ?_⟩) (by assumption) ?_
            rotate_left
            · intro w9 hSw
              try dsimp only at hSw
              first | (go_simp; done) | (go_simp; with_reducible rfl)
            try simp only [Act.put, List.setIfInBounds_toArray, List.set_cons_zero, List.set_cons_succ]
            refine wpAnyH_take (i := 9) (oi := { dst := some 59, op := Op.extract (Operand.tmp 50) 1, type := 4, pos := "tree.go:103", after := #[{ on := 7, ground := Ground.data }, { on := 11, ground := Ground.gcOnly Departure.lateStores }], guard := none }) (v := ?_) rfl (by kernel_rfl) (by kernel_rfl) (by kernel_rfl) (fun _ _ _ h => h) (Or.inl ⟨by rfl, ?_⟩) (by assumption) ?_
            rotate_left
            · intro w9 hSw
              try dsimp only at hSw
              first | (go_simp; done) | (go_simp; with_reducible rfl)
            try simp only [Act.put, List.setIfInBounds_toArray, List.set_cons_zero, List.set_cons_succ]
            have hF5 := hF.keeps hc5 hF.1
            refine wpAnyH_ready (rs := [11]) (by kernel_rfl) (by simp) ?_
            refine AllReadyH.cons (o := { dst := none, op := Op.store 46 (Operand.tmp 7) (Operand.tmp 58), type := 0, pos := "tree.go:103", after := #[{ on := 10, ground := Ground.data }, { on := 8, ground := Ground.data }, { on := 6, ground := Ground.chain }, { on := 0, ground := Ground.phase }, { on := 1, ground := Ground.phase }, { on := 2, ground := Ground.phase }, { on := 3, ground := Ground.phase }, { on := 4, ground := Ground.phase }, { on := 5, ground := Ground.phase }, { on := 6, ground := Ground.phase }, { on := 7, ground := Ground.phase }, { on := 8, ground := Ground.phase }, { on := 9, ground := Ground.textOnly Departure.lateStores }, { on := 10, ground := Ground.phase }], guard := none }) rfl (fun K hK => ?_) ?_
            · have f0 := hF5.2.2 0 _ rfl
              have f1 := hF5.2.2 1 _ rfl
              have f2 := hF5.2.2 2 _ rfl
              have f3 := hF5.2.2 3 _ rfl
              have f4 := hF5.2.2 4 _ rfl
              have f5 := hF5.2.2 5 _ rfl
              have f6 := hF5.2.2 6 _ rfl
              have ff := hF5.2.1
              go_simp
              have hFp := hF5.put [.int .i64 rx.cnt, .int .i64 rx.who, .bool rx.dir, .int .i64 rx.pc, .int .i64 rx.pw, .string rx.name, .string rx.man] rfl
              have hBp := belowPut (b := fb) hB5 [.int .i64 rx.cnt, .int .i64 rx.who, .bool rx.dir, .int .i64 rx.pc, .int .i64 rx.pw, .string rx.name, .string rx.man] 0 hfw
              simp only [putRow, Nat.zero_add, Nat.reduceAdd] at hFp hBp
              refine hK.out _ _ ?_ (fun hHeld2 => ?_)
              · exact HS.out _ hBp
              clear hK K hHeld
              have hHeld := hHeld2
              clear hHeld2
              try simp only [Act.put, List.setIfInBounds_toArray, List.set_cons_zero, List.set_cons_succ]
              refine wpAnyH_take (i := 12) (oi := { dst := some 8, op := Op.assign (Operand.tmp 59), type := 4, pos := "tree.go:103", after := #[{ on := 9, ground := Ground.data }, { on := 11, ground := Ground.chain }, { on := 0, ground := Ground.phase }, { on := 1, ground := Ground.phase }, { on := 2, ground := Ground.phase }, { on := 3, ground := Ground.phase }, { on := 4, ground := Ground.phase }, { on := 5, ground := Ground.phase }, { on := 6, ground := Ground.phase }, { on := 7, ground := Ground.phase }, { on := 8, ground := Ground.phase }, { on := 9, ground := Ground.phase }, { on := 10, ground := Ground.phase }, { on := 11, ground := Ground.phase }], guard := none }) (v := ?_) rfl (by kernel_rfl) (by kernel_rfl) (by kernel_rfl) (fun _ _ _ h => h) (Or.inl ⟨by rfl, ?_⟩) (by assumption) ?_
              rotate_left
              · intro w9 hSw
                try dsimp only at hSw
                first | (go_simp; done) | (go_simp; with_reducible rfl)
              try simp only [Act.put, List.setIfInBounds_toArray, List.set_cons_zero, List.set_cons_succ]
              refine wpAnyH_done (by kernel_rfl) ?_ _
              go_wp2_with fail
              go_meet
              exact ⟨fb, rfl, rfl, hFp, hBp⟩
            exact AllReadyH.nil
          exact AllReadyH.nil
        exact AllReadyH.nil
      case rest =>
        obtain ⟨fb, rfl, rfl, hF, hB⟩ := hcut
        have hbw := hbr.trans (hB.mono hbr.size)
        clear c0 c1 c2 c3 c4 c5 c6 o0 o1 o2 o3 o4 o5 o6 o7 o8 o9 o10 HS HTU hO2
        cases rok with
        | false =>
          have HT := Lib.hid (show d = l by rw [HD.out, if_neg (by simp)])
          go_wp2_with fail
          go_ret
          rw [HT.out]
          exact ⟨_, cap, rfl, HA.out _ hbw, hnil, hbw⟩
        | true =>
          have HT := Lib.hid (show d = l.set k rx by rw [HD.out, if_pos rfl])
          have HCL := Lib.hid (cloneN_any (some ⟨b, off, none⟩) cap l wc (by omega) hnil (HA.out wc hbw))
          go_wp2_with fail
          refine HCL.out.mono ?_
          rintro e w8 ⟨v8, rfl, ho8, hb8⟩
          have hF8 := hF.keeps hb8 hF.1
          have hb8w := hbw.trans (hb8.mono hbw.size)
          rcases ho8.2 with ⟨_, h0⟩ | ⟨g, c8, cur, rfl, hgB, hgg, hnc, hcm, hcs, htk⟩
          · omega
          · obtain ⟨a9, c9, e9, hr8, _, hn9, _⟩ := ho8.read_nil
            cases e9
            have hs8 := rows_set (y := rx) hr8 hyl
            have hb9 := setCells_below (B := w.heap.size) g (Nat.le_trans hbw.size hgB) (Nd.cells rx) (k * 7) w8 hb8w
            obtain ⟨b3, off3, e3, hbl3, c0, c1, c2, c3, c4, c5, c6⟩ := nd_at hr8 Hy.out
            cases e3
            simp only [Nat.zero_add] at c0 c1 c2 c3 c4 c5 c6
            have ff : ∀ i, w8.frozen? ⟨g, i, none⟩ = false := fun i => by simp [World.frozen?, hgg]
            have n0 := hF8.2.2 0 _ rfl
            have n1 := hF8.2.2 1 _ rfl
            have n2 := hF8.2.2 2 _ rfl
            have n3 := hF8.2.2 3 _ rfl
            have n4 := hF8.2.2 4 _ rfl
            have n5 := hF8.2.2 5 _ rfl
            have n6 := hF8.2.2 6 _ rfl
            simp only [World.setCells, Nd.cells, Nat.add_assoc, Nat.reduceAdd] at hs8 hb9
            go_wp2_with fail
            go_ret
            rw [HT.out]
            exact ⟨_, c8, by rw [List.length_set]; rfl, hs8, (fun h => by cases h), hb9⟩
  · rw [h1] at HP
    have hf2 : findT l x.nc x.nw = (nd0, false) := hf
    have Hmiss := Lib.hid hmiss
    by_cases hkd : x.kind = 1
    · have HD := Lib.hid (show d = grownT l (madeT l x) by rw [← hd]; unfold doT; rw [hf2, if_pos rfl, if_pos hkd])
      have e1 : (x.kind == 1) = true := by rw [hkd]; rfl
      clear hd h1 hf hf2 hkd hmiss
      go_enter Tryd.func38, Tryd.ntmps38
      go_upto_region 1 with fail
      rw [← Hob.out, ← HW1.out]
      go_wp2_with fail
      refine HP.out.mono ?_
      rintro e w2 ⟨rfl, hb2⟩
      have hO2 := hO.keeps hb2 hO.1
      have hbr := hb.trans (hb2.mono hb.size)
      clear o0 o1 o2 o3 o4 o5 o6 o7 o8 o9 o10
      have o0 := hO2.2.2 0 _ rfl
      have o1 := hO2.2.2 1 _ rfl
      have o2 := hO2.2.2 2 _ rfl
      have o3 := hO2.2.2 3 _ rfl
      have o4 := hO2.2.2 4 _ rfl
      have o5 := hO2.2.2 5 _ rfl
      have o6 := hO2.2.2 6 _ rfl
      have o7 := hO2.2.2 7 _ rfl
      have o8 := hO2.2.2 8 _ rfl
      have o9 := hO2.2.2 9 _ rfl
      have o10 := hO2.2.2 10 _ rfl
      clear hb2 hO hb
      have hX := VarAt.new w2 #[.int .i64 x.nc, .int .i64 x.nw, .bool x.dir, .int .i64 x.pc, .int .i64 x.pw, .string x.name, .string x.man] 46
      have hb3 := hbr.alloc hbr.size (.cells #[.int .i64 x.nc, .int .i64 x.nw, .bool x.dir, .int .i64 x.pc, .int .i64 x.pw, .string x.name, .string x.man] 46)
      obtain ⟨nb, hnb⟩ : ∃ nb, nb = w2.heap.size := ⟨_, rfl⟩
      obtain ⟨W3, hW3⟩ : ∃ W3, W3 = w2.alloc (.cells #[.int .i64 x.nc, .int .i64 x.nw, .bool x.dir, .int .i64 x.pc, .int .i64 x.pw, .string x.name, .string x.man] 46) := ⟨_, rfl⟩
      rw [← hnb, ← hW3] at hX
      rw [← hW3] at hb3
      have hnw : w.heap.size ≤ nb := by rw [hnb]; exact hbr.size
      have Hnb := Lib.hid hnb
      have HW3 := Lib.hid hW3
      have HTK := Lib.hid (takes_any a cap l x.pc x.pw W3 (by omega) (HA.out W3 hb3))
      obtain ⟨tk, htk⟩ : ∃ tk, takesT l x.pc x.pw = tk := ⟨_, rfl⟩
      rw [htk] at HTK
      have Htk := Lib.hid htk
      clear hnb hW3 htk
      go_upto_region 4 with fail
      rw [← Hnb.out, ← HW3.out]
      clear o0 o1 o2 o3 o4 o5 o6 o7 o8 o9 o10 hO2 hbr
      have n0 := hX.2.2 0 _ rfl
      have n1 := hX.2.2 1 _ rfl
      have n2 := hX.2.2 2 _ rfl
      have n3 := hX.2.2 3 _ rfl
      have n4 := hX.2.2 4 _ rfl
      have n5 := hX.2.2 5 _ rfl
      have n6 := hX.2.2 6 _ rfl
      go_wp2_with fail
      refine HTK.out.mono ?_
      rintro e w4 ⟨rfl, hb4⟩
      have hX4 := hX.keeps hb4 hX.1
      have hbr := hb3.trans (hb4.mono hb3.size)
      clear n0 n1 n2 n3 n4 n5 n6 hX hb4 hb3 HTK
      cases tk with
      | true =>
        have HT := Lib.hid (show d = grownT l ⟨x.nc, x.nw, x.dir, x.pc, x.pw, x.name, x.man⟩ by rw [HD.out]; unfold madeT; rw [Htk.out, if_pos rfl])
        have HG := Lib.hid (grown_any a cap l ⟨x.nc, x.nw, x.dir, x.pc, x.pw, x.name, x.man⟩ w4 (by omega) hnil (HA.out w4 hbr) (fun y hy => by simpa [isNd] using Hmiss.out y hy))
        have n0 := hX4.2.2 0 _ rfl
        have n1 := hX4.2.2 1 _ rfl
        have n2 := hX4.2.2 2 _ rfl
        have n3 := hX4.2.2 3 _ rfl
        have n4 := hX4.2.2 4 _ rfl
        have n5 := hX4.2.2 5 _ rfl
        have n6 := hX4.2.2 6 _ rfl
        go_wp2_with fail
        refine HG.out.mono ?_
        rintro e w5 ⟨a5, c5, rfl, hr5, hn5, hb5⟩
        go_wp2_with fail
        go_ret
        rw [HT.out]
        exact ⟨a5, c5, rfl, hr5, hn5, hbr.trans (hb5.mono hbr.size)⟩
      | false =>
        have HT := Lib.hid (show d = grownT l ⟨x.nc, x.nw, x.dir, 0, 1, x.name, x.man⟩ by rw [HD.out]; unfold madeT; rw [Htk.out, if_neg (by simp)])
        have HTR := Lib.hid (trash_any w4)
        have nf := hX4.2.1
        have n0 := hX4.2.2 0 _ rfl
        have n1 := hX4.2.2 1 _ rfl
        have n2 := hX4.2.2 2 _ rfl
        have n3 := hX4.2.2 3 _ rfl
        have n4 := hX4.2.2 4 _ rfl
        have n5 := hX4.2.2 5 _ rfl
        have n6 := hX4.2.2 6 _ rfl
        go_wp2_with fail
        refine HTR.out.mono ?_
        rintro e w5 ⟨rfl, hb5⟩
        have hX5 := hX4.keeps hb5 hX4.1
        have hb5' := hbr.trans (hb5.mono hbr.size)
        clear n0 n1 n2 n3 n4 n5 n6 nf hX4 hb5 hbr
        have hX6 := (hX5.set 3 (.int .i64 0) (by show 3 < 7; omega)).set 4 (.int .i64 1) (by show 4 < 7; omega)
        have hb6 := (hb5'.setCell (p := ⟨nb, 3, none⟩) hnw (.int .i64 0)).setCell (p := ⟨nb, 4, none⟩) hnw (.int .i64 1)
        obtain ⟨W6, hW6⟩ : ∃ W6, W6 = (w5.setCell ⟨nb, 3, none⟩ (.int .i64 0)).setCell ⟨nb, 4, none⟩ (.int .i64 1) := ⟨_, rfl⟩
        rw [← hW6] at hX6 hb6
        have HW6 := Lib.hid hW6
        have HG := Lib.hid (grown_any a cap l ⟨x.nc, x.nw, x.dir, 0, 1, x.name, x.man⟩ W6 (by omega) hnil (HA.out W6 hb6) (fun y hy => by simpa [isNd] using Hmiss.out y hy))
        have nf := hX5.2.1
        have n0 := hX5.2.2 0 _ rfl
        have n1 := hX5.2.2 1 _ rfl
        have n2 := hX5.2.2 2 _ rfl
        have n3 := hX5.2.2 3 _ rfl
        have n4 := hX5.2.2 4 _ rfl
        have n5 := hX5.2.2 5 _ rfl
        have n6 := hX5.2.2 6 _ rfl
        go_upto_region 6 with fail
        rw [← HW6.out]
        clear n0 n1 n2 n3 n4 n5 n6 nf hX5 hb5' hW6
        have n0 := hX6.2.2 0 _ rfl
        have n1 := hX6.2.2 1 _ rfl
        have n2 := hX6.2.2 2 _ rfl
        have n3 := hX6.2.2 3 _ rfl
        have n4 := hX6.2.2 4 _ rfl
        have n5 := hX6.2.2 5 _ rfl
        have n6 := hX6.2.2 6 _ rfl
        go_wp2_with fail
        refine HG.out.mono ?_
        rintro e w7 ⟨a5, c5, rfl, hr5, hn5, hb7⟩
        go_wp2_with fail
        go_ret
        rw [HT.out]
        exact ⟨a5, c5, rfl, hr5, hn5, hb6.trans (hb7.mono hb6.size)⟩
    · have HT := Lib.hid (show d = l by rw [← hd]; unfold doT; rw [hf2, if_pos rfl, if_neg hkd])
      have e1 : (x.kind == 1) = false := by rw [beq_eq_false_iff_ne]; exact hkd
      clear hd h1 hf hf2 hkd hmiss
      go_enter Tryd.func38, Tryd.ntmps38
      go_upto_region 1 with fail
      rw [← Hob.out, ← HW1.out]
      go_wp2_with fail
      refine HP.out.mono ?_
      rintro e w2 ⟨rfl, hb2⟩
      have hO2 := hO.keeps hb2 hO.1
      have hbr := hb.trans (hb2.mono hb.size)
      clear o0 o1 o2 o3 o4 o5 o6 o7 o8 o9 o10
      have o0 := hO2.2.2 0 _ rfl
      have o1 := hO2.2.2 1 _ rfl
      have o2 := hO2.2.2 2 _ rfl
      have o3 := hO2.2.2 3 _ rfl
      have o4 := hO2.2.2 4 _ rfl
      have o5 := hO2.2.2 5 _ rfl
      have o6 := hO2.2.2 6 _ rfl
      have o7 := hO2.2.2 7 _ rfl
      have o8 := hO2.2.2 8 _ rfl
      have o9 := hO2.2.2 9 _ rfl
      have o10 := hO2.2.2 10 _ rfl
      go_wp2_with fail
      go_ret
      rw [HT.out]
      exact ⟨a, cap, rfl, HA.out _ hbr, hnil, hbr⟩
end Go.Proofs.YtfbdbjookkogjaaDoor

namespace Go.Proofs.YtfbdbjookkogjaaDoor
open Go Go.RowKit Go.Lib
def NdR (n : Nd) : Prop := idOK n.cnt n.who ∧ idOK n.pc n.pw
def OpR (x : Opr) : Prop := idOK x.nc x.nw ∧ idOK x.pc x.pw
theorem mem_grownT {l : List Nd} {n m : Nd} (h : m ∈ grownT l n) : m = n ∨ m ∈ l := by
  unfold grownT at h
  rcases List.mem_append.1 h with h | h
  · exact .inr (List.mem_of_mem_take h)
  · rcases List.mem_cons.1 h with h | h
    · exact .inl h
    · exact .inr (List.mem_of_mem_drop h)
theorem len_grownT (l : List Nd) (n : Nd) : (grownT l n).length = l.length + 1 := by
  unfold grownT
  rw [List.length_append, List.length_cons, List.length_take, List.length_drop]
  have := List.findIdx_le_length (xs := l) (p := ltNd n)
  omega
theorem doT_len (l : List Nd) (x : Opr) : (doT l x).length ≤ l.length + 1 := by
  unfold doT
  split
  · split
    · rw [len_grownT]
      exact Nat.le_refl _
    · omega
  · split
    · omega
    · split
      · rw [List.length_set]
        omega
      · omega
theorem turnedT_id (l : List Nd) (n : Nd) (x : Opr) : (turnedT l n x).1.cnt = n.cnt ∧ (turnedT l n x).1.who = n.who := by
  unfold turnedT
  split
  · exact ⟨rfl, rfl⟩
  · split
    · exact ⟨rfl, rfl⟩
    · split <;> exact ⟨rfl, rfl⟩
theorem idOK_01 : idOK 0 1 := ⟨by omega, by omega⟩
theorem turnedT_R {l : List Nd} {n : Nd} {x : Opr} (hn : NdR n) (hx : OpR x) : NdR (turnedT l n x).1 := by
  unfold turnedT
  split
  · exact ⟨hn.1, hx.2⟩
  · split
    · exact hn
    · split
      · exact ⟨hn.1, idOK_01⟩
      · exact hn
theorem doT_R {l : List Nd} {x : Opr} (h : ∀ n ∈ l, NdR n) (hx : OpR x) : ∀ n ∈ doT l x, NdR n := by
  intro n hn
  unfold doT at hn
  split at hn
  · split at hn
    · rcases mem_grownT hn with rfl | hn
      · unfold madeT
        split
        · exact ⟨hx.1, hx.2⟩
        · exact ⟨hx.1, idOK_01⟩
      · exact h n hn
    · exact h n hn
  · rename_i hf
    split at hn
    · exact h n hn
    · split at hn
      · rcases List.mem_or_eq_of_mem_set hn with hn | rfl
        · exact h n hn
        · exact turnedT_R (h _ (findT_mem (by simpa using hf)).1) hx
      · exact h n hn
theorem foldT_snoc (l : List Opr) (x : Opr) : foldT (l ++ [x]) = doT (foldT l) x := by
  unfold foldT
  rw [List.foldl_append]
  rfl
theorem foldFrom_len : ∀ (ops : List Opr) (l : List Nd), (ops.foldl doT l).length ≤ l.length + ops.length
  | [], l => Nat.le_refl _
  | x :: r, l => by
    have h1 := foldFrom_len r (doT l x)
    have h2 := doT_len l x
    rw [List.foldl_cons, List.length_cons]
    omega
theorem foldT_len (ops : List Opr) : (foldT ops).length ≤ ops.length := by
  have := foldFrom_len ops []
  rw [List.length_nil] at this
  unfold foldT
  omega
theorem foldFrom_R : ∀ (ops : List Opr) (l : List Nd), (∀ n ∈ l, NdR n) → (∀ x ∈ ops, OpR x) → ∀ n ∈ ops.foldl doT l, NdR n
  | [], _, h, _ => h
  | x :: r, l, h, hx => foldFrom_R r (doT l x) (doT_R h (hx x List.mem_cons_self)) (fun y hy => hx y (List.mem_cons_of_mem _ hy))
theorem foldT_R {ops : List Opr} (hx : ∀ x ∈ ops, OpR x) : ∀ n ∈ foldT ops, NdR n := foldFrom_R ops [] (fun n hn => by simp at hn) hx
set_option maxRecDepth 100000 in
set_option maxHeartbeats 6400000 in
theorem fold_any (a : Option Addr) (cap : Nat) (ops : List Opr) (w : World) (hl : ops.length ≤ 900) (ha : RowsAt oprLay w a ops) (hx : ∀ x ∈ ops, OpR x) :
    Calls Tryd.prog 19 #[.slice a ops.length cap] w fun e w' => ∃ a' cap', e = .returned (.slice a' (foldT ops).length cap') ∧ RowsAt ndLay w' a' (foldT ops) ∧ (a' = none → cap' = 0) ∧ Below w.heap.size w w' := by
  have HA := Lib.hid fun W (h : Below w.heap.size w W) => ha.keeps h
  have HX := Lib.hid hx
  clear ha hx
  go_enter Tryd.func19, Tryd.ntmps19
  go_wp2_with fail
  go_loopw [3, 8] (fun va i wr => ∃ (k : Nat) (a' : Option Addr) (cap' : Nat), k ≤ ops.length ∧ i = .int .i64 k ∧ va = .slice a' (foldT (ops.take k)).length cap' ∧ RowsAt ndLay wr a' (foldT (ops.take k)) ∧ (a' = none → cap' = 0) ∧ Below w.heap.size w wr) (fun _ i _ => ops.length - (RowKit.intOf i).toNat)
  case atStart => exact ⟨0, none, 0, Nat.zero_le _, rfl, rfl, RowsAt.nil _ _ _, fun _ => rfl, Below.refl _ _⟩
  case round =>
    obtain ⟨k, a', cap', hk, rfl, rfl, hr, hn, hb⟩ := hrel
    by_cases hlt : k < ops.length
    · obtain ⟨x, hx⟩ := at_some hlt
      obtain ⟨b, off, hae, hbl, c0, c1, c2, c3, c4, c5, c6, c7, c8, c9, c10⟩ := opr_at (HA.out _ hb) hx
      subst hae
      have Hst := Lib.hid (show foldT (ops.take (k + 1)) = doT (foldT (ops.take k)) x by rw [List.take_add_one, hx, Option.toList_some, foldT_snoc])
      have hR := foldT_R (ops := ops.take k) (fun y hy => HX.out y (List.mem_of_mem_take hy))
      have hlen := foldT_len (ops.take k)
      rw [List.length_take] at hlen
      have hOx := HX.out x (List.mem_of_getElem? hx)
      obtain ⟨l, hl2⟩ : ∃ l, foldT (ops.take k) = l := ⟨_, rfl⟩
      rw [hl2] at hr Hst hR hlen ⊢
      have hbA := (Below.refl wr.heap.size wr).alloc (Nat.le_refl _) (.cells #[.int .i64 x.cnt, .int .i64 x.who, .int .i64 x.seq, .int .i64 x.kind, .int .i64 x.nc, .int .i64 x.nw, .bool x.dir, .int .i64 x.pc, .int .i64 x.pw, .string x.name, .string x.man] 43)
      have HD := Lib.hid (do_any a' cap' l x _ (by omega) hn (hr.keeps hbA) (fun n hn => (hR n hn).2) hOx.2)
      have hbw := hb.trans (hbA.mono hb.size)
      have hlti : (k : Int) < (ops.length : Int) := by omega
      have hlt0 : (0 : Int) ≤ (k : Int) := by omega
      clear hx hl2 hr hR hlen hOx hbA
      go_wp2_with fail
      refine HD.out.mono ?_
      rintro e w2 ⟨a2, cap2, rfl, hr2, hn2, hb2⟩
      go_wp2_with fail
      go_roundw
      case rel => exact ⟨k + 1, a2, cap2, by omega, by go_num, by rw [Hst.out], by rw [Hst.out]; exact hr2, hn2, hbw.trans (hb2.mono hbw.size)⟩
      case measure => simp [RowKit.intOf]; omega
    · obtain rfl : k = ops.length := by omega
      rw [List.take_length] at hr ⊢
      go_wp2_with fail
      go_ret
      exact ⟨a', cap', rfl, hr, hn, hb⟩
end Go.Proofs.YtfbdbjookkogjaaDoor

