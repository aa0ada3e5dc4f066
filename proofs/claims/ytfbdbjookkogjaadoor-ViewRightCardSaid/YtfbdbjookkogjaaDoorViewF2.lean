/-
  Which item has a path, which one a node: what the program and the document answer. Which item has a path, which one a node: view.At, view.Of and the document's.
-/
import Derived.Test.YtfbdbjookkogjaaDoorViewRG
namespace Go.Proofs.YtfbdbjookkogjaaDoor
open Go Go.RowKit Go.Lib

def whereN {α : Type} (p : α → Bool) (l : List α) : Int := if l.findIdx p < l.length then (l.findIdx p : Int) else -1
def itm0 : Itm := ⟨⟨#[]⟩, 0, 0, false, false, ⟨#[]⟩⟩
def Itm.agg (x : Itm) : Value := .agg #[.string x.path, .int .i64 x.cnt, .int .i64 x.who, .bool x.dir, .bool x.ghost, .string x.man]
/-- The first one that is so. -/
def findI (p : Itm → Bool) (l : List Itm) : Itm × Bool := match l.find? p with
  | some x => (x, true)
  | none => (itm0, false)
theorem idx_hitN {α : Type} {l : List α} {p : α → Bool} {k : Nat} {y : α} (hy : l[k]? = some y) (hp : p y = true) (hk : ∀ j z, j < k → l[j]? = some z → p z = false) : l.findIdx p = k := by
  obtain ⟨hlt, e⟩ := List.getElem?_eq_some_iff.1 hy
  refine (List.findIdx_eq hlt).2 ⟨by rw [e]; exact hp, fun j hj => hk j _ hj (List.getElem?_eq_getElem (by omega))⟩
theorem where_hitN {α : Type} {l : List α} {p : α → Bool} {k : Nat} {y : α} (hy : l[k]? = some y) (hp : p y = true) (hk : ∀ j z, j < k → l[j]? = some z → p z = false) : whereN p l = k := by
  unfold whereN
  rw [idx_hitN hy hp hk, if_pos (List.getElem?_eq_some_iff.1 hy).1]
theorem where_missN {α : Type} {l : List α} {p : α → Bool} (hk : ∀ j z, j < l.length → l[j]? = some z → p z = false) : whereN p l = -1 := by
  unfold whereN
  rw [List.findIdx_eq_length.2 (fun z hz => by
    obtain ⟨j, hj, e⟩ := List.mem_iff_getElem.1 hz
    exact hk j z hj (by rw [List.getElem?_eq_getElem hj, e])), if_neg (Nat.lt_irrefl _)]
theorem find_hitN {l : List Itm} {p : Itm → Bool} {k : Nat} {y : Itm} (hy : l[k]? = some y) (hp : p y = true) (hk : ∀ j z, j < k → l[j]? = some z → p z = false) : findI p l = (y, true) := by
  unfold findI
  have h : l.find? p = some y := by
    rw [List.find?_eq_some_iff_getElem]
    obtain ⟨hlt, e⟩ := List.getElem?_eq_some_iff.1 hy
    exact ⟨hp, k, hlt, e, fun j hj => by simpa using hk j _ hj (List.getElem?_eq_getElem (by omega))⟩
  rw [h]
theorem find_missN {l : List Itm} {p : Itm → Bool} (hk : ∀ j z, j < l.length → l[j]? = some z → p z = false) : findI p l = (itm0, false) := by
  unfold findI
  have h : l.find? p = none := by
    rw [List.find?_eq_none]
    intro z hz
    obtain ⟨j, hj, e⟩ := List.mem_iff_getElem.1 hz
    simpa using hk j z hj (by rw [List.getElem?_eq_getElem hj, e])
  rw [h]
theorem where_cases {l : List Itm} {p : Itm → Bool} : (∃ k y, whereN p l = (k : Nat) ∧ l[k]? = some y ∧ findI p l = (y, true)) ∨ (whereN p l = -1 ∧ findI p l = (itm0, false)) := by
  by_cases h : l.findIdx p < l.length
  · refine .inl ⟨l.findIdx p, l[l.findIdx p], ?_, List.getElem?_eq_getElem h, ?_⟩
    · unfold whereN
      rw [if_pos h]
    · refine find_hitN (List.getElem?_eq_getElem h) (List.findIdx_getElem (w := h)) (fun j z hj hz => ?_)
      have h2 := List.not_of_lt_findIdx hj
      obtain ⟨a, b⟩ := List.getElem?_eq_some_iff.1 hz
      rw [b] at h2
      simpa using h2
  · refine .inr ⟨?_, ?_⟩
    · unfold whereN
      rw [if_neg h]
    · refine find_missN (fun j z hj hz => ?_)
      have h2 := List.not_of_lt_findIdx (p := p) (xs := l) (i := j) (by omega)
      obtain ⟨a, b⟩ := List.getElem?_eq_some_iff.1 hz
      rw [b] at h2
      simpa using h2
theorem itmInfo0 : Tryd.prog.info? 34 = Tryd.prog.info? 34 := rfl
theorem ret_intN {a b : Int} (h : a = b) : (Ending.returned (.int .i64 a)) = .returned (.int .i64 b) := by rw [h]
def isPath (s : ByteArray) (x : Itm) : Bool := x.path.toList == s.toList
def isOf (c q : Int) (x : Itm) : Bool := decide (x.cnt = c ∧ x.who = q)
set_option maxRecDepth 100000 in
set_option maxHeartbeats 1600000 in
theorem at_clo (b : Nat) (s : ByteArray) (x : Itm) (w : World) (hv : VarAt w b [.string s]) : Calls Tryd.prog 36 #[.agg #[.string x.path, .int .i64 x.cnt, .int .i64 x.who, .bool x.dir, .bool x.ghost, .string x.man], .pointer (some ⟨b, 0, none⟩)] w fun e w' => e = .returned (.bool (isPath s x)) ∧ Below w.heap.size w w' := by
  obtain ⟨xp, xc, xw, xd, xg, xm⟩ := x
  dsimp only
  have hb := (Below.refl w.heap.size w).alloc (Nat.le_refl _) (.cells #[.string xp, .int .i64 xc, .int .i64 xw, .bool xd, .bool xg, .string xm] 34)
  have hv2 := hv.keeps hb hv.1
  have v0 := hv2.2.2 0 _ rfl
  obtain ⟨r, hr⟩ : ∃ r, isPath s ⟨xp, xc, xw, xd, xg, xm⟩ = r := ⟨_, rfl⟩
  rw [hr]
  have Hr := Lib.hid hr
  clear hr hv hv2
  go_enter Tryd.func36, Tryd.ntmps36
  go_wp2_with fail
  go_ret
  exact ⟨ret_boolN (by rw [← Hr.out]; first | rfl | (unfold isOf; simp)), hb⟩
set_option maxRecDepth 100000 in
set_option maxHeartbeats 1600000 in
theorem at_index (b : Nat) (s : ByteArray) (a : Option Addr) (cap : Nat) (l : List Itm) (w : World) (hl : l.length ≤ 1000000) (ha : RowsAt itmLay w a l) (hv : VarAt w b [.string s]) :
    Calls Tryd.prog 48 #[.slice a l.length cap, .func (.func 36) #[] #[.pointer (some ⟨b, 0, none⟩)]] w fun e w' => e = .returned (.int .i64 (whereN (isPath s) l)) ∧ Below w.heap.size w w' := by
  have HA := Lib.hid ha
  have HF := Lib.hid fun (x : Itm) W (hv : VarAt W b [.string s]) => at_clo b s x W hv
  obtain ⟨p, hp⟩ : ∃ p, isPath s = p := ⟨_, rfl⟩
  rw [hp] at HF ⊢
  obtain ⟨r, hr⟩ : ∃ r, whereN p l = r := ⟨_, rfl⟩
  rw [hr]
  have Hr := Lib.hid hr
  clear ha hr hp
  go_enter Tryd.func48, Tryd.ntmps48
  go_wp2_with fail
  go_loopw [5, 8] (fun _ i wr => ∃ k : Nat, k ≤ l.length ∧ i = .int .i64 k ∧ Hid (∀ j y, j < k → l[j]? = some y → p y = false) ∧ Below w.heap.size w wr) (fun _ i _ => l.length - (RowKit.intOf i).toNat)
  case atStart => exact ⟨0, Nat.zero_le _, rfl, Lib.hid (fun j _ hj => absurd hj (Nat.not_lt_zero _)), Below.refl _ _⟩
  case round =>
    obtain ⟨k, hk, rfl, Hk, hb⟩ := hrel
    by_cases hlt : k < l.length
    · obtain ⟨y, hy⟩ := at_some hlt
      obtain ⟨b1, off, rfl, hbl, c0, c1, c2, c3, c4, c5⟩ := itm_at (HA.out.keeps hb) hy
      have Hy := Lib.hid hy
      have HFy := Lib.hid (HF.out y wr (hv.keeps hb hv.1))
      clear hy
      obtain ⟨v, hv'⟩ : ∃ v, p y = v := ⟨_, rfl⟩
      rw [hv'] at HFy
      have Hv := Lib.hid hv'
      clear hv'
      cases v with
      | true =>
        have Hq := Lib.hid (where_hitN Hy.out Hv.out Hk.out)
        go_wp2_with fail
        refine HFy.out.mono ?_
        rintro e w1 ⟨rfl, hb1⟩
        have hb2 := hb.trans (hb1.mono hb.size)
        go_wp2_with fail
        go_ret
        exact ⟨ret_intN (by rw [← Hr.out, Hq.out]), hb2⟩
      | false =>
        go_wp2_with fail
        refine HFy.out.mono ?_
        rintro e w1 ⟨rfl, hb1⟩
        have hb2 := hb.trans (hb1.mono hb.size)
        go_wp2_with fail
        go_roundw
        case rel =>
          refine ⟨k + 1, by omega, by go_num, Lib.hid (fun j z hj hz => ?_), hb2⟩
          by_cases e : j = k
          · subst e
            rw [Hy.out] at hz
            cases hz
            exact Hv.out
          · exact Hk.out j z (by omega) hz
        case measure => simp [RowKit.intOf]; omega
    · have Hq := Lib.hid (where_missN (l := l) (p := p) (fun j z hj hz => Hk.out j z (by omega) hz))
      go_wp2_with fail
      go_ret
      exact ⟨ret_intN (by rw [← Hr.out, Hq.out]), hb⟩
set_option maxRecDepth 100000 in
set_option maxHeartbeats 1600000 in
theorem at_find (b : Nat) (s : ByteArray) (a : Option Addr) (cap : Nat) (l : List Itm) (w : World) (hl : l.length ≤ 1000000) (ha : RowsAt itmLay w a l) (hv : VarAt w b [.string s]) :
    Calls Tryd.prog 35 #[.slice a l.length cap, .func (.func 36) #[] #[.pointer (some ⟨b, 0, none⟩)]] w fun e w' => e = .returned (.tuple #[(findI (isPath s) l).1.agg, .bool (findI (isPath s) l).2]) ∧ Below w.heap.size w w' := by
  have hbz := (Below.refl w.heap.size w).alloc (Nat.le_refl _) (.cells #[.string ⟨#[]⟩, .int .i64 0, .int .i64 0, .bool false, .bool false, .string ⟨#[]⟩] 34)
  have hR := VarAt.new w #[.string ⟨#[]⟩, .int .i64 0, .int .i64 0, .bool false, .bool false, .string ⟨#[]⟩] 34
  obtain ⟨rb, hrb⟩ : ∃ rb, rb = w.heap.size := ⟨_, rfl⟩
  rw [← hrb] at hR
  have Hrb := Lib.hid hrb
  have HI := Lib.hid fun W (h : Below w.heap.size w W) => at_index b s a cap l W hl (ha.keeps h) (hv.keeps h hv.1)
  have HC := Lib.hid (where_cases (l := l) (p := isPath s))
  have HA := Lib.hid fun W (h : Below w.heap.size w W) => ha.keeps h
  obtain ⟨r, hr⟩ : ∃ r, findI (isPath s) l = r := ⟨_, rfl⟩
  obtain ⟨q1, hq1⟩ : ∃ q1, whereN (isPath s) l = q1 := ⟨_, rfl⟩
  rw [hr] at HC ⊢
  rw [hq1] at HC HI
  clear hr hq1 ha hv hrb
  obtain ⟨rx, rok⟩ := r
  dsimp only
  unfold Itm.agg
  go_enter Tryd.func35, Tryd.ntmps35
  go_upto_region 1 with fail
  rw [← Hrb.out]
  generalize w.alloc _ = W1 at *
  have HI2 := Lib.hid (HI.out W1 hbz)
  go_wp2_with fail
  refine HI2.out.mono ?_
  rintro e w2 ⟨rfl, hb2⟩
  have hbw := hbz.trans (hb2.mono hbz.size)
  have hR2 := hR.keeps hb2 hR.1
  have ff := hR2.2.1
  have f0 := hR2.2.2 0 _ rfl
  have f1 := hR2.2.2 1 _ rfl
  have f2 := hR2.2.2 2 _ rfl
  have f3 := hR2.2.2 3 _ rfl
  have f4 := hR2.2.2 4 _ rfl
  have f5 := hR2.2.2 5 _ rfl
  clear hR HI HI2 hb2
  rcases HC.out with ⟨k, y, rfl, hy, hf⟩ | ⟨rfl, hf⟩
  · obtain ⟨rfl, rfl⟩ := Prod.mk.inj hf
    have hkl := (List.getElem?_eq_some_iff.1 hy).1
    obtain ⟨b1, off, rfl, hbl, c0, c1, c2, c3, c4, c5⟩ := itm_at (HA.out w2 hbw) hy
    have hk0 : (0 : Int) ≤ (k : Int) := by omega
    have hk1 : (k : Int) < (l.length : Int) := by omega
    clear hy hf HC
    go_wp2_with fail
    have hR5 := hR2.put [.string rx.path, .int .i64 rx.cnt, .int .i64 rx.who, .bool rx.dir, .bool rx.ghost, .string rx.man] rfl
    have hB5 := belowPut (b := rb) hbw [.string rx.path, .int .i64 rx.cnt, .int .i64 rx.who, .bool rx.dir, .bool rx.ghost, .string rx.man] 0 (by have := Hrb.out; omega)
    simp only [putRow, Nat.zero_add, Nat.reduceAdd] at hR5 hB5
    have e0 := hR5.2.2 0 _ rfl
    have e1 := hR5.2.2 1 _ rfl
    have e2 := hR5.2.2 2 _ rfl
    have e3 := hR5.2.2 3 _ rfl
    have e4 := hR5.2.2 4 _ rfl
    have e5 := hR5.2.2 5 _ rfl
    refine bodyPost_ret (v := .tuple #[.agg #[.string rx.path, .int .i64 rx.cnt, .int .i64 rx.who, .bool rx.dir, .bool rx.ghost, .string rx.man], .bool true]) (by simp [results, Tryd.results35, go_sem, e0, e1, e2, e3, e4, e5]) rfl ⟨rfl, hB5⟩
  · obtain ⟨rfl, rfl⟩ := Prod.mk.inj hf
    clear hf HC
    dsimp only [itm0]
    go_wp2_with fail
    have hR5 := hR2.put [.string ⟨#[]⟩, .int .i64 0, .int .i64 0, .bool false, .bool false, .string ⟨#[]⟩] rfl
    have hB5 := belowPut (b := rb) hbw [.string ⟨#[]⟩, .int .i64 0, .int .i64 0, .bool false, .bool false, .string ⟨#[]⟩] 0 (by have := Hrb.out; omega)
    simp only [putRow, Nat.zero_add, Nat.reduceAdd] at hR5 hB5
    have e0 := hR5.2.2 0 _ rfl
    have e1 := hR5.2.2 1 _ rfl
    have e2 := hR5.2.2 2 _ rfl
    have e3 := hR5.2.2 3 _ rfl
    have e4 := hR5.2.2 4 _ rfl
    have e5 := hR5.2.2 5 _ rfl
    refine bodyPost_ret (v := .tuple #[.agg #[.string ⟨#[]⟩, .int .i64 0, .int .i64 0, .bool false, .bool false, .string ⟨#[]⟩], .bool false]) (by simp [results, Tryd.results35, go_sem, e0, e1, e2, e3, e4, e5]) rfl ⟨rfl, hB5⟩
set_option maxRecDepth 100000 in
set_option maxHeartbeats 1600000 in
theorem of_clo (b : Nat) (c q : Int) (x : Itm) (w : World) (hv : VarAt w b [.int .i64 c, .int .i64 q]) : Calls Tryd.prog 37 #[.agg #[.string x.path, .int .i64 x.cnt, .int .i64 x.who, .bool x.dir, .bool x.ghost, .string x.man], .pointer (some ⟨b, 0, none⟩)] w fun e w' => e = .returned (.bool (isOf c q x)) ∧ Below w.heap.size w w' := by
  obtain ⟨xp, xc, xw, xd, xg, xm⟩ := x
  dsimp only
  have hb := (Below.refl w.heap.size w).alloc (Nat.le_refl _) (.cells #[.string xp, .int .i64 xc, .int .i64 xw, .bool xd, .bool xg, .string xm] 34)
  have hv2 := hv.keeps hb hv.1
  have v0 := hv2.2.2 0 _ rfl
  have v1 := hv2.2.2 1 _ rfl
  have heq := eqlSt xc xw c q
  obtain ⟨r, hr⟩ : ∃ r, isOf c q ⟨xp, xc, xw, xd, xg, xm⟩ = r := ⟨_, rfl⟩
  rw [hr]
  have Hr := Lib.hid hr
  clear hr hv hv2
  go_enter Tryd.func37, Tryd.ntmps37
  go_wp2_with fail
  go_ret
  exact ⟨ret_boolN (by rw [← Hr.out]; first | rfl | (unfold isOf; simp)), hb⟩
set_option maxRecDepth 100000 in
set_option maxHeartbeats 1600000 in
theorem of_index (b : Nat) (c q : Int) (a : Option Addr) (cap : Nat) (l : List Itm) (w : World) (hl : l.length ≤ 1000000) (ha : RowsAt itmLay w a l) (hv : VarAt w b [.int .i64 c, .int .i64 q]) :
    Calls Tryd.prog 48 #[.slice a l.length cap, .func (.func 37) #[] #[.pointer (some ⟨b, 0, none⟩)]] w fun e w' => e = .returned (.int .i64 (whereN (isOf c q) l)) ∧ Below w.heap.size w w' := by
  have HA := Lib.hid ha
  have HF := Lib.hid fun (x : Itm) W (hv : VarAt W b [.int .i64 c, .int .i64 q]) => of_clo b c q x W hv
  obtain ⟨p, hp⟩ : ∃ p, isOf c q = p := ⟨_, rfl⟩
  rw [hp] at HF ⊢
  obtain ⟨r, hr⟩ : ∃ r, whereN p l = r := ⟨_, rfl⟩
  rw [hr]
  have Hr := Lib.hid hr
  clear ha hr hp
  go_enter Tryd.func48, Tryd.ntmps48
  go_wp2_with fail
  go_loopw [5, 8] (fun _ i wr => ∃ k : Nat, k ≤ l.length ∧ i = .int .i64 k ∧ Hid (∀ j y, j < k → l[j]? = some y → p y = false) ∧ Below w.heap.size w wr) (fun _ i _ => l.length - (RowKit.intOf i).toNat)
  case atStart => exact ⟨0, Nat.zero_le _, rfl, Lib.hid (fun j _ hj => absurd hj (Nat.not_lt_zero _)), Below.refl _ _⟩
  case round =>
    obtain ⟨k, hk, rfl, Hk, hb⟩ := hrel
    by_cases hlt : k < l.length
    · obtain ⟨y, hy⟩ := at_some hlt
      obtain ⟨b1, off, rfl, hbl, c0, c1, c2, c3, c4, c5⟩ := itm_at (HA.out.keeps hb) hy
      have Hy := Lib.hid hy
      have HFy := Lib.hid (HF.out y wr (hv.keeps hb hv.1))
      clear hy
      obtain ⟨v, hv'⟩ : ∃ v, p y = v := ⟨_, rfl⟩
      rw [hv'] at HFy
      have Hv := Lib.hid hv'
      clear hv'
      cases v with
      | true =>
        have Hq := Lib.hid (where_hitN Hy.out Hv.out Hk.out)
        go_wp2_with fail
        refine HFy.out.mono ?_
        rintro e w1 ⟨rfl, hb1⟩
        have hb2 := hb.trans (hb1.mono hb.size)
        go_wp2_with fail
        go_ret
        exact ⟨ret_intN (by rw [← Hr.out, Hq.out]), hb2⟩
      | false =>
        go_wp2_with fail
        refine HFy.out.mono ?_
        rintro e w1 ⟨rfl, hb1⟩
        have hb2 := hb.trans (hb1.mono hb.size)
        go_wp2_with fail
        go_roundw
        case rel =>
          refine ⟨k + 1, by omega, by go_num, Lib.hid (fun j z hj hz => ?_), hb2⟩
          by_cases e : j = k
          · subst e
            rw [Hy.out] at hz
            cases hz
            exact Hv.out
          · exact Hk.out j z (by omega) hz
        case measure => simp [RowKit.intOf]; omega
    · have Hq := Lib.hid (where_missN (l := l) (p := p) (fun j z hj hz => Hk.out j z (by omega) hz))
      go_wp2_with fail
      go_ret
      exact ⟨ret_intN (by rw [← Hr.out, Hq.out]), hb⟩
set_option maxRecDepth 100000 in
set_option maxHeartbeats 1600000 in
theorem of_find (b : Nat) (c q : Int) (a : Option Addr) (cap : Nat) (l : List Itm) (w : World) (hl : l.length ≤ 1000000) (ha : RowsAt itmLay w a l) (hv : VarAt w b [.int .i64 c, .int .i64 q]) :
    Calls Tryd.prog 35 #[.slice a l.length cap, .func (.func 37) #[] #[.pointer (some ⟨b, 0, none⟩)]] w fun e w' => e = .returned (.tuple #[(findI (isOf c q) l).1.agg, .bool (findI (isOf c q) l).2]) ∧ Below w.heap.size w w' := by
  have hbz := (Below.refl w.heap.size w).alloc (Nat.le_refl _) (.cells #[.string ⟨#[]⟩, .int .i64 0, .int .i64 0, .bool false, .bool false, .string ⟨#[]⟩] 34)
  have hR := VarAt.new w #[.string ⟨#[]⟩, .int .i64 0, .int .i64 0, .bool false, .bool false, .string ⟨#[]⟩] 34
  obtain ⟨rb, hrb⟩ : ∃ rb, rb = w.heap.size := ⟨_, rfl⟩
  rw [← hrb] at hR
  have Hrb := Lib.hid hrb
  have HI := Lib.hid fun W (h : Below w.heap.size w W) => of_index b c q a cap l W hl (ha.keeps h) (hv.keeps h hv.1)
  have HC := Lib.hid (where_cases (l := l) (p := isOf c q))
  have HA := Lib.hid fun W (h : Below w.heap.size w W) => ha.keeps h
  obtain ⟨r, hr⟩ : ∃ r, findI (isOf c q) l = r := ⟨_, rfl⟩
  obtain ⟨q1, hq1⟩ : ∃ q1, whereN (isOf c q) l = q1 := ⟨_, rfl⟩
  rw [hr] at HC ⊢
  rw [hq1] at HC HI
  clear hr hq1 ha hv hrb
  obtain ⟨rx, rok⟩ := r
  dsimp only
  unfold Itm.agg
  go_enter Tryd.func35, Tryd.ntmps35
  go_upto_region 1 with fail
  rw [← Hrb.out]
  generalize w.alloc _ = W1 at *
  have HI2 := Lib.hid (HI.out W1 hbz)
  go_wp2_with fail
  refine HI2.out.mono ?_
  rintro e w2 ⟨rfl, hb2⟩
  have hbw := hbz.trans (hb2.mono hbz.size)
  have hR2 := hR.keeps hb2 hR.1
  have ff := hR2.2.1
  have f0 := hR2.2.2 0 _ rfl
  have f1 := hR2.2.2 1 _ rfl
  have f2 := hR2.2.2 2 _ rfl
  have f3 := hR2.2.2 3 _ rfl
  have f4 := hR2.2.2 4 _ rfl
  have f5 := hR2.2.2 5 _ rfl
  clear hR HI HI2 hb2
  rcases HC.out with ⟨k, y, rfl, hy, hf⟩ | ⟨rfl, hf⟩
  · obtain ⟨rfl, rfl⟩ := Prod.mk.inj hf
    have hkl := (List.getElem?_eq_some_iff.1 hy).1
    obtain ⟨b1, off, rfl, hbl, c0, c1, c2, c3, c4, c5⟩ := itm_at (HA.out w2 hbw) hy
    have hk0 : (0 : Int) ≤ (k : Int) := by omega
    have hk1 : (k : Int) < (l.length : Int) := by omega
    clear hy hf HC
    go_wp2_with fail
    have hR5 := hR2.put [.string rx.path, .int .i64 rx.cnt, .int .i64 rx.who, .bool rx.dir, .bool rx.ghost, .string rx.man] rfl
    have hB5 := belowPut (b := rb) hbw [.string rx.path, .int .i64 rx.cnt, .int .i64 rx.who, .bool rx.dir, .bool rx.ghost, .string rx.man] 0 (by have := Hrb.out; omega)
    simp only [putRow, Nat.zero_add, Nat.reduceAdd] at hR5 hB5
    have e0 := hR5.2.2 0 _ rfl
    have e1 := hR5.2.2 1 _ rfl
    have e2 := hR5.2.2 2 _ rfl
    have e3 := hR5.2.2 3 _ rfl
    have e4 := hR5.2.2 4 _ rfl
    have e5 := hR5.2.2 5 _ rfl
    refine bodyPost_ret (v := .tuple #[.agg #[.string rx.path, .int .i64 rx.cnt, .int .i64 rx.who, .bool rx.dir, .bool rx.ghost, .string rx.man], .bool true]) (by simp [results, Tryd.results35, go_sem, e0, e1, e2, e3, e4, e5]) rfl ⟨rfl, hB5⟩
  · obtain ⟨rfl, rfl⟩ := Prod.mk.inj hf
    clear hf HC
    dsimp only [itm0]
    go_wp2_with fail
    have hR5 := hR2.put [.string ⟨#[]⟩, .int .i64 0, .int .i64 0, .bool false, .bool false, .string ⟨#[]⟩] rfl
    have hB5 := belowPut (b := rb) hbw [.string ⟨#[]⟩, .int .i64 0, .int .i64 0, .bool false, .bool false, .string ⟨#[]⟩] 0 (by have := Hrb.out; omega)
    simp only [putRow, Nat.zero_add, Nat.reduceAdd] at hR5 hB5
    have e0 := hR5.2.2 0 _ rfl
    have e1 := hR5.2.2 1 _ rfl
    have e2 := hR5.2.2 2 _ rfl
    have e3 := hR5.2.2 3 _ rfl
    have e4 := hR5.2.2 4 _ rfl
    have e5 := hR5.2.2 5 _ rfl
    refine bodyPost_ret (v := .tuple #[.agg #[.string ⟨#[]⟩, .int .i64 0, .int .i64 0, .bool false, .bool false, .string ⟨#[]⟩], .bool false]) (by simp [results, Tryd.results35, go_sem, e0, e1, e2, e3, e4, e5]) rfl ⟨rfl, hB5⟩
end Go.Proofs.YtfbdbjookkogjaaDoor

namespace Go.Proofs.YtfbdbjookkogjaaDoor
open Go Go.RowKit Go.Lib
set_option maxRecDepth 100000 in
set_option maxHeartbeats 1600000 in
theorem at_any (a : Option Addr) (cap : Nat) (l : List Itm) (s : ByteArray) (w : World) (hl : l.length ≤ 1000000) (ha : RowsAt itmLay w a l) :
    Calls Tryd.prog 14 #[.slice a l.length cap, .string s] w fun e w' => e = .returned (.tuple #[(findI (isPath s) l).1.agg, .bool (findI (isPath s) l).2]) ∧ Below w.heap.size w w' := by
  have hb1 := (Below.refl w.heap.size w).alloc (Nat.le_refl _) (.cells #[.string s] 9)
  have hS0 := VarAt.new w #[.string s] 9
  have hR0 := VarAt.new (w.alloc (.cells #[.string s] 9)) #[.string ⟨#[]⟩, .int .i64 0, .int .i64 0, .bool false, .bool false, .string ⟨#[]⟩] 34
  have hbz := hb1.alloc hb1.size (.cells #[.string ⟨#[]⟩, .int .i64 0, .int .i64 0, .bool false, .bool false, .string ⟨#[]⟩] 34)
  have hS := hS0.keeps ((Below.refl _ _).alloc (Nat.le_refl _) (.cells #[.string ⟨#[]⟩, .int .i64 0, .int .i64 0, .bool false, .bool false, .string ⟨#[]⟩] 34)) hS0.1
  obtain ⟨rb, hrb⟩ : ∃ rb, rb = w.heap.size + 1 := ⟨_, rfl⟩
  obtain ⟨sb, hsb⟩ : ∃ sb, sb = w.heap.size := ⟨_, rfl⟩
  rw [show (w.alloc (.cells #[.string s] 9)).heap.size = rb by rw [hrb]; simp] at hR0
  rw [← hsb] at hS
  have Hrb := Lib.hid hrb
  have Hsb := Lib.hid hsb
  have HI := Lib.hid (at_find sb s a cap l _ hl (ha.keeps hbz) hS)
  obtain ⟨r, hr⟩ : ∃ r, findI (isPath s) l = r := ⟨_, rfl⟩
  rw [hr] at HI ⊢
  clear hr ha hrb hsb hb1 hS0 hS
  obtain ⟨rx, rok⟩ := r
  dsimp only at HI ⊢
  unfold Itm.agg at HI ⊢
  go_enter Tryd.func14, Tryd.ntmps14
  go_upto_region 1 with fail
  rw [← Hrb.out, ← Hsb.out]
  generalize (w.alloc (.cells #[.string s] 9)).alloc (.cells #[.string ⟨#[]⟩, .int .i64 0, .int .i64 0, .bool false, .bool false, .string ⟨#[]⟩] 34) = W1 at *
  go_wp2_with fail
  refine HI.out.mono ?_
  rintro e w2 ⟨rfl, hb2⟩
  have hbw := hbz.trans (hb2.mono hbz.size)
  have hR2 := hR0.keeps hb2 hR0.1
  have ff := hR2.2.1
  have f0 := hR2.2.2 0 _ rfl
  have f1 := hR2.2.2 1 _ rfl
  have f2 := hR2.2.2 2 _ rfl
  have f3 := hR2.2.2 3 _ rfl
  have f4 := hR2.2.2 4 _ rfl
  have f5 := hR2.2.2 5 _ rfl
  clear hR0 HI hb2
  go_wp2_with fail
  have hR5 := hR2.put [.string rx.path, .int .i64 rx.cnt, .int .i64 rx.who, .bool rx.dir, .bool rx.ghost, .string rx.man] rfl
  have hB5 := belowPut (b := rb) hbw [.string rx.path, .int .i64 rx.cnt, .int .i64 rx.who, .bool rx.dir, .bool rx.ghost, .string rx.man] 0 (by have := Hrb.out; omega)
  simp only [putRow, Nat.zero_add, Nat.reduceAdd] at hR5 hB5
  have e0 := hR5.2.2 0 _ rfl
  have e1 := hR5.2.2 1 _ rfl
  have e2 := hR5.2.2 2 _ rfl
  have e3 := hR5.2.2 3 _ rfl
  have e4 := hR5.2.2 4 _ rfl
  have e5 := hR5.2.2 5 _ rfl
  refine bodyPost_ret (v := .tuple #[.agg #[.string rx.path, .int .i64 rx.cnt, .int .i64 rx.who, .bool rx.dir, .bool rx.ghost, .string rx.man], .bool rok]) (by simp [results, Tryd.results14, go_sem, e0, e1, e2, e3, e4, e5]) rfl ⟨rfl, hB5⟩
set_option maxRecDepth 100000 in
set_option maxHeartbeats 1600000 in
theorem riat_any (a : Option Addr) (cap : Nat) (l : List Itm) (s : ByteArray) (w : World) (hl : l.length ≤ 1000000) (ha : RowsAt itmLay w a l) :
    Calls Tryd.prog 15 #[.slice a l.length cap, .string s] w fun e w' => e = .returned (.tuple #[(findI (isPath s) l).1.agg, .bool (findI (isPath s) l).2]) ∧ Below w.heap.size w w' := by
  have hb1 := Below.refl w.heap.size w
  obtain ⟨rb, hrb⟩ : ∃ rb, rb = w.heap.size := ⟨_, rfl⟩
  have hR0 := VarAt.new w #[.string ⟨#[]⟩, .int .i64 0, .int .i64 0, .bool false, .bool false, .string ⟨#[]⟩] 34
  have hbz := hb1.alloc hb1.size (.cells #[.string ⟨#[]⟩, .int .i64 0, .int .i64 0, .bool false, .bool false, .string ⟨#[]⟩] 34)
  rw [show w.heap.size = rb by rw [hrb]] at hR0
  have Hrb := Lib.hid hrb
  have HA := Lib.hid fun W (h : Below w.heap.size w W) => ha.keeps h
  obtain ⟨p, hp⟩ : ∃ p, isPath s = p := ⟨_, rfl⟩
  have Hp := Lib.hid (show ∀ x, p x = (x.path.toList == s.toList) from fun x => by rw [← hp]; rfl)
  obtain ⟨r, hr⟩ : ∃ r, findI (isPath s) l = r := ⟨_, rfl⟩
  rw [hr]
  rw [hp] at hr
  have Hr := Lib.hid hr
  clear hr ha hrb hp hb1
  obtain ⟨rx, rok⟩ := r
  dsimp only
  unfold Itm.agg
  go_enter Tryd.func15, Tryd.ntmps15
  go_upto_region 1 with fail
  rw [← Hrb.out]
  generalize w.alloc (.cells #[.string ⟨#[]⟩, .int .i64 0, .int .i64 0, .bool false, .bool false, .string ⟨#[]⟩] 34) = W1 at *
  go_wp2_with fail
  go_loopw [6] (fun i wr => ∃ k : Nat, k ≤ l.length ∧ i = .int .i64 k ∧ Hid (∀ j y, j < k → l[j]? = some y → p y = false) ∧ Below W1.heap.size W1 wr) (fun i _ => l.length - (RowKit.intOf i).toNat)
  case atStart => exact ⟨0, Nat.zero_le _, rfl, Lib.hid (fun j _ hj => absurd hj (Nat.not_lt_zero _)), Below.refl _ _⟩
  case round =>
    obtain ⟨k, hk, rfl, Hk, hb⟩ := hrel
    have hbw := hbz.trans (hb.mono hbz.size)
    have hR2 := hR0.keeps hb hR0.1
    have ff := hR2.2.1
    have f0 := hR2.2.2 0 _ rfl
    have f1 := hR2.2.2 1 _ rfl
    have f2 := hR2.2.2 2 _ rfl
    have f3 := hR2.2.2 3 _ rfl
    have f4 := hR2.2.2 4 _ rfl
    have f5 := hR2.2.2 5 _ rfl
    by_cases hlt : k < l.length
    · obtain ⟨y, hy⟩ := at_some hlt
      obtain ⟨b1, off, rfl, hbl, c0, c1, c2, c3, c4, c5⟩ := itm_at (HA.out wr hbw) hy
      have Hy := Lib.hid hy
      have hk0 : (0 : Int) ≤ (k : Int) := by omega
      have hk1 : (k : Int) < (l.length : Int) := by omega
      have hpy := Hp.out y
      clear hy
      obtain ⟨v, hv'⟩ : ∃ v, (y.path.toList == s.toList) = v := ⟨_, rfl⟩
      rw [hv'] at hpy
      have Hv := Lib.hid hpy
      clear hpy
      cases v with
      | true =>
        obtain ⟨rfl, rfl⟩ := Prod.mk.inj (Hr.out.symm.trans (find_hitN Hy.out Hv.out Hk.out))
        go_wp2_with fail
        have hR5 := hR2.put [.string rx.path, .int .i64 rx.cnt, .int .i64 rx.who, .bool rx.dir, .bool rx.ghost, .string rx.man] rfl
        have hB5 := belowPut (b := rb) hbw [.string rx.path, .int .i64 rx.cnt, .int .i64 rx.who, .bool rx.dir, .bool rx.ghost, .string rx.man] 0 (by have := Hrb.out; omega)
        simp only [putRow, Nat.zero_add, Nat.reduceAdd] at hR5 hB5
        have e0 := hR5.2.2 0 _ rfl
        have e1 := hR5.2.2 1 _ rfl
        have e2 := hR5.2.2 2 _ rfl
        have e3 := hR5.2.2 3 _ rfl
        have e4 := hR5.2.2 4 _ rfl
        have e5 := hR5.2.2 5 _ rfl
        refine bodyPost_ret (v := .tuple #[.agg #[.string rx.path, .int .i64 rx.cnt, .int .i64 rx.who, .bool rx.dir, .bool rx.ghost, .string rx.man], .bool true]) (by simp [results, Tryd.results15, go_sem, e0, e1, e2, e3, e4, e5]) rfl ⟨rfl, hB5⟩
      | false =>
        go_wp2_with fail
        go_roundw
        case rel =>
          refine ⟨k + 1, by omega, by go_num, Lib.hid (fun j z hj hz => ?_), hb⟩
          by_cases e : j = k
          · subst e
            rw [Hy.out] at hz
            cases hz
            exact Hv.out
          · exact Hk.out j z (by omega) hz
        case measure => simp [RowKit.intOf]; omega
    · obtain ⟨rfl, rfl⟩ := Prod.mk.inj (Hr.out.symm.trans (find_missN (l := l) (p := p) (fun j z hj hz => Hk.out j z (by omega) hz)))
      try dsimp only [itm0]
      go_wp2_with fail
      have hR5 := hR2.put [.string ⟨#[]⟩, .int .i64 0, .int .i64 0, .bool false, .bool false, .string ⟨#[]⟩] rfl
      have hB5 := belowPut (b := rb) hbw [.string ⟨#[]⟩, .int .i64 0, .int .i64 0, .bool false, .bool false, .string ⟨#[]⟩] 0 (by have := Hrb.out; omega)
      simp only [putRow, Nat.zero_add, Nat.reduceAdd] at hR5 hB5
      have e0 := hR5.2.2 0 _ rfl
      have e1 := hR5.2.2 1 _ rfl
      have e2 := hR5.2.2 2 _ rfl
      have e3 := hR5.2.2 3 _ rfl
      have e4 := hR5.2.2 4 _ rfl
      have e5 := hR5.2.2 5 _ rfl
      refine bodyPost_ret (v := .tuple #[.agg #[.string ⟨#[]⟩, .int .i64 0, .int .i64 0, .bool false, .bool false, .string ⟨#[]⟩], .bool false]) (by simp [results, Tryd.results15, go_sem, e0, e1, e2, e3, e4, e5]) rfl ⟨rfl, hB5⟩
set_option maxRecDepth 100000 in
set_option maxHeartbeats 1600000 in
theorem of_any (a : Option Addr) (cap : Nat) (l : List Itm) (c q : Int) (w : World) (hl : l.length ≤ 1000000) (ha : RowsAt itmLay w a l) :
    Calls Tryd.prog 16 #[.slice a l.length cap, .agg #[.int .i64 c, .int .i64 q]] w fun e w' => e = .returned (.tuple #[(findI (isOf c q) l).1.agg, .bool (findI (isOf c q) l).2]) ∧ Below w.heap.size w w' := by
  have hb1 := (Below.refl w.heap.size w).alloc (Nat.le_refl _) (.cells #[.int .i64 c, .int .i64 q] 32)
  have hS0 := VarAt.new w #[.int .i64 c, .int .i64 q] 32
  have hR0 := VarAt.new (w.alloc (.cells #[.int .i64 c, .int .i64 q] 32)) #[.string ⟨#[]⟩, .int .i64 0, .int .i64 0, .bool false, .bool false, .string ⟨#[]⟩] 34
  have hbz := hb1.alloc hb1.size (.cells #[.string ⟨#[]⟩, .int .i64 0, .int .i64 0, .bool false, .bool false, .string ⟨#[]⟩] 34)
  have hS := hS0.keeps ((Below.refl _ _).alloc (Nat.le_refl _) (.cells #[.string ⟨#[]⟩, .int .i64 0, .int .i64 0, .bool false, .bool false, .string ⟨#[]⟩] 34)) hS0.1
  obtain ⟨rb, hrb⟩ : ∃ rb, rb = w.heap.size + 1 := ⟨_, rfl⟩
  obtain ⟨sb, hsb⟩ : ∃ sb, sb = w.heap.size := ⟨_, rfl⟩
  rw [show (w.alloc (.cells #[.int .i64 c, .int .i64 q] 32)).heap.size = rb by rw [hrb]; simp] at hR0
  rw [← hsb] at hS
  have Hrb := Lib.hid hrb
  have Hsb := Lib.hid hsb
  have HI := Lib.hid (of_find sb c q a cap l _ hl (ha.keeps hbz) hS)
  obtain ⟨r, hr⟩ : ∃ r, findI (isOf c q) l = r := ⟨_, rfl⟩
  rw [hr] at HI ⊢
  clear hr ha hrb hsb hb1 hS0 hS
  obtain ⟨rx, rok⟩ := r
  dsimp only at HI ⊢
  unfold Itm.agg at HI ⊢
  go_enter Tryd.func16, Tryd.ntmps16
  go_upto_region 1 with fail
  rw [← Hrb.out, ← Hsb.out]
  generalize (w.alloc (.cells #[.int .i64 c, .int .i64 q] 32)).alloc (.cells #[.string ⟨#[]⟩, .int .i64 0, .int .i64 0, .bool false, .bool false, .string ⟨#[]⟩] 34) = W1 at *
  go_wp2_with fail
  refine HI.out.mono ?_
  rintro e w2 ⟨rfl, hb2⟩
  have hbw := hbz.trans (hb2.mono hbz.size)
  have hR2 := hR0.keeps hb2 hR0.1
  have ff := hR2.2.1
  have f0 := hR2.2.2 0 _ rfl
  have f1 := hR2.2.2 1 _ rfl
  have f2 := hR2.2.2 2 _ rfl
  have f3 := hR2.2.2 3 _ rfl
  have f4 := hR2.2.2 4 _ rfl
  have f5 := hR2.2.2 5 _ rfl
  clear hR0 HI hb2
  go_wp2_with fail
  have hR5 := hR2.put [.string rx.path, .int .i64 rx.cnt, .int .i64 rx.who, .bool rx.dir, .bool rx.ghost, .string rx.man] rfl
  have hB5 := belowPut (b := rb) hbw [.string rx.path, .int .i64 rx.cnt, .int .i64 rx.who, .bool rx.dir, .bool rx.ghost, .string rx.man] 0 (by have := Hrb.out; omega)
  simp only [putRow, Nat.zero_add, Nat.reduceAdd] at hR5 hB5
  have e0 := hR5.2.2 0 _ rfl
  have e1 := hR5.2.2 1 _ rfl
  have e2 := hR5.2.2 2 _ rfl
  have e3 := hR5.2.2 3 _ rfl
  have e4 := hR5.2.2 4 _ rfl
  have e5 := hR5.2.2 5 _ rfl
  refine bodyPost_ret (v := .tuple #[.agg #[.string rx.path, .int .i64 rx.cnt, .int .i64 rx.who, .bool rx.dir, .bool rx.ghost, .string rx.man], .bool rok]) (by simp [results, Tryd.results16, go_sem, e0, e1, e2, e3, e4, e5]) rfl ⟨rfl, hB5⟩
set_option maxRecDepth 100000 in
set_option maxHeartbeats 1600000 in
theorem riof_any (a : Option Addr) (cap : Nat) (l : List Itm) (c q : Int) (w : World) (hl : l.length ≤ 1000000) (ha : RowsAt itmLay w a l) :
    Calls Tryd.prog 17 #[.slice a l.length cap, .agg #[.int .i64 c, .int .i64 q]] w fun e w' => e = .returned (.tuple #[(findI (isOf c q) l).1.agg, .bool (findI (isOf c q) l).2]) ∧ Below w.heap.size w w' := by
  have hb1 := (Below.refl w.heap.size w).alloc (Nat.le_refl _) (.cells #[.int .i64 c, .int .i64 q] 32)
  have hS0 := VarAt.new w #[.int .i64 c, .int .i64 q] 32
  have hS := hS0.keeps ((Below.refl _ _).alloc (Nat.le_refl _) (.cells #[.string ⟨#[]⟩, .int .i64 0, .int .i64 0, .bool false, .bool false, .string ⟨#[]⟩] 34)) hS0.1
  obtain ⟨rb, hrb⟩ : ∃ rb, rb = w.heap.size + 1 := ⟨_, rfl⟩
  obtain ⟨sb, hsb⟩ : ∃ sb, sb = w.heap.size := ⟨_, rfl⟩
  rw [← hsb] at hS
  have Hsb := Lib.hid hsb
  have hR0 := VarAt.new (w.alloc (.cells #[.int .i64 c, .int .i64 q] 32)) #[.string ⟨#[]⟩, .int .i64 0, .int .i64 0, .bool false, .bool false, .string ⟨#[]⟩] 34
  have hbz := hb1.alloc hb1.size (.cells #[.string ⟨#[]⟩, .int .i64 0, .int .i64 0, .bool false, .bool false, .string ⟨#[]⟩] 34)
  rw [show (w.alloc (.cells #[.int .i64 c, .int .i64 q] 32)).heap.size = rb by rw [hrb]; simp] at hR0
  have Hrb := Lib.hid hrb
  have HA := Lib.hid fun W (h : Below w.heap.size w W) => ha.keeps h
  obtain ⟨p, hp⟩ : ∃ p, isOf c q = p := ⟨_, rfl⟩
  have Hp := Lib.hid (show ∀ x, p x = decide (x.cnt = c ∧ x.who = q) from fun x => by rw [← hp]; rfl)
  obtain ⟨r, hr⟩ : ∃ r, findI (isOf c q) l = r := ⟨_, rfl⟩
  rw [hr]
  rw [hp] at hr
  have Hr := Lib.hid hr
  clear hr ha hrb hp hb1 hsb hS0
  obtain ⟨rx, rok⟩ := r
  dsimp only
  unfold Itm.agg
  go_enter Tryd.func17, Tryd.ntmps17
  go_upto_region 1 with fail
  rw [← Hrb.out, ← Hsb.out]
  generalize (w.alloc (.cells #[.int .i64 c, .int .i64 q] 32)).alloc (.cells #[.string ⟨#[]⟩, .int .i64 0, .int .i64 0, .bool false, .bool false, .string ⟨#[]⟩] 34) = W1 at *
  go_wp2_with fail
  go_loopw [6] (fun i wr => ∃ k : Nat, k ≤ l.length ∧ i = .int .i64 k ∧ Hid (∀ j y, j < k → l[j]? = some y → p y = false) ∧ Below W1.heap.size W1 wr) (fun i _ => l.length - (RowKit.intOf i).toNat)
  case atStart => exact ⟨0, Nat.zero_le _, rfl, Lib.hid (fun j _ hj => absurd hj (Nat.not_lt_zero _)), Below.refl _ _⟩
  case round =>
    obtain ⟨k, hk, rfl, Hk, hb⟩ := hrel
    have hbw := hbz.trans (hb.mono hbz.size)
    have hR2 := hR0.keeps hb hR0.1
    have ff := hR2.2.1
    have f0 := hR2.2.2 0 _ rfl
    have f1 := hR2.2.2 1 _ rfl
    have f2 := hR2.2.2 2 _ rfl
    have f3 := hR2.2.2 3 _ rfl
    have f4 := hR2.2.2 4 _ rfl
    have f5 := hR2.2.2 5 _ rfl
    have hS2 := hS.keeps hb hS.1
    have g0 := hS2.2.2 0 _ rfl
    have g1 := hS2.2.2 1 _ rfl
    by_cases hlt : k < l.length
    · obtain ⟨y, hy⟩ := at_some hlt
      obtain ⟨b1, off, rfl, hbl, c0, c1, c2, c3, c4, c5⟩ := itm_at (HA.out wr hbw) hy
      have Hy := Lib.hid hy
      have hk0 : (0 : Int) ≤ (k : Int) := by omega
      have hk1 : (k : Int) < (l.length : Int) := by omega
      have hpy := Hp.out y
      clear hy
      have heq := eqlSt y.cnt y.who c q
      obtain ⟨v, hv'⟩ : ∃ v, decide (y.cnt = c ∧ y.who = q) = v := ⟨_, rfl⟩
      rw [hv'] at heq hpy
      have Hv := Lib.hid hpy
      clear hpy hv'
      cases v with
      | true =>
        obtain ⟨rfl, rfl⟩ := Prod.mk.inj (Hr.out.symm.trans (find_hitN Hy.out Hv.out Hk.out))
        go_wp2_with fail
        go_quiet (fail)
        replace hR2 := hR2.drew nq
        replace hbw := belowDrew hbw nq
        go_wp2_with fail
        have hR5 := hR2.put [.string rx.path, .int .i64 rx.cnt, .int .i64 rx.who, .bool rx.dir, .bool rx.ghost, .string rx.man] rfl
        have hB5 := belowPut (b := rb) hbw [.string rx.path, .int .i64 rx.cnt, .int .i64 rx.who, .bool rx.dir, .bool rx.ghost, .string rx.man] 0 (by have := Hrb.out; omega)
        simp only [putRow, Nat.zero_add, Nat.reduceAdd] at hR5 hB5
        have e0 := hR5.2.2 0 _ rfl
        have e1 := hR5.2.2 1 _ rfl
        have e2 := hR5.2.2 2 _ rfl
        have e3 := hR5.2.2 3 _ rfl
        have e4 := hR5.2.2 4 _ rfl
        have e5 := hR5.2.2 5 _ rfl
        refine bodyPost_ret (v := .tuple #[.agg #[.string rx.path, .int .i64 rx.cnt, .int .i64 rx.who, .bool rx.dir, .bool rx.ghost, .string rx.man], .bool true]) (by simp [results, Tryd.results17, go_sem, e0, e1, e2, e3, e4, e5]) rfl ⟨rfl, hB5⟩
      | false =>
        go_wp2_with fail
        go_quiet (fail)
        go_wp2_with fail
        go_roundw
        case rel =>
          refine ⟨k + 1, by omega, by go_num, Lib.hid (fun j z hj hz => ?_), belowDrew hb nq⟩
          by_cases e : j = k
          · subst e
            rw [Hy.out] at hz
            cases hz
            exact Hv.out
          · exact Hk.out j z (by omega) hz
        case measure => simp [RowKit.intOf]; omega
    · obtain ⟨rfl, rfl⟩ := Prod.mk.inj (Hr.out.symm.trans (find_missN (l := l) (p := p) (fun j z hj hz => Hk.out j z (by omega) hz)))
      try dsimp only [itm0]
      go_wp2_with fail
      have hR5 := hR2.put [.string ⟨#[]⟩, .int .i64 0, .int .i64 0, .bool false, .bool false, .string ⟨#[]⟩] rfl
      have hB5 := belowPut (b := rb) hbw [.string ⟨#[]⟩, .int .i64 0, .int .i64 0, .bool false, .bool false, .string ⟨#[]⟩] 0 (by have := Hrb.out; omega)
      simp only [putRow, Nat.zero_add, Nat.reduceAdd] at hR5 hB5
      have e0 := hR5.2.2 0 _ rfl
      have e1 := hR5.2.2 1 _ rfl
      have e2 := hR5.2.2 2 _ rfl
      have e3 := hR5.2.2 3 _ rfl
      have e4 := hR5.2.2 4 _ rfl
      have e5 := hR5.2.2 5 _ rfl
      refine bodyPost_ret (v := .tuple #[.agg #[.string ⟨#[]⟩, .int .i64 0, .int .i64 0, .bool false, .bool false, .string ⟨#[]⟩], .bool false]) (by simp [results, Tryd.results17, go_sem, e0, e1, e2, e3, e4, e5]) rfl ⟨rfl, hB5⟩
end Go.Proofs.YtfbdbjookkogjaaDoor

