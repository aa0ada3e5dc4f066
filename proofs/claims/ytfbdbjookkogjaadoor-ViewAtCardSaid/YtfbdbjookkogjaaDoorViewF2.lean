/-
  Which item has a path, which one a node: view.At, view.Of and the document's.
-/
import Derived.Test.YtfbdbjookkogjaaDoorViewF1
namespace Go.Proofs.YtfbdbjookkogjaaDoor
open Go Go.RowKit Go.Lib
set_option maxRecDepth 100000 in
set_option maxHeartbeats 1600000 in
theorem at_any (a : Option Addr) (cap : Nat) (l : List Itm) (s : ByteArray) (w : World) (hl : l.length ≤ 1000000) (ha : RowsAt itmLay w a l) :
    Calls Tryd.prog 14 #[.slice a l.length cap, .string s] w fun e w' => e = .returned (.tuple #[(findI (isPath s) l).1.agg, .bool (findI (isPath s) l).2]) ∧ Below w.heap.size w w' := by
  have hb1 := (Below.refl w.heap.size w).alloc (Nat.le_refl _) (.cells #[.string s] 9)
  have hS0 := VarAt.new w #[.string s] 9
  have hR0 := VarAt.new (w.alloc (.cells #[.string s] 9)) #[.string ⟨#[]⟩, .int .i64 0, .int .i64 0, .bool false, .bool false, .string ⟨#[]⟩] 34
  have hbz := hb1.alloc hb1.size (.cells #[.string ⟨#[]⟩, .int .i64 0, .int .i64 0, .bool false, .bool false, .string ⟨#[]⟩] 34)
  have hS := hS0.keeps ((Below.refl _ _).alloc (Nat.le_refl _) (.cells #[.string ⟨#[]⟩, .int .i64 0, .int .i64 0, .bool false, .bool false, .string ⟨#[]⟩] 34)) hS0.1
  obtain ⟨rb, hrb⟩ : ∃ rb, rb = w.heap.size + 1 := ⟨_, rfl⟩
  obtain ⟨sb, hsb⟩ : ∃ sb, sb = w.heap.size := ⟨_, rfl⟩
  rw [show (w.alloc (.cells #[.string s] 9)).heap.size = rb by rw [hrb]; simp] at hR0
  rw [← hsb] at hS
  have Hrb := Lib.hid hrb
  have Hsb := Lib.hid hsb
  have HI := Lib.hid (at_find sb s a cap l _ hl (ha.keeps hbz) hS)
  obtain ⟨r, hr⟩ : ∃ r, findI (isPath s) l = r := ⟨_, rfl⟩
  rw [hr] at HI ⊢
  clear hr ha hrb hsb hb1 hS0 hS
  obtain ⟨rx, rok⟩ := r
  dsimp only at HI ⊢
  unfold Itm.agg at HI ⊢
  go_enter Tryd.func14, Tryd.ntmps14
  go_upto_region 1 with fail
  rw [← Hrb.out, ← Hsb.out]
  generalize (w.alloc (.cells #[.string s] 9)).alloc (.cells #[.string ⟨#[]⟩, .int .i64 0, .int .i64 0, .bool false, .bool false, .string ⟨#[]⟩] 34) = W1 at *
  go_wp2_with fail
  refine HI.out.mono ?_
  rintro e w2 ⟨rfl, hb2⟩
  have hbw := hbz.trans (hb2.mono hbz.size)
  have hR2 := hR0.keeps hb2 hR0.1
  have ff := hR2.2.1
  have f0 := hR2.2.2 0 _ rfl
  have f1 := hR2.2.2 1 _ rfl
  have f2 := hR2.2.2 2 _ rfl
  have f3 := hR2.2.2 3 _ rfl
  have f4 := hR2.2.2 4 _ rfl
  have f5 := hR2.2.2 5 _ rfl
  clear hR0 HI hb2
  go_wp2_with fail
  have hR5 := hR2.put [.string rx.path, .int .i64 rx.cnt, .int .i64 rx.who, .bool rx.dir, .bool rx.ghost, .string rx.man] rfl
  have hB5 := belowPut (b := rb) hbw [.string rx.path, .int .i64 rx.cnt, .int .i64 rx.who, .bool rx.dir, .bool rx.ghost, .string rx.man] 0 (by have := Hrb.out; omega)
  simp only [putRow, Nat.zero_add, Nat.reduceAdd] at hR5 hB5
  have e0 := hR5.2.2 0 _ rfl
  have e1 := hR5.2.2 1 _ rfl
  have e2 := hR5.2.2 2 _ rfl
  have e3 := hR5.2.2 3 _ rfl
  have e4 := hR5.2.2 4 _ rfl
  have e5 := hR5.2.2 5 _ rfl
  refine bodyPost_ret (v := .tuple #[.agg #[.string rx.path, .int .i64 rx.cnt, .int .i64 rx.who, .bool rx.dir, .bool rx.ghost, .string rx.man], .bool rok]) (by simp [results, Tryd.results14, go_sem, e0, e1, e2, e3, e4, e5]) rfl ⟨rfl, hB5⟩
set_option maxRecDepth 100000 in
set_option maxHeartbeats 1600000 in
theorem rat_any (a : Option Addr) (cap : Nat) (l : List Itm) (s : ByteArray) (w : World) (hl : l.length ≤ 1000000) (ha : RowsAt itmLay w a l) :
    Calls Tryd.prog 15 #[.slice a l.length cap, .string s] w fun e w' => e = .returned (.tuple #[(findI (isPath s) l).1.agg, .bool (findI (isPath s) l).2]) ∧ Below w.heap.size w w' := by
  have hb1 := Below.refl w.heap.size w
  obtain ⟨rb, hrb⟩ : ∃ rb, rb = w.heap.size := ⟨_, rfl⟩
  have hR0 := VarAt.new w #[.string ⟨#[]⟩, .int .i64 0, .int .i64 0, .bool false, .bool false, .string ⟨#[]⟩] 34
  have hbz := hb1.alloc hb1.size (.cells #[.string ⟨#[]⟩, .int .i64 0, .int .i64 0, .bool false, .bool false, .string ⟨#[]⟩] 34)
  rw [show w.heap.size = rb by rw [hrb]] at hR0
  have Hrb := Lib.hid hrb
  have HA := Lib.hid fun W (h : Below w.heap.size w W) => ha.keeps h
  obtain ⟨p, hp⟩ : ∃ p, isPath s = p := ⟨_, rfl⟩
  have Hp := Lib.hid (show ∀ x, p x = (x.path.toList == s.toList) from fun x => by rw [← hp]; rfl)
  obtain ⟨r, hr⟩ : ∃ r, findI (isPath s) l = r := ⟨_, rfl⟩
  rw [hr]
  rw [hp] at hr
  have Hr := Lib.hid hr
  clear hr ha hrb hp hb1
  obtain ⟨rx, rok⟩ := r
  dsimp only
  unfold Itm.agg
  go_enter Tryd.func15, Tryd.ntmps15
  go_upto_region 1 with fail
  rw [← Hrb.out]
  generalize w.alloc (.cells #[.string ⟨#[]⟩, .int .i64 0, .int .i64 0, .bool false, .bool false, .string ⟨#[]⟩] 34) = W1 at *
  go_wp2_with fail
  go_loopw [6] (fun i wr => ∃ k : Nat, k ≤ l.length ∧ i = .int .i64 k ∧ Hid (∀ j y, j < k → l[j]? = some y → p y = false) ∧ Below W1.heap.size W1 wr) (fun i _ => l.length - (RowKit.intOf i).toNat)
  case atStart => exact ⟨0, Nat.zero_le _, rfl, Lib.hid (fun j _ hj => absurd hj (Nat.not_lt_zero _)), Below.refl _ _⟩
  case round =>
    obtain ⟨k, hk, rfl, Hk, hb⟩ := hrel
    have hbw := hbz.trans (hb.mono hbz.size)
    have hR2 := hR0.keeps hb hR0.1
    have ff := hR2.2.1
    have f0 := hR2.2.2 0 _ rfl
    have f1 := hR2.2.2 1 _ rfl
    have f2 := hR2.2.2 2 _ rfl
    have f3 := hR2.2.2 3 _ rfl
    have f4 := hR2.2.2 4 _ rfl
    have f5 := hR2.2.2 5 _ rfl
    by_cases hlt : k < l.length
    · obtain ⟨y, hy⟩ := at_some hlt
      obtain ⟨b1, off, rfl, hbl, c0, c1, c2, c3, c4, c5⟩ := itm_at (HA.out wr hbw) hy
      have Hy := Lib.hid hy
      have hk0 : (0 : Int) ≤ (k : Int) := by omega
      have hk1 : (k : Int) < (l.length : Int) := by omega
      have hpy := Hp.out y
      clear hy
      obtain ⟨v, hv'⟩ : ∃ v, (y.path.toList == s.toList) = v := ⟨_, rfl⟩
      rw [hv'] at hpy
      have Hv := Lib.hid hpy
      clear hpy
      cases v with
      | true =>
        obtain ⟨rfl, rfl⟩ := Prod.mk.inj (Hr.out.symm.trans (find_hitN Hy.out Hv.out Hk.out))
        go_wp2_with fail
        have hR5 := hR2.put [.string rx.path, .int .i64 rx.cnt, .int .i64 rx.who, .bool rx.dir, .bool rx.ghost, .string rx.man] rfl
        have hB5 := belowPut (b := rb) hbw [.string rx.path, .int .i64 rx.cnt, .int .i64 rx.who, .bool rx.dir, .bool rx.ghost, .string rx.man] 0 (by have := Hrb.out; omega)
        simp only [putRow, Nat.zero_add, Nat.reduceAdd] at hR5 hB5
        have e0 := hR5.2.2 0 _ rfl
        have e1 := hR5.2.2 1 _ rfl
        have e2 := hR5.2.2 2 _ rfl
        have e3 := hR5.2.2 3 _ rfl
        have e4 := hR5.2.2 4 _ rfl
        have e5 := hR5.2.2 5 _ rfl
        refine bodyPost_ret (v := .tuple #[.agg #[.string rx.path, .int .i64 rx.cnt, .int .i64 rx.who, .bool rx.dir, .bool rx.ghost, .string rx.man], .bool true]) (by simp [results, Tryd.results15, go_sem, e0, e1, e2, e3, e4, e5]) rfl ⟨rfl, hB5⟩
      | false =>
        go_wp2_with fail
        go_roundw
        case rel =>
          refine ⟨k + 1, by omega, by go_num, Lib.hid (fun j z hj hz => ?_), hb⟩
          by_cases e : j = k
          · subst e
            rw [Hy.out] at hz
            cases hz
            exact Hv.out
          · exact Hk.out j z (by omega) hz
        case measure => simp [RowKit.intOf]; omega
    · obtain ⟨rfl, rfl⟩ := Prod.mk.inj (Hr.out.symm.trans (find_missN (l := l) (p := p) (fun j z hj hz => Hk.out j z (by omega) hz)))
      try dsimp only [itm0]
      go_wp2_with fail
      have hR5 := hR2.put [.string ⟨#[]⟩, .int .i64 0, .int .i64 0, .bool false, .bool false, .string ⟨#[]⟩] rfl
      have hB5 := belowPut (b := rb) hbw [.string ⟨#[]⟩, .int .i64 0, .int .i64 0, .bool false, .bool false, .string ⟨#[]⟩] 0 (by have := Hrb.out; omega)
      simp only [putRow, Nat.zero_add, Nat.reduceAdd] at hR5 hB5
      have e0 := hR5.2.2 0 _ rfl
      have e1 := hR5.2.2 1 _ rfl
      have e2 := hR5.2.2 2 _ rfl
      have e3 := hR5.2.2 3 _ rfl
      have e4 := hR5.2.2 4 _ rfl
      have e5 := hR5.2.2 5 _ rfl
      refine bodyPost_ret (v := .tuple #[.agg #[.string ⟨#[]⟩, .int .i64 0, .int .i64 0, .bool false, .bool false, .string ⟨#[]⟩], .bool false]) (by simp [results, Tryd.results15, go_sem, e0, e1, e2, e3, e4, e5]) rfl ⟨rfl, hB5⟩
set_option maxRecDepth 100000 in
set_option maxHeartbeats 1600000 in
theorem of_any (a : Option Addr) (cap : Nat) (l : List Itm) (c q : Int) (w : World) (hl : l.length ≤ 1000000) (ha : RowsAt itmLay w a l) :
    Calls Tryd.prog 16 #[.slice a l.length cap, .agg #[.int .i64 c, .int .i64 q]] w fun e w' => e = .returned (.tuple #[(findI (isOf c q) l).1.agg, .bool (findI (isOf c q) l).2]) ∧ Below w.heap.size w w' := by
  have hb1 := (Below.refl w.heap.size w).alloc (Nat.le_refl _) (.cells #[.int .i64 c, .int .i64 q] 32)
  have hS0 := VarAt.new w #[.int .i64 c, .int .i64 q] 32
  have hR0 := VarAt.new (w.alloc (.cells #[.int .i64 c, .int .i64 q] 32)) #[.string ⟨#[]⟩, .int .i64 0, .int .i64 0, .bool false, .bool false, .string ⟨#[]⟩] 34
  have hbz := hb1.alloc hb1.size (.cells #[.string ⟨#[]⟩, .int .i64 0, .int .i64 0, .bool false, .bool false, .string ⟨#[]⟩] 34)
  have hS := hS0.keeps ((Below.refl _ _).alloc (Nat.le_refl _) (.cells #[.string ⟨#[]⟩, .int .i64 0, .int .i64 0, .bool false, .bool false, .string ⟨#[]⟩] 34)) hS0.1
  obtain ⟨rb, hrb⟩ : ∃ rb, rb = w.heap.size + 1 := ⟨_, rfl⟩
  obtain ⟨sb, hsb⟩ : ∃ sb, sb = w.heap.size := ⟨_, rfl⟩
  rw [show (w.alloc (.cells #[.int .i64 c, .int .i64 q] 32)).heap.size = rb by rw [hrb]; simp] at hR0
  rw [← hsb] at hS
  have Hrb := Lib.hid hrb
  have Hsb := Lib.hid hsb
  have HI := Lib.hid (of_find sb c q a cap l _ hl (ha.keeps hbz) hS)
  obtain ⟨r, hr⟩ : ∃ r, findI (isOf c q) l = r := ⟨_, rfl⟩
  rw [hr] at HI ⊢
  clear hr ha hrb hsb hb1 hS0 hS
  obtain ⟨rx, rok⟩ := r
  dsimp only at HI ⊢
  unfold Itm.agg at HI ⊢
  go_enter Tryd.func16, Tryd.ntmps16
  go_upto_region 1 with fail
  rw [← Hrb.out, ← Hsb.out]
  generalize (w.alloc (.cells #[.int .i64 c, .int .i64 q] 32)).alloc (.cells #[.string ⟨#[]⟩, .int .i64 0, .int .i64 0, .bool false, .bool false, .string ⟨#[]⟩] 34) = W1 at *
  go_wp2_with fail
  refine HI.out.mono ?_
  rintro e w2 ⟨rfl, hb2⟩
  have hbw := hbz.trans (hb2.mono hbz.size)
  have hR2 := hR0.keeps hb2 hR0.1
  have ff := hR2.2.1
  have f0 := hR2.2.2 0 _ rfl
  have f1 := hR2.2.2 1 _ rfl
  have f2 := hR2.2.2 2 _ rfl
  have f3 := hR2.2.2 3 _ rfl
  have f4 := hR2.2.2 4 _ rfl
  have f5 := hR2.2.2 5 _ rfl
  clear hR0 HI hb2
  go_wp2_with fail
  have hR5 := hR2.put [.string rx.path, .int .i64 rx.cnt, .int .i64 rx.who, .bool rx.dir, .bool rx.ghost, .string rx.man] rfl
  have hB5 := belowPut (b := rb) hbw [.string rx.path, .int .i64 rx.cnt, .int .i64 rx.who, .bool rx.dir, .bool rx.ghost, .string rx.man] 0 (by have := Hrb.out; omega)
  simp only [putRow, Nat.zero_add, Nat.reduceAdd] at hR5 hB5
  have e0 := hR5.2.2 0 _ rfl
  have e1 := hR5.2.2 1 _ rfl
  have e2 := hR5.2.2 2 _ rfl
  have e3 := hR5.2.2 3 _ rfl
  have e4 := hR5.2.2 4 _ rfl
  have e5 := hR5.2.2 5 _ rfl
  refine bodyPost_ret (v := .tuple #[.agg #[.string rx.path, .int .i64 rx.cnt, .int .i64 rx.who, .bool rx.dir, .bool rx.ghost, .string rx.man], .bool rok]) (by simp [results, Tryd.results16, go_sem, e0, e1, e2, e3, e4, e5]) rfl ⟨rfl, hB5⟩
set_option maxRecDepth 100000 in
set_option maxHeartbeats 1600000 in
theorem rof_any (a : Option Addr) (cap : Nat) (l : List Itm) (c q : Int) (w : World) (hl : l.length ≤ 1000000) (ha : RowsAt itmLay w a l) :
    Calls Tryd.prog 17 #[.slice a l.length cap, .agg #[.int .i64 c, .int .i64 q]] w fun e w' => e = .returned (.tuple #[(findI (isOf c q) l).1.agg, .bool (findI (isOf c q) l).2]) ∧ Below w.heap.size w w' := by
  have hb1 := (Below.refl w.heap.size w).alloc (Nat.le_refl _) (.cells #[.int .i64 c, .int .i64 q] 32)
  have hS0 := VarAt.new w #[.int .i64 c, .int .i64 q] 32
  have hS := hS0.keeps ((Below.refl _ _).alloc (Nat.le_refl _) (.cells #[.string ⟨#[]⟩, .int .i64 0, .int .i64 0, .bool false, .bool false, .string ⟨#[]⟩] 34)) hS0.1
  obtain ⟨rb, hrb⟩ : ∃ rb, rb = w.heap.size + 1 := ⟨_, rfl⟩
  obtain ⟨sb, hsb⟩ : ∃ sb, sb = w.heap.size := ⟨_, rfl⟩
  rw [← hsb] at hS
  have Hsb := Lib.hid hsb
  have hR0 := VarAt.new (w.alloc (.cells #[.int .i64 c, .int .i64 q] 32)) #[.string ⟨#[]⟩, .int .i64 0, .int .i64 0, .bool false, .bool false, .string ⟨#[]⟩] 34
  have hbz := hb1.alloc hb1.size (.cells #[.string ⟨#[]⟩, .int .i64 0, .int .i64 0, .bool false, .bool false, .string ⟨#[]⟩] 34)
  rw [show (w.alloc (.cells #[.int .i64 c, .int .i64 q] 32)).heap.size = rb by rw [hrb]; simp] at hR0
  have Hrb := Lib.hid hrb
  have HA := Lib.hid fun W (h : Below w.heap.size w W) => ha.keeps h
  obtain ⟨p, hp⟩ : ∃ p, isOf c q = p := ⟨_, rfl⟩
  have Hp := Lib.hid (show ∀ x, p x = decide (x.cnt = c ∧ x.who = q) from fun x => by rw [← hp]; rfl)
  obtain ⟨r, hr⟩ : ∃ r, findI (isOf c q) l = r := ⟨_, rfl⟩
  rw [hr]
  rw [hp] at hr
  have Hr := Lib.hid hr
  clear hr ha hrb hp hb1 hsb hS0
  obtain ⟨rx, rok⟩ := r
  dsimp only
  unfold Itm.agg
  go_enter Tryd.func17, Tryd.ntmps17
  go_upto_region 1 with fail
  rw [← Hrb.out, ← Hsb.out]
  generalize (w.alloc (.cells #[.int .i64 c, .int .i64 q] 32)).alloc (.cells #[.string ⟨#[]⟩, .int .i64 0, .int .i64 0, .bool false, .bool false, .string ⟨#[]⟩] 34) = W1 at *
  go_wp2_with fail
  go_loopw [6] (fun i wr => ∃ k : Nat, k ≤ l.length ∧ i = .int .i64 k ∧ Hid (∀ j y, j < k → l[j]? = some y → p y = false) ∧ Below W1.heap.size W1 wr) (fun i _ => l.length - (RowKit.intOf i).toNat)
  case atStart => exact ⟨0, Nat.zero_le _, rfl, Lib.hid (fun j _ hj => absurd hj (Nat.not_lt_zero _)), Below.refl _ _⟩
  case round =>
    obtain ⟨k, hk, rfl, Hk, hb⟩ := hrel
    have hbw := hbz.trans (hb.mono hbz.size)
    have hR2 := hR0.keeps hb hR0.1
    have ff := hR2.2.1
    have f0 := hR2.2.2 0 _ rfl
    have f1 := hR2.2.2 1 _ rfl
    have f2 := hR2.2.2 2 _ rfl
    have f3 := hR2.2.2 3 _ rfl
    have f4 := hR2.2.2 4 _ rfl
    have f5 := hR2.2.2 5 _ rfl
    have hS2 := hS.keeps hb hS.1
    have g0 := hS2.2.2 0 _ rfl
    have g1 := hS2.2.2 1 _ rfl
    by_cases hlt : k < l.length
    · obtain ⟨y, hy⟩ := at_some hlt
      obtain ⟨b1, off, rfl, hbl, c0, c1, c2, c3, c4, c5⟩ := itm_at (HA.out wr hbw) hy
      have Hy := Lib.hid hy
      have hk0 : (0 : Int) ≤ (k : Int) := by omega
      have hk1 : (k : Int) < (l.length : Int) := by omega
      have hpy := Hp.out y
      clear hy
      have heq := eqlSt y.cnt y.who c q
      obtain ⟨v, hv'⟩ : ∃ v, decide (y.cnt = c ∧ y.who = q) = v := ⟨_, rfl⟩
      rw [hv'] at heq hpy
      have Hv := Lib.hid hpy
      clear hpy hv'
      cases v with
      | true =>
        obtain ⟨rfl, rfl⟩ := Prod.mk.inj (Hr.out.symm.trans (find_hitN Hy.out Hv.out Hk.out))
        go_wp2_with fail
        go_quiet (fail)
        replace hR2 := hR2.drew nq
        replace hbw := belowDrew hbw nq
        go_wp2_with fail
        have hR5 := hR2.put [.string rx.path, .int .i64 rx.cnt, .int .i64 rx.who, .bool rx.dir, .bool rx.ghost, .string rx.man] rfl
        have hB5 := belowPut (b := rb) hbw [.string rx.path, .int .i64 rx.cnt, .int .i64 rx.who, .bool rx.dir, .bool rx.ghost, .string rx.man] 0 (by have := Hrb.out; omega)
        simp only [putRow, Nat.zero_add, Nat.reduceAdd] at hR5 hB5
        have e0 := hR5.2.2 0 _ rfl
        have e1 := hR5.2.2 1 _ rfl
        have e2 := hR5.2.2 2 _ rfl
        have e3 := hR5.2.2 3 _ rfl
        have e4 := hR5.2.2 4 _ rfl
        have e5 := hR5.2.2 5 _ rfl
        refine bodyPost_ret (v := .tuple #[.agg #[.string rx.path, .int .i64 rx.cnt, .int .i64 rx.who, .bool rx.dir, .bool rx.ghost, .string rx.man], .bool true]) (by simp [results, Tryd.results17, go_sem, e0, e1, e2, e3, e4, e5]) rfl ⟨rfl, hB5⟩
      | false =>
        go_wp2_with fail
        go_quiet (fail)
        go_wp2_with fail
        go_roundw
        case rel =>
          refine ⟨k + 1, by omega, by go_num, Lib.hid (fun j z hj hz => ?_), belowDrew hb nq⟩
          by_cases e : j = k
          · subst e
            rw [Hy.out] at hz
            cases hz
            exact Hv.out
          · exact Hk.out j z (by omega) hz
        case measure => simp [RowKit.intOf]; omega
    · obtain ⟨rfl, rfl⟩ := Prod.mk.inj (Hr.out.symm.trans (find_missN (l := l) (p := p) (fun j z hj hz => Hk.out j z (by omega) hz)))
      try dsimp only [itm0]
      go_wp2_with fail
      have hR5 := hR2.put [.string ⟨#[]⟩, .int .i64 0, .int .i64 0, .bool false, .bool false, .string ⟨#[]⟩] rfl
      have hB5 := belowPut (b := rb) hbw [.string ⟨#[]⟩, .int .i64 0, .int .i64 0, .bool false, .bool false, .string ⟨#[]⟩] 0 (by have := Hrb.out; omega)
      simp only [putRow, Nat.zero_add, Nat.reduceAdd] at hR5 hB5
      have e0 := hR5.2.2 0 _ rfl
      have e1 := hR5.2.2 1 _ rfl
      have e2 := hR5.2.2 2 _ rfl
      have e3 := hR5.2.2 3 _ rfl
      have e4 := hR5.2.2 4 _ rfl
      have e5 := hR5.2.2 5 _ rfl
      refine bodyPost_ret (v := .tuple #[.agg #[.string ⟨#[]⟩, .int .i64 0, .int .i64 0, .bool false, .bool false, .string ⟨#[]⟩], .bool false]) (by simp [results, Tryd.results17, go_sem, e0, e1, e2, e3, e4, e5]) rfl ⟨rfl, hB5⟩
end Go.Proofs.YtfbdbjookkogjaaDoor
