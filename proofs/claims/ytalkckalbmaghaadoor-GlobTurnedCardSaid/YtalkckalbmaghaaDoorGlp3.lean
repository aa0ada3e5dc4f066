/-
  A line of rules: glob.word, glob.line, the reference's word.
-/
import Derived.Test.YtalkckalbmaghaaDoorGlp2
import Derived.Deep.RegionHeld3
namespace Go.Proofs.YtalkckalbmaghaaDoor
open Go Go.RowKit Go.Lib

set_option maxRecDepth 100000 in
theorem word1_any (w : World) : Calls Tryd.prog 48 #[.int .i64 1] w fun e w' => e = .returned (.string ⟨#[119, 105, 116, 104, 32]⟩) ∧ w = w' := by
  have hx : ∀ w, Sem.run Tryd.prog (Instr.index 76 (Value.agg #[.string ⟨#[]⟩, .string ⟨#[119, 105, 116, 104, 32]⟩, .string ⟨#[119, 105, 116, 104, 111, 117, 116, 32]⟩, .string ⟨#[116, 121, 112, 101, 32]⟩]) (.int .i64 1)) w = .ok (.string ⟨#[119, 105, 116, 104, 32]⟩) w := fun w => by kernel_rfl
  go_enter Tryd.func48, Tryd.ntmps48
  go_wp2_with fail
  go_ret
  exact ⟨rfl, rfl⟩
set_option maxRecDepth 100000 in
theorem rword1_any (w : World) : Calls Tryd.prog 30 #[.int .i64 1] w fun e w' => e = .returned (.string ⟨#[119, 105, 116, 104, 32]⟩) ∧ w = w' := by
  go_enter Tryd.func30, Tryd.ntmps30
  go_wp2_with fail
  go_ret
  exact ⟨rfl, rfl⟩
set_option maxRecDepth 100000 in
theorem word2_any (w : World) : Calls Tryd.prog 48 #[.int .i64 2] w fun e w' => e = .returned (.string ⟨#[119, 105, 116, 104, 111, 117, 116, 32]⟩) ∧ w = w' := by
  have hx : ∀ w, Sem.run Tryd.prog (Instr.index 76 (Value.agg #[.string ⟨#[]⟩, .string ⟨#[119, 105, 116, 104, 32]⟩, .string ⟨#[119, 105, 116, 104, 111, 117, 116, 32]⟩, .string ⟨#[116, 121, 112, 101, 32]⟩]) (.int .i64 2)) w = .ok (.string ⟨#[119, 105, 116, 104, 111, 117, 116, 32]⟩) w := fun w => by kernel_rfl
  go_enter Tryd.func48, Tryd.ntmps48
  go_wp2_with fail
  go_ret
  exact ⟨rfl, rfl⟩
set_option maxRecDepth 100000 in
theorem rword2_any (w : World) : Calls Tryd.prog 30 #[.int .i64 2] w fun e w' => e = .returned (.string ⟨#[119, 105, 116, 104, 111, 117, 116, 32]⟩) ∧ w = w' := by
  go_enter Tryd.func30, Tryd.ntmps30
  go_wp2_with fail
  go_ret
  exact ⟨rfl, rfl⟩
set_option maxRecDepth 100000 in
theorem word3_any (w : World) : Calls Tryd.prog 48 #[.int .i64 3] w fun e w' => e = .returned (.string ⟨#[116, 121, 112, 101, 32]⟩) ∧ w = w' := by
  have hx : ∀ w, Sem.run Tryd.prog (Instr.index 76 (Value.agg #[.string ⟨#[]⟩, .string ⟨#[119, 105, 116, 104, 32]⟩, .string ⟨#[119, 105, 116, 104, 111, 117, 116, 32]⟩, .string ⟨#[116, 121, 112, 101, 32]⟩]) (.int .i64 3)) w = .ok (.string ⟨#[116, 121, 112, 101, 32]⟩) w := fun w => by kernel_rfl
  go_enter Tryd.func48, Tryd.ntmps48
  go_wp2_with fail
  go_ret
  exact ⟨rfl, rfl⟩
set_option maxRecDepth 100000 in
theorem rword3_any (w : World) : Calls Tryd.prog 30 #[.int .i64 3] w fun e w' => e = .returned (.string ⟨#[116, 121, 112, 101, 32]⟩) ∧ w = w' := by
  go_enter Tryd.func30, Tryd.ntmps30
  go_wp2_with fail
  go_ret
  exact ⟨rfl, rfl⟩
/-- A line, read: the rule, and whether it may be. -/
def lineG (s : List UInt8) : Rul × Bool :=
  if Lib.hasPrefix s [119, 105, 116, 104, 32] then (⟨1, ba (Lib.trimPrefix s [119, 105, 116, 104, 32])⟩, ruleG ⟨1, ba (Lib.trimPrefix s [119, 105, 116, 104, 32])⟩)
  else if Lib.hasPrefix s [119, 105, 116, 104, 111, 117, 116, 32] then (⟨2, ba (Lib.trimPrefix s [119, 105, 116, 104, 111, 117, 116, 32])⟩, ruleG ⟨2, ba (Lib.trimPrefix s [119, 105, 116, 104, 111, 117, 116, 32])⟩)
  else if Lib.hasPrefix s [116, 121, 112, 101, 32] then (⟨3, ba (Lib.trimPrefix s [116, 121, 112, 101, 32])⟩, ruleG ⟨3, ba (Lib.trimPrefix s [116, 121, 112, 101, 32])⟩)
  else (noRul, false)
theorem trim_len (s p : List UInt8) : (Lib.trimPrefix s p).length ≤ s.length := by
  unfold Lib.trimPrefix
  split
  · rw [List.length_drop]; omega
  · exact Nat.le_refl _
set_option maxRecDepth 100000 in
set_option maxHeartbeats 3200000 in
theorem line_any (s : ByteArray) (w : World) (hs : s.size ≤ 100000) (hm : MaxAt w) : Calls Tryd.prog 27 #[.string s] w fun e w' => e = .returned (.tuple #[.agg #[.int .i64 (lineG s.data.toList).1.kind, .string (lineG s.data.toList).1.text], .bool (lineG s.data.toList).2]) ∧ Below w.heap.size w w' := by
  have HC1 := Lib.hid fun W => (Tryd.strings_CutPrefix s ⟨#[119, 105, 116, 104, 32]⟩ W).mono fun _ _ h => (⟨h.1, h.2.symm⟩ : _ ∧ W = _)
  have HC2 := Lib.hid fun W => (Tryd.strings_CutPrefix s ⟨#[119, 105, 116, 104, 111, 117, 116, 32]⟩ W).mono fun _ _ h => (⟨h.1, h.2.symm⟩ : _ ∧ W = _)
  have HC3 := Lib.hid fun W => (Tryd.strings_CutPrefix s ⟨#[116, 121, 112, 101, 32]⟩ W).mono fun _ _ h => (⟨h.1, h.2.symm⟩ : _ ∧ W = _)
  obtain ⟨L, hL⟩ : ∃ L, lineG s.data.toList = L := ⟨_, rfl⟩
  rw [hL]
  unfold lineG at hL
  have hz1 : (ba (Lib.trimPrefix s.data.toList [119, 105, 116, 104, 32])).size ≤ 100000 := by
    have := trim_len s.data.toList [119, 105, 116, 104, 32]
    rw [size_eq, ba_data]
    rw [size_eq] at hs
    omega
  rw [show (⟨(Lib.trimPrefix s.data.toList (⟨#[119, 105, 116, 104, 32]⟩ : ByteArray).data.toList).toArray⟩ : ByteArray) = ba (Lib.trimPrefix s.data.toList [119, 105, 116, 104, 32]) from rfl, show Lib.hasPrefix s.data.toList (⟨#[119, 105, 116, 104, 32]⟩ : ByteArray).data.toList = Lib.hasPrefix s.data.toList [119, 105, 116, 104, 32] from rfl] at HC1
  have hz2 : (ba (Lib.trimPrefix s.data.toList [119, 105, 116, 104, 111, 117, 116, 32])).size ≤ 100000 := by
    have := trim_len s.data.toList [119, 105, 116, 104, 111, 117, 116, 32]
    rw [size_eq, ba_data]
    rw [size_eq] at hs
    omega
  rw [show (⟨(Lib.trimPrefix s.data.toList (⟨#[119, 105, 116, 104, 111, 117, 116, 32]⟩ : ByteArray).data.toList).toArray⟩ : ByteArray) = ba (Lib.trimPrefix s.data.toList [119, 105, 116, 104, 111, 117, 116, 32]) from rfl, show Lib.hasPrefix s.data.toList (⟨#[119, 105, 116, 104, 111, 117, 116, 32]⟩ : ByteArray).data.toList = Lib.hasPrefix s.data.toList [119, 105, 116, 104, 111, 117, 116, 32] from rfl] at HC2
  have hz3 : (ba (Lib.trimPrefix s.data.toList [116, 121, 112, 101, 32])).size ≤ 100000 := by
    have := trim_len s.data.toList [116, 121, 112, 101, 32]
    rw [size_eq, ba_data]
    rw [size_eq] at hs
    omega
  rw [show (⟨(Lib.trimPrefix s.data.toList (⟨#[116, 121, 112, 101, 32]⟩ : ByteArray).data.toList).toArray⟩ : ByteArray) = ba (Lib.trimPrefix s.data.toList [116, 121, 112, 101, 32]) from rfl, show Lib.hasPrefix s.data.toList (⟨#[116, 121, 112, 101, 32]⟩ : ByteArray).data.toList = Lib.hasPrefix s.data.toList [116, 121, 112, 101, 32] from rfl] at HC3
  generalize ba (Lib.trimPrefix s.data.toList [119, 105, 116, 104, 32]) = x1 at *
  generalize Lib.hasPrefix s.data.toList [119, 105, 116, 104, 32] = c1 at *
  generalize ba (Lib.trimPrefix s.data.toList [119, 105, 116, 104, 111, 117, 116, 32]) = x2 at *
  generalize Lib.hasPrefix s.data.toList [119, 105, 116, 104, 111, 117, 116, 32] = c2 at *
  generalize ba (Lib.trimPrefix s.data.toList [116, 121, 112, 101, 32]) = x3 at *
  generalize Lib.hasPrefix s.data.toList [116, 121, 112, 101, 32] = c3 at *
  have HL := Lib.hid hL
  clear hL
  obtain ⟨bs, hbs⟩ : ∃ bs, bs = w.heap.size := ⟨_, rfl⟩
  obtain ⟨bx, hbx⟩ : ∃ bx, bx = (w.alloc (Obj.cells #[.int .i64 0, .string ⟨#[]⟩] 33)).heap.size := ⟨_, rfl⟩
  have hbx2 : w.heap.size + 1 = bx := by rw [hbx]; simp
  have hV0 : VarAt (w.alloc (Obj.cells #[.int .i64 0, .string ⟨#[]⟩] 33)) bs [.int .i64 0, .string ⟨#[]⟩] := by rw [hbs]; exact VarAt.new w _ _
  have hal := (Below.refl (w.alloc (Obj.cells #[.int .i64 0, .string ⟨#[]⟩] 33)).heap.size (w.alloc (Obj.cells #[.int .i64 0, .string ⟨#[]⟩] 33))).alloc (Nat.le_refl _) (Obj.cells #[.int .i64 1, .int .i64 2, .int .i64 3] 3)
  have hV := hV0.keeps hal hV0.1
  have i0 : ((w.alloc (Obj.cells #[.int .i64 0, .string ⟨#[]⟩] 33)).alloc (Obj.cells #[.int .i64 1, .int .i64 2, .int .i64 3] 3)).cell? ⟨bx, 0, none⟩ = some (.int .i64 1) := cells_new_at _ bx _ _ hbx 0 _ rfl
  have i1 : ((w.alloc (Obj.cells #[.int .i64 0, .string ⟨#[]⟩] 33)).alloc (Obj.cells #[.int .i64 1, .int .i64 2, .int .i64 3] 3)).cell? ⟨bx, 1, none⟩ = some (.int .i64 2) := cells_new_at _ bx _ _ hbx 1 _ rfl
  have i2 : ((w.alloc (Obj.cells #[.int .i64 0, .string ⟨#[]⟩] 33)).alloc (Obj.cells #[.int .i64 1, .int .i64 2, .int .i64 3] 3)).cell? ⟨bx, 2, none⟩ = some (.int .i64 3) := cells_new_at _ bx _ _ hbx 2 _ rfl
  have hB := ((Below.refl w.heap.size w).alloc (Nat.le_refl _) (Obj.cells #[.int .i64 0, .string ⟨#[]⟩] 33)).alloc (by simp) (Obj.cells #[.int .i64 1, .int .i64 2, .int .i64 3] 3)
  have hm1 := hm.keeps hB
  have hsz : ((w.alloc (Obj.cells #[.int .i64 0, .string ⟨#[]⟩] 33)).alloc (Obj.cells #[.int .i64 1, .int .i64 2, .int .i64 3] 3)).heap.size = bs + 2 := by rw [hbs]; simp
  have Hbs := Lib.hid hbs
  have Hbx := Lib.hid hbx2
  clear hV0 hal hbx hbs hbx2
  go_enter Tryd.func27, Tryd.ntmps27
  go_wp2_with fail
  rw [Hbx.out, ← Hbs.out]
  generalize (w.alloc (Obj.cells #[.int .i64 0, .string ⟨#[]⟩] 33)).alloc (Obj.cells #[.int .i64 1, .int .i64 2, .int .i64 3] 3) = W1 at *
  clear hm
  go_loop [11] (fun i => i = .int .i64 0 ∨ (i = .int .i64 1 ∧ Hid (c1 = false)) ∨ (i = .int .i64 2 ∧ Hid (c1 = false ∧ c2 = false)) ∨ (i = .int .i64 3 ∧ Hid (c1 = false ∧ c2 = false ∧ c3 = false))) (fun i => 3 - (RowKit.intOf i).toNat)
  case atStart => exact .inl rfl
  case round =>
    rcases hrel with rfl | ⟨rfl, hk⟩ | ⟨rfl, hk⟩ | ⟨rfl, hk⟩
    · cases c1 with
      | true =>
        have Hl := Lib.hid (show L = (⟨1, x1⟩, ruleG ⟨1, x1⟩) by rw [← HL.out]; rfl)
        have HG := Lib.hid fun W hM => gright_any 1 x1 W hz1 hM
        generalize ruleG ⟨1, x1⟩ = q at *
        go_wp2_with fail
        refine (word1_any _).mono ?_
        rintro e w1 ⟨rfl, rfl⟩
        go_wp2_with fail
        refine (HC1.out _).mono ?_
        rintro e w1 ⟨rfl, rfl⟩
        go_wp2_with fail
        have a0 : (W1.alloc (.cells #[.int .i64 1, .string x1] 33)).cell? ⟨bs + 2, 0, none⟩ = some (.int .i64 1) := cells_new_at W1 _ _ _ hsz.symm 0 _ rfl
        have a1 : (W1.alloc (.cells #[.int .i64 1, .string x1] 33)).cell? ⟨bs + 2, 1, none⟩ = some (.string x1) := cells_new_at W1 _ _ _ hsz.symm 1 _ rfl
        have hal := (Below.refl W1.heap.size W1).alloc (Nat.le_refl _) (.cells #[.int .i64 1, .string x1] 33)
        replace hV := hV.keeps hal hV.1
        have hm2 := hm1.keeps hal
        have hB2 := hB.trans (hal.mono hB.size)
        generalize W1.alloc (.cells #[.int .i64 1, .string x1] 33) = W2 at *
        clear hal i0 i1 i2 hm1 hB
        have hkc : W2.drew.cell? ⟨bs + 2, 0, none⟩ = some (.int .i64 1) ∧ W2.drew.cell? ⟨bs + 2, 1, none⟩ = some (.string x1) := ⟨a0, a1⟩
        have HT := Lib.hid (HG.out W2.drew (hm2.keeps (belowDrew (Below.refl _ W2) 1)))
        have hB3 := belowDrew hB2 1
        replace hV := hV.drew 1
        change VarAt W2.drew bs _ at hV
        have hb2 : Below w.heap.size w W2.drew := hB3
        clear a0 a1 hm2
        go_region_with (go_at_call 46; refine HT.out.mono ?_; rintro e w5 ⟨rfl, hb5⟩; have g0 := (hb5.cell (block_lt_of_cell hkc.1)).trans hkc.1; have g1 := (hb5.cell (block_lt_of_cell hkc.2)).trans hkc.2; have hV5 := hV.keeps hb5 hV.1; have s0 := hV5.2.2 0 _ rfl; have s1 := hV5.2.2 1 _ rfl; have f0 := hV5.2.1 0; have f1 := hV5.2.1 1)
        all_goals
          have hV6 := (hV5.set 0 (.int .i64 1) (by simp)).set 1 (.string x1) (by simp)
          have t0 := hV6.2.2 0 _ rfl
          have t1 := hV6.2.2 1 _ rfl
          have hB6 := ((hb2.trans (hb5.mono hb2.size)).setCell (p := ⟨bs, 0, none⟩) (Nat.le_of_eq Hbs.out.symm) (.int .i64 1)).setCell (p := ⟨bs, 1, none⟩) (Nat.le_of_eq Hbs.out.symm) (.string x1)
          try go_wp2_with fail
          refine bodyPost_ret (v := .tuple #[.agg #[.int .i64 1, .string x1], .bool q]) (by simp [results, Tryd.results27, go_sem, t0, t1]) rfl ⟨by rw [Hl.out], hB6⟩
      | false =>
        go_wp2_with fail
        refine (word1_any _).mono ?_
        rintro e w1 ⟨rfl, rfl⟩
        go_wp2_with fail
        refine (HC1.out _).mono ?_
        rintro e w1 ⟨rfl, rfl⟩
        go_wp2_with fail
        go_round
        case rel => exact .inr (.inl ⟨by go_num, Lib.hid (by simp)⟩)
        case measure => simp [RowKit.intOf]
    · cases c2 with
      | true =>
        have Hl := Lib.hid (show L = (⟨2, x2⟩, ruleG ⟨2, x2⟩) by rw [← HL.out, hk.out]; rfl)
        have HG := Lib.hid fun W hM => gright_any 2 x2 W hz2 hM
        generalize ruleG ⟨2, x2⟩ = q at *
        go_wp2_with fail
        refine (word2_any _).mono ?_
        rintro e w1 ⟨rfl, rfl⟩
        go_wp2_with fail
        refine (HC2.out _).mono ?_
        rintro e w1 ⟨rfl, rfl⟩
        go_wp2_with fail
        have a0 : (W1.alloc (.cells #[.int .i64 2, .string x2] 33)).cell? ⟨bs + 2, 0, none⟩ = some (.int .i64 2) := cells_new_at W1 _ _ _ hsz.symm 0 _ rfl
        have a1 : (W1.alloc (.cells #[.int .i64 2, .string x2] 33)).cell? ⟨bs + 2, 1, none⟩ = some (.string x2) := cells_new_at W1 _ _ _ hsz.symm 1 _ rfl
        have hal := (Below.refl W1.heap.size W1).alloc (Nat.le_refl _) (.cells #[.int .i64 2, .string x2] 33)
        replace hV := hV.keeps hal hV.1
        have hm2 := hm1.keeps hal
        have hB2 := hB.trans (hal.mono hB.size)
        generalize W1.alloc (.cells #[.int .i64 2, .string x2] 33) = W2 at *
        clear hal i0 i1 i2 hm1 hB
        have hkc : W2.drew.cell? ⟨bs + 2, 0, none⟩ = some (.int .i64 2) ∧ W2.drew.cell? ⟨bs + 2, 1, none⟩ = some (.string x2) := ⟨a0, a1⟩
        have HT := Lib.hid (HG.out W2.drew (hm2.keeps (belowDrew (Below.refl _ W2) 1)))
        have hB3 := belowDrew hB2 1
        replace hV := hV.drew 1
        change VarAt W2.drew bs _ at hV
        have hb2 : Below w.heap.size w W2.drew := hB3
        clear a0 a1 hm2
        go_region_with (go_at_call 46; refine HT.out.mono ?_; rintro e w5 ⟨rfl, hb5⟩; have g0 := (hb5.cell (block_lt_of_cell hkc.1)).trans hkc.1; have g1 := (hb5.cell (block_lt_of_cell hkc.2)).trans hkc.2; have hV5 := hV.keeps hb5 hV.1; have s0 := hV5.2.2 0 _ rfl; have s1 := hV5.2.2 1 _ rfl; have f0 := hV5.2.1 0; have f1 := hV5.2.1 1)
        all_goals
          have hV6 := (hV5.set 0 (.int .i64 2) (by simp)).set 1 (.string x2) (by simp)
          have t0 := hV6.2.2 0 _ rfl
          have t1 := hV6.2.2 1 _ rfl
          have hB6 := ((hb2.trans (hb5.mono hb2.size)).setCell (p := ⟨bs, 0, none⟩) (Nat.le_of_eq Hbs.out.symm) (.int .i64 2)).setCell (p := ⟨bs, 1, none⟩) (Nat.le_of_eq Hbs.out.symm) (.string x2)
          try go_wp2_with fail
          refine bodyPost_ret (v := .tuple #[.agg #[.int .i64 2, .string x2], .bool q]) (by simp [results, Tryd.results27, go_sem, t0, t1]) rfl ⟨by rw [Hl.out], hB6⟩
      | false =>
        go_wp2_with fail
        refine (word2_any _).mono ?_
        rintro e w1 ⟨rfl, rfl⟩
        go_wp2_with fail
        refine (HC2.out _).mono ?_
        rintro e w1 ⟨rfl, rfl⟩
        go_wp2_with fail
        go_round
        case rel => exact .inr (.inr (.inl ⟨by go_num, Lib.hid ⟨hk.out, by simp⟩⟩))
        case measure => simp [RowKit.intOf]
    · cases c3 with
      | true =>
        have Hl := Lib.hid (show L = (⟨3, x3⟩, ruleG ⟨3, x3⟩) by rw [← HL.out, hk.out.1, hk.out.2]; rfl)
        have HG := Lib.hid fun W hM => gright_any 3 x3 W hz3 hM
        generalize ruleG ⟨3, x3⟩ = q at *
        go_wp2_with fail
        refine (word3_any _).mono ?_
        rintro e w1 ⟨rfl, rfl⟩
        go_wp2_with fail
        refine (HC3.out _).mono ?_
        rintro e w1 ⟨rfl, rfl⟩
        go_wp2_with fail
        have a0 : (W1.alloc (.cells #[.int .i64 3, .string x3] 33)).cell? ⟨bs + 2, 0, none⟩ = some (.int .i64 3) := cells_new_at W1 _ _ _ hsz.symm 0 _ rfl
        have a1 : (W1.alloc (.cells #[.int .i64 3, .string x3] 33)).cell? ⟨bs + 2, 1, none⟩ = some (.string x3) := cells_new_at W1 _ _ _ hsz.symm 1 _ rfl
        have hal := (Below.refl W1.heap.size W1).alloc (Nat.le_refl _) (.cells #[.int .i64 3, .string x3] 33)
        replace hV := hV.keeps hal hV.1
        have hm2 := hm1.keeps hal
        have hB2 := hB.trans (hal.mono hB.size)
        generalize W1.alloc (.cells #[.int .i64 3, .string x3] 33) = W2 at *
        clear hal i0 i1 i2 hm1 hB
        have hkc : W2.drew.cell? ⟨bs + 2, 0, none⟩ = some (.int .i64 3) ∧ W2.drew.cell? ⟨bs + 2, 1, none⟩ = some (.string x3) := ⟨a0, a1⟩
        have HT := Lib.hid (HG.out W2.drew (hm2.keeps (belowDrew (Below.refl _ W2) 1)))
        have hB3 := belowDrew hB2 1
        replace hV := hV.drew 1
        change VarAt W2.drew bs _ at hV
        have hb2 : Below w.heap.size w W2.drew := hB3
        clear a0 a1 hm2
        go_region_with (go_at_call 46; refine HT.out.mono ?_; rintro e w5 ⟨rfl, hb5⟩; have g0 := (hb5.cell (block_lt_of_cell hkc.1)).trans hkc.1; have g1 := (hb5.cell (block_lt_of_cell hkc.2)).trans hkc.2; have hV5 := hV.keeps hb5 hV.1; have s0 := hV5.2.2 0 _ rfl; have s1 := hV5.2.2 1 _ rfl; have f0 := hV5.2.1 0; have f1 := hV5.2.1 1)
        all_goals
          have hV6 := (hV5.set 0 (.int .i64 3) (by simp)).set 1 (.string x3) (by simp)
          have t0 := hV6.2.2 0 _ rfl
          have t1 := hV6.2.2 1 _ rfl
          have hB6 := ((hb2.trans (hb5.mono hb2.size)).setCell (p := ⟨bs, 0, none⟩) (Nat.le_of_eq Hbs.out.symm) (.int .i64 3)).setCell (p := ⟨bs, 1, none⟩) (Nat.le_of_eq Hbs.out.symm) (.string x3)
          try go_wp2_with fail
          refine bodyPost_ret (v := .tuple #[.agg #[.int .i64 3, .string x3], .bool q]) (by simp [results, Tryd.results27, go_sem, t0, t1]) rfl ⟨by rw [Hl.out], hB6⟩
      | false =>
        go_wp2_with fail
        refine (word3_any _).mono ?_
        rintro e w1 ⟨rfl, rfl⟩
        go_wp2_with fail
        refine (HC3.out _).mono ?_
        rintro e w1 ⟨rfl, rfl⟩
        go_wp2_with fail
        go_round
        case rel => exact .inr (.inr (.inr ⟨by go_num, Lib.hid ⟨hk.out.1, hk.out.2, by simp⟩⟩))
        case measure => simp [RowKit.intOf]
    · have Hl := Lib.hid (show L = (noRul, false) by rw [← HL.out, hk.out.1, hk.out.2.1, hk.out.2.2]; rfl)
      have s0 := hV.2.2 0 _ rfl
      have s1 := hV.2.2 1 _ rfl
      have f0 := hV.2.1 0
      have f1 := hV.2.1 1
      have hV6 := (hV.set 0 (.int .i64 0) (by simp)).set 1 (.string ⟨#[]⟩) (by simp)
      have t0 := hV6.2.2 0 _ rfl
      have t1 := hV6.2.2 1 _ rfl
      have hB6 := (hB.setCell (p := ⟨bs, 0, none⟩) (Nat.le_of_eq Hbs.out.symm) (.int .i64 0)).setCell (p := ⟨bs, 1, none⟩) (Nat.le_of_eq Hbs.out.symm) (.string ⟨#[]⟩)
      go_wp2_with fail
      refine bodyPost_ret (v := .tuple #[.agg #[.int .i64 0, .string ⟨#[]⟩], .bool false]) (by simp [results, Tryd.results27, go_sem, t0, t1]) rfl ⟨by rw [Hl.out]; rfl, hB6⟩
end Go.Proofs.YtalkckalbmaghaaDoor
