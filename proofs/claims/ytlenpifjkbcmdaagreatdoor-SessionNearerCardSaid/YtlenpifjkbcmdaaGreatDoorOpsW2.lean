import Derived.Test.YtlenpifjkbcmdaaGreatDoorOpsW1
namespace Go.Proofs.YtlenpifjkbcmdaaGreatDoor
open Go Go.RowKit Go.Lib
theorem opr_eq {x y : Opr} : x = y ↔ x.cnt = y.cnt ∧ x.who = y.who ∧ x.seq = y.seq ∧ x.kind = y.kind ∧ x.nc = y.nc ∧ x.nw = y.nw ∧ x.dir = y.dir ∧ x.pc = y.pc ∧ x.pw = y.pw ∧ x.name = y.name ∧ x.man = y.man :=
  ⟨fun h => by rw [h]; exact ⟨rfl, rfl, rfl, rfl, rfl, rfl, rfl, rfl, rfl, rfl, rfl⟩, fun ⟨h0, h1, h2, h3, h4, h5, h6, h7, h8, h9, h10⟩ => Opr.ext' h0 h1 h2 h3 h4 h5 h6 h7 h8 h9 h10⟩
theorem stp_eq {a b c d : Int} : decide ((⟨a, b⟩ : Stp) = ⟨c, d⟩) = (decide (a = c) && decide (b = d)) := by
  rw [← Bool.decide_and]
  exact decide_eq_decide.2 ⟨fun h => by cases h; exact ⟨rfl, rfl⟩, fun h => Stp.ext' h.1 h.2⟩


set_option maxRecDepth 100000 in
set_option maxHeartbeats 3200000 in
theorem shaped_1_true (x : Opr) (w : World) (hk : x.kind = 1) (hd : x.dir = true) (hm : x.man.size ≤ 100000) :
    Calls Tryz.prog 48 #[.agg #[.int .i64 x.cnt, .int .i64 x.who, .int .i64 x.seq, .int .i64 x.kind, .int .i64 x.nc, .int .i64 x.nw, .bool x.dir, .int .i64 x.pc, .int .i64 x.pw, .string x.name, .string x.man]] w fun e w' => e = .returned (.bool (shapeO x)) ∧ Below w.heap.size w w' := by
  obtain ⟨cnt, who, seq, kind, nc, nw, dir, pc, pw, name, man⟩ := x
  obtain rfl : kind = 1 := hk
  obtain rfl : dir = true := hd
  dsimp only at hm ⊢
  have heq := eqlOpr ⟨cnt, who, seq, 1, nc, nw, true, pc, pw, name, man⟩ ⟨cnt, who, seq, 1, cnt, who, true, pc, pw, name, ⟨#[]⟩⟩
  have hS : shapeO ⟨cnt, who, seq, 1, nc, nw, true, pc, pw, name, man⟩ = (decide ((⟨cnt, who, seq, 1, nc, nw, true, pc, pw, name, man⟩ : Opr) = ⟨cnt, who, seq, 1, cnt, who, true, pc, pw, name, ⟨#[]⟩⟩) && (placeC pc pw && !decide ((⟨pc, pw⟩ : Stp) = ⟨nc, nw⟩) && decide (man.size ≤ 600))) := by
    have he : decide ((⟨cnt, who, seq, 1, nc, nw, true, pc, pw, name, man⟩ : Opr) = ⟨cnt, who, seq, 1, cnt, who, true, pc, pw, name, ⟨#[]⟩⟩) = (decide (nc = cnt) && decide (nw = who) && decide (man = ⟨#[]⟩)) := by
      rw [show decide ((⟨cnt, who, seq, 1, nc, nw, true, pc, pw, name, man⟩ : Opr) = ⟨cnt, who, seq, 1, cnt, who, true, pc, pw, name, ⟨#[]⟩⟩) = decide (_ ∧ _) from decide_eq_decide.2 opr_eq]
      simp [Bool.and_assoc]
    rw [he]
    unfold shapeO
    simp only [stp_eq]
    simp only [if_true]
    by_cases hmm : man = ⟨#[]⟩
    · subst hmm
      have : decide ((ByteArray.size ⟨#[]⟩) ≤ 600) = true := by decide
      rw [this]
      generalize placeC pc pw = p
      generalize decide (nc = cnt) = a
      generalize decide (nw = who) = b
      generalize decide (pc = nc) = c
      generalize decide (pw = nw) = d
      cases a <;> cases b <;> cases c <;> cases d <;> cases p <;> rfl
    · simp [hmm]
  have hbx : Below w.heap.size w (((w.alloc (.cells #[.int .i64 cnt, .int .i64 who, .int .i64 seq, .int .i64 1, .int .i64 nc, .int .i64 nw, .bool true, .int .i64 pc, .int .i64 pw, .string name, .string man] 28)).alloc (.cells #[.int .i64 cnt, .int .i64 who, .int .i64 seq, .int .i64 1, .int .i64 cnt, .int .i64 who, .bool true, .int .i64 pc, .int .i64 pw, .string name, .string ⟨#[]⟩] 28)).drew) := (((Below.refl _ _).alloc (Nat.le_refl _) _).alloc (by simp) _).drew
  have HS := Lib.hid hS
  clear hS
  dsimp only at heq
  generalize decide ((⟨cnt, who, seq, 1, nc, nw, true, pc, pw, name, man⟩ : Opr) = ⟨cnt, who, seq, 1, cnt, who, true, pc, pw, name, ⟨#[]⟩⟩) = z at *
  have HP := Lib.hid fun W => place_any pc pw W
  have hq := neqStp ⟨pc, pw⟩ ⟨nc, nw⟩
  dsimp only at hq
  generalize placeC pc pw = p at *
  generalize decide ((⟨pc, pw⟩ : Stp) = ⟨nc, nw⟩) = q at *
  cases z with
  | false =>
    go_enter Tryz.func48, Tryz.ntmps48
    go_wp2_with fail
    go_region
    go_wp2_with fail
    go_ret
    exact ⟨ret_bool (by rw [HS.out]; rfl), hbx⟩
  | true =>
    cases p with
    | false =>
      go_enter Tryz.func48, Tryz.ntmps48
      go_wp2_with fail
      go_region
      go_wp2_with fail
      refine (HP.out _).mono ?_
      rintro e w1 ⟨rfl, hb1⟩
      have hc1 := hbx.trans (hb1.mono hbx.size)
      have hl1 := fun i => hb1.cell (p := ⟨w.heap.size, i, none⟩) (by simp; omega)
      go_wp2_with fail
      go_ret
      exact ⟨ret_bool (by rw [HS.out]; rfl), hc1⟩
    | true =>
      cases q with
      | true =>
        go_enter Tryz.func48, Tryz.ntmps48
        go_wp2_with fail
        go_region
        go_wp2_with fail
        refine (HP.out _).mono ?_
        rintro e w1 ⟨rfl, hb1⟩
        have hc1 := hbx.trans (hb1.mono hbx.size)
        have hl1 := fun i => hb1.cell (p := ⟨w.heap.size, i, none⟩) (by simp; omega)
        go_wp2_with fail
        go_ret
        exact ⟨ret_bool (by rw [HS.out]; simp), hc1⟩
      | false =>
        go_enter Tryz.func48, Tryz.ntmps48
        go_wp2_with fail
        go_region
        go_wp2_with fail
        refine (HP.out _).mono ?_
        rintro e w1 ⟨rfl, hb1⟩
        have hc1 := hbx.trans (hb1.mono hbx.size)
        have hl1 := fun i => hb1.cell (p := ⟨w.heap.size, i, none⟩) (by simp; omega)
        go_wp2_with fail
        go_ret
        exact ⟨ret_bool (by rw [HS.out]; simp; omega), hc1⟩

set_option maxRecDepth 100000 in
set_option maxHeartbeats 3200000 in
theorem shaped_1_false (x : Opr) (w : World) (hk : x.kind = 1) (hd : x.dir = false) (hm : x.man.size ≤ 100000) :
    Calls Tryz.prog 48 #[.agg #[.int .i64 x.cnt, .int .i64 x.who, .int .i64 x.seq, .int .i64 x.kind, .int .i64 x.nc, .int .i64 x.nw, .bool x.dir, .int .i64 x.pc, .int .i64 x.pw, .string x.name, .string x.man]] w fun e w' => e = .returned (.bool (shapeO x)) ∧ Below w.heap.size w w' := by
  obtain ⟨cnt, who, seq, kind, nc, nw, dir, pc, pw, name, man⟩ := x
  obtain rfl : kind = 1 := hk
  obtain rfl : dir = false := hd
  dsimp only at hm ⊢
  have heq := eqlOpr ⟨cnt, who, seq, 1, nc, nw, false, pc, pw, name, man⟩ ⟨cnt, who, seq, 1, cnt, who, false, pc, pw, name, man⟩
  have hS : shapeO ⟨cnt, who, seq, 1, nc, nw, false, pc, pw, name, man⟩ = (decide ((⟨cnt, who, seq, 1, nc, nw, false, pc, pw, name, man⟩ : Opr) = ⟨cnt, who, seq, 1, cnt, who, false, pc, pw, name, man⟩) && (placeC pc pw && !decide ((⟨pc, pw⟩ : Stp) = ⟨nc, nw⟩) && decide (man.size ≤ 600))) := by
    have he : decide ((⟨cnt, who, seq, 1, nc, nw, false, pc, pw, name, man⟩ : Opr) = ⟨cnt, who, seq, 1, cnt, who, false, pc, pw, name, man⟩) = (decide (nc = cnt) && decide (nw = who)) := by
      rw [show decide ((⟨cnt, who, seq, 1, nc, nw, false, pc, pw, name, man⟩ : Opr) = ⟨cnt, who, seq, 1, cnt, who, false, pc, pw, name, man⟩) = decide (_ ∧ _) from decide_eq_decide.2 opr_eq]
      simp
    rw [he]
    unfold shapeO
    simp only [stp_eq]
    simp only [if_true]
    generalize placeC pc pw = p
    generalize decide (nc = cnt) = a
    generalize decide (nw = who) = b
    generalize decide (pc = nc) = c
    generalize decide (pw = nw) = d
    generalize decide (man.size ≤ 600) = m
    cases a <;> cases b <;> cases c <;> cases d <;> cases p <;> cases m <;> rfl
  have hbx : Below w.heap.size w (((w.alloc (.cells #[.int .i64 cnt, .int .i64 who, .int .i64 seq, .int .i64 1, .int .i64 nc, .int .i64 nw, .bool false, .int .i64 pc, .int .i64 pw, .string name, .string man] 28)).alloc (.cells #[.int .i64 cnt, .int .i64 who, .int .i64 seq, .int .i64 1, .int .i64 cnt, .int .i64 who, .bool false, .int .i64 pc, .int .i64 pw, .string name, .string man] 28)).drew) := (((Below.refl _ _).alloc (Nat.le_refl _) _).alloc (by simp) _).drew
  have HS := Lib.hid hS
  clear hS
  dsimp only at heq
  generalize decide ((⟨cnt, who, seq, 1, nc, nw, false, pc, pw, name, man⟩ : Opr) = ⟨cnt, who, seq, 1, cnt, who, false, pc, pw, name, man⟩) = z at *
  have HP := Lib.hid fun W => place_any pc pw W
  have hq := neqStp ⟨pc, pw⟩ ⟨nc, nw⟩
  dsimp only at hq
  generalize placeC pc pw = p at *
  generalize decide ((⟨pc, pw⟩ : Stp) = ⟨nc, nw⟩) = q at *
  cases z with
  | false =>
    go_enter Tryz.func48, Tryz.ntmps48
    go_wp2_with fail
    go_region
    go_wp2_with fail
    go_ret
    exact ⟨ret_bool (by rw [HS.out]; rfl), hbx⟩
  | true =>
    cases p with
    | false =>
      go_enter Tryz.func48, Tryz.ntmps48
      go_wp2_with fail
      go_region
      go_wp2_with fail
      refine (HP.out _).mono ?_
      rintro e w1 ⟨rfl, hb1⟩
      have hc1 := hbx.trans (hb1.mono hbx.size)
      have hl1 := fun i => hb1.cell (p := ⟨w.heap.size, i, none⟩) (by simp; omega)
      go_wp2_with fail
      go_ret
      exact ⟨ret_bool (by rw [HS.out]; rfl), hc1⟩
    | true =>
      cases q with
      | true =>
        go_enter Tryz.func48, Tryz.ntmps48
        go_wp2_with fail
        go_region
        go_wp2_with fail
        refine (HP.out _).mono ?_
        rintro e w1 ⟨rfl, hb1⟩
        have hc1 := hbx.trans (hb1.mono hbx.size)
        have hl1 := fun i => hb1.cell (p := ⟨w.heap.size, i, none⟩) (by simp; omega)
        go_wp2_with fail
        go_ret
        exact ⟨ret_bool (by rw [HS.out]; simp), hc1⟩
      | false =>
        go_enter Tryz.func48, Tryz.ntmps48
        go_wp2_with fail
        go_region
        go_wp2_with fail
        refine (HP.out _).mono ?_
        rintro e w1 ⟨rfl, hb1⟩
        have hc1 := hbx.trans (hb1.mono hbx.size)
        have hl1 := fun i => hb1.cell (p := ⟨w.heap.size, i, none⟩) (by simp; omega)
        go_wp2_with fail
        go_ret
        exact ⟨ret_bool (by rw [HS.out]; simp; omega), hc1⟩

set_option maxRecDepth 100000 in
set_option maxHeartbeats 3200000 in
theorem shaped_2 (x : Opr) (w : World) (hk : x.kind = 2) (hm : x.man.size ≤ 100000) :
    Calls Tryz.prog 48 #[.agg #[.int .i64 x.cnt, .int .i64 x.who, .int .i64 x.seq, .int .i64 x.kind, .int .i64 x.nc, .int .i64 x.nw, .bool x.dir, .int .i64 x.pc, .int .i64 x.pw, .string x.name, .string x.man]] w fun e w' => e = .returned (.bool (shapeO x)) ∧ Below w.heap.size w w' := by
  obtain ⟨cnt, who, seq, kind, nc, nw, dir, pc, pw, name, man⟩ := x
  obtain rfl : kind = 2 := hk
  dsimp only at hm ⊢
  have heq := eqlOpr ⟨cnt, who, seq, 2, nc, nw, dir, pc, pw, name, man⟩ ⟨cnt, who, seq, 2, nc, nw, false, pc, pw, name, ⟨#[]⟩⟩
  have hS : shapeO ⟨cnt, who, seq, 2, nc, nw, dir, pc, pw, name, man⟩ = (decide ((⟨cnt, who, seq, 2, nc, nw, dir, pc, pw, name, man⟩ : Opr) = ⟨cnt, who, seq, 2, nc, nw, false, pc, pw, name, ⟨#[]⟩⟩) && (placeC pc pw && rightC nc nw == 0)) := by
    have he : decide ((⟨cnt, who, seq, 2, nc, nw, dir, pc, pw, name, man⟩ : Opr) = ⟨cnt, who, seq, 2, nc, nw, false, pc, pw, name, ⟨#[]⟩⟩) = (!dir && decide (man = ⟨#[]⟩)) := by
      rw [show decide ((⟨cnt, who, seq, 2, nc, nw, dir, pc, pw, name, man⟩ : Opr) = ⟨cnt, who, seq, 2, nc, nw, false, pc, pw, name, ⟨#[]⟩⟩) = decide (_ ∧ _) from decide_eq_decide.2 opr_eq]
      simp
    rw [he]
    unfold shapeO
    dsimp only
    rw [if_neg (show ¬ (2 : Int) = 1 by decide), if_pos rfl]
    generalize placeC pc pw = p
    generalize (rightC nc nw == 0) = a
    generalize decide (man = ⟨#[]⟩) = m
    cases a <;> cases p <;> cases m <;> cases dir <;> rfl
  have hbx : Below w.heap.size w (((w.alloc (.cells #[.int .i64 cnt, .int .i64 who, .int .i64 seq, .int .i64 2, .int .i64 nc, .int .i64 nw, .bool dir, .int .i64 pc, .int .i64 pw, .string name, .string man] 28)).alloc (.cells #[.int .i64 cnt, .int .i64 who, .int .i64 seq, .int .i64 2, .int .i64 nc, .int .i64 nw, .bool false, .int .i64 pc, .int .i64 pw, .string name, .string ⟨#[]⟩] 28)).drew) := (((Below.refl _ _).alloc (Nat.le_refl _) _).alloc (by simp) _).drew
  have HS := Lib.hid hS
  clear hS
  dsimp only at heq
  generalize decide ((⟨cnt, who, seq, 2, nc, nw, dir, pc, pw, name, man⟩ : Opr) = ⟨cnt, who, seq, 2, nc, nw, false, pc, pw, name, ⟨#[]⟩⟩) = z at *
  have HP := Lib.hid fun W => place_any pc pw W
  have HR := Lib.hid fun W => cright_any nc nw W
  generalize placeC pc pw = p at *
  generalize rightC nc nw = r at *
  cases z with
  | false =>
    go_enter Tryz.func48, Tryz.ntmps48
    go_wp2_with fail
    go_region
    go_wp2_with fail
    go_ret
    exact ⟨ret_bool (by rw [HS.out]; rfl), hbx⟩
  | true =>
    cases p with
    | false =>
      go_enter Tryz.func48, Tryz.ntmps48
      go_wp2_with fail
      go_region
      go_wp2_with fail
      refine (HP.out _).mono ?_
      rintro e w1 ⟨rfl, hb1⟩
      have hc1 := hbx.trans (hb1.mono hbx.size)
      have hl1 := fun i => hb1.cell (p := ⟨w.heap.size, i, none⟩) (by simp; omega)
      go_wp2_with fail
      go_ret
      exact ⟨ret_bool (by rw [HS.out]; rfl), hc1⟩
    | true =>
      go_enter Tryz.func48, Tryz.ntmps48
      go_wp2_with fail
      go_region
      go_wp2_with fail
      refine (HP.out _).mono ?_
      rintro e w1 ⟨rfl, hb1⟩
      have hc1 := hbx.trans (hb1.mono hbx.size)
      have hl1 := fun i => hb1.cell (p := ⟨w.heap.size, i, none⟩) (by simp; omega)
      go_wp2_with fail
      refine (HR.out _).mono ?_
      rintro e w2 ⟨rfl, hb2⟩
      have hc2 := hc1.trans (hb2.mono hc1.size)
      go_wp2_with fail
      go_ret
      exact ⟨ret_bool (by rw [HS.out]; simp), hc2⟩

set_option maxRecDepth 100000 in
set_option maxHeartbeats 3200000 in
theorem shaped_3 (x : Opr) (w : World) (hk : x.kind = 3) (hm : x.man.size ≤ 100000) :
    Calls Tryz.prog 48 #[.agg #[.int .i64 x.cnt, .int .i64 x.who, .int .i64 x.seq, .int .i64 x.kind, .int .i64 x.nc, .int .i64 x.nw, .bool x.dir, .int .i64 x.pc, .int .i64 x.pw, .string x.name, .string x.man]] w fun e w' => e = .returned (.bool (shapeO x)) ∧ Below w.heap.size w w' := by
  obtain ⟨cnt, who, seq, kind, nc, nw, dir, pc, pw, name, man⟩ := x
  obtain rfl : kind = 3 := hk
  dsimp only at hm ⊢
  have heq := eqlOpr ⟨cnt, who, seq, 3, nc, nw, dir, pc, pw, name, man⟩ ⟨cnt, who, seq, 3, nc, nw, false, 0, 0, ⟨#[]⟩, man⟩
  have hS : shapeO ⟨cnt, who, seq, 3, nc, nw, dir, pc, pw, name, man⟩ = (decide ((⟨cnt, who, seq, 3, nc, nw, dir, pc, pw, name, man⟩ : Opr) = ⟨cnt, who, seq, 3, nc, nw, false, 0, 0, ⟨#[]⟩, man⟩) && ((rightC nc nw == 0) && decide (man.size ≤ 600))) := by
    have he : decide ((⟨cnt, who, seq, 3, nc, nw, dir, pc, pw, name, man⟩ : Opr) = ⟨cnt, who, seq, 3, nc, nw, false, 0, 0, ⟨#[]⟩, man⟩) = (!dir && (decide (pc = 0) && decide (pw = 0) && decide (name = ⟨#[]⟩))) := by
      rw [show decide ((⟨cnt, who, seq, 3, nc, nw, dir, pc, pw, name, man⟩ : Opr) = ⟨cnt, who, seq, 3, nc, nw, false, 0, 0, ⟨#[]⟩, man⟩) = decide (_ ∧ _) from decide_eq_decide.2 opr_eq]
      simp [Bool.and_assoc]
    rw [he]
    unfold shapeO
    dsimp only
    rw [if_neg (show ¬ (3 : Int) = 1 by decide), if_neg (show ¬ (3 : Int) = 2 by decide), if_pos rfl]
    generalize (rightC nc nw == 0) = a
    generalize decide (man.size ≤ 600) = m
    generalize decide (pc = 0) = b
    generalize decide (pw = 0) = c
    generalize decide (name = ⟨#[]⟩) = d
    cases a <;> cases m <;> cases dir <;> cases b <;> cases c <;> cases d <;> rfl
  have hbx : Below w.heap.size w (((w.alloc (.cells #[.int .i64 cnt, .int .i64 who, .int .i64 seq, .int .i64 3, .int .i64 nc, .int .i64 nw, .bool dir, .int .i64 pc, .int .i64 pw, .string name, .string man] 28)).alloc (.cells #[.int .i64 cnt, .int .i64 who, .int .i64 seq, .int .i64 3, .int .i64 nc, .int .i64 nw, .bool false, .int .i64 0, .int .i64 0, .string ⟨#[]⟩, .string man] 28))) := (((Below.refl _ _).alloc (Nat.le_refl _) _).alloc (by simp) _)
  have HS := Lib.hid hS
  clear hS
  dsimp only at heq
  generalize decide ((⟨cnt, who, seq, 3, nc, nw, dir, pc, pw, name, man⟩ : Opr) = ⟨cnt, who, seq, 3, nc, nw, false, 0, 0, ⟨#[]⟩, man⟩) = z at *
  have HR := Lib.hid fun W => cright_any nc nw W
  generalize rightC nc nw = r at *
  cases z with
  | false =>
    go_enter Tryz.func48, Tryz.ntmps48
    go_wp2_with fail
    go_ret
    exact ⟨ret_bool (by rw [HS.out]; rfl), hbx⟩
  | true =>
    generalize hr : (r == 0) = g at *
    cases g with
    | false =>
      go_enter Tryz.func48, Tryz.ntmps48
      go_wp2_with fail
      refine (HR.out _).mono ?_
      rintro e w1 ⟨rfl, hb1⟩
      have hc1 := hbx.trans (hb1.mono hbx.size)
      have hl1 := fun i => hb1.cell (p := ⟨w.heap.size, i, none⟩) (by simp; omega)
      go_wp2_with fail
      go_ret
      exact ⟨ret_bool (by rw [HS.out]; simp), hc1⟩
    | true =>
      go_enter Tryz.func48, Tryz.ntmps48
      go_wp2_with fail
      refine (HR.out _).mono ?_
      rintro e w1 ⟨rfl, hb1⟩
      have hc1 := hbx.trans (hb1.mono hbx.size)
      have hl1 := fun i => hb1.cell (p := ⟨w.heap.size, i, none⟩) (by simp; omega)
      go_wp2_with fail
      go_ret
      exact ⟨ret_bool (by rw [HS.out]; simp; omega), hc1⟩

set_option maxRecDepth 100000 in
set_option maxHeartbeats 3200000 in
theorem shaped_4 (x : Opr) (w : World) (hk : x.kind = 4) (hm : x.man.size ≤ 100000) :
    Calls Tryz.prog 48 #[.agg #[.int .i64 x.cnt, .int .i64 x.who, .int .i64 x.seq, .int .i64 x.kind, .int .i64 x.nc, .int .i64 x.nw, .bool x.dir, .int .i64 x.pc, .int .i64 x.pw, .string x.name, .string x.man]] w fun e w' => e = .returned (.bool (shapeO x)) ∧ Below w.heap.size w w' := by
  obtain ⟨cnt, who, seq, kind, nc, nw, dir, pc, pw, name, man⟩ := x
  obtain rfl : kind = 4 := hk
  dsimp only at hm ⊢
  have heq := eqlOpr ⟨cnt, who, seq, 4, nc, nw, dir, pc, pw, name, man⟩ ⟨cnt, who, seq, 4, nc, nw, false, 0, 0, ⟨#[]⟩, ⟨#[]⟩⟩
  have hS : shapeO ⟨cnt, who, seq, 4, nc, nw, dir, pc, pw, name, man⟩ = (decide ((⟨cnt, who, seq, 4, nc, nw, dir, pc, pw, name, man⟩ : Opr) = ⟨cnt, who, seq, 4, nc, nw, false, 0, 0, ⟨#[]⟩, ⟨#[]⟩⟩) && (rightC nc nw == 0)) := by
    have he : decide ((⟨cnt, who, seq, 4, nc, nw, dir, pc, pw, name, man⟩ : Opr) = ⟨cnt, who, seq, 4, nc, nw, false, 0, 0, ⟨#[]⟩, ⟨#[]⟩⟩) = (!dir && (decide (pc = 0) && decide (pw = 0) && decide (name = ⟨#[]⟩)) && decide (man = ⟨#[]⟩)) := by
      rw [show decide ((⟨cnt, who, seq, 4, nc, nw, dir, pc, pw, name, man⟩ : Opr) = ⟨cnt, who, seq, 4, nc, nw, false, 0, 0, ⟨#[]⟩, ⟨#[]⟩⟩) = decide (_ ∧ _) from decide_eq_decide.2 opr_eq]
      simp [Bool.and_assoc]
    rw [he]
    unfold shapeO
    dsimp only
    rw [if_neg (show ¬ (4 : Int) = 1 by decide), if_neg (show ¬ (4 : Int) = 2 by decide), if_neg (show ¬ (4 : Int) = 3 by decide), if_pos rfl]
    generalize (rightC nc nw == 0) = a
    generalize decide (man = ⟨#[]⟩) = m
    generalize decide (pc = 0) = b
    generalize decide (pw = 0) = c
    generalize decide (name = ⟨#[]⟩) = d
    cases a <;> cases m <;> cases dir <;> cases b <;> cases c <;> cases d <;> rfl
  have hbx : Below w.heap.size w (((w.alloc (.cells #[.int .i64 cnt, .int .i64 who, .int .i64 seq, .int .i64 4, .int .i64 nc, .int .i64 nw, .bool dir, .int .i64 pc, .int .i64 pw, .string name, .string man] 28)).alloc (.cells #[.int .i64 cnt, .int .i64 who, .int .i64 seq, .int .i64 4, .int .i64 nc, .int .i64 nw, .bool false, .int .i64 0, .int .i64 0, .string ⟨#[]⟩, .string ⟨#[]⟩] 28))) := (((Below.refl _ _).alloc (Nat.le_refl _) _).alloc (by simp) _)
  have HS := Lib.hid hS
  clear hS
  dsimp only at heq
  generalize decide ((⟨cnt, who, seq, 4, nc, nw, dir, pc, pw, name, man⟩ : Opr) = ⟨cnt, who, seq, 4, nc, nw, false, 0, 0, ⟨#[]⟩, ⟨#[]⟩⟩) = z at *
  have HR := Lib.hid fun W => cright_any nc nw W
  generalize rightC nc nw = r at *
  cases z with
  | false =>
    go_enter Tryz.func48, Tryz.ntmps48
    go_wp2_with fail
    go_ret
    exact ⟨ret_bool (by rw [HS.out]; rfl), hbx⟩
  | true =>
    go_enter Tryz.func48, Tryz.ntmps48
    go_wp2_with fail
    refine (HR.out _).mono ?_
    rintro e w1 ⟨rfl, hb1⟩
    have hc1 := hbx.trans (hb1.mono hbx.size)
    have hl1 := fun i => hb1.cell (p := ⟨w.heap.size, i, none⟩) (by simp; omega)
    go_wp2_with fail
    go_ret
    exact ⟨ret_bool (by rw [HS.out]; simp), hc1⟩

set_option maxRecDepth 100000 in
theorem shaped_any (x : Opr) (w : World) (hm : x.man.size ≤ 100000) :
    Calls Tryz.prog 48 #[.agg #[.int .i64 x.cnt, .int .i64 x.who, .int .i64 x.seq, .int .i64 x.kind, .int .i64 x.nc, .int .i64 x.nw, .bool x.dir, .int .i64 x.pc, .int .i64 x.pw, .string x.name, .string x.man]] w fun e w' => e = .returned (.bool (shapeO x)) ∧ Below w.heap.size w w' := by
  by_cases h1 : x.kind = 1
  · cases hd : x.dir with
    | true => have := shaped_1_true x w h1 hd hm; rwa [hd] at this
    | false => have := shaped_1_false x w h1 hd hm; rwa [hd] at this
  by_cases h2 : x.kind = 2
  · exact shaped_2 x w h2 hm
  by_cases h3 : x.kind = 3
  · exact shaped_3 x w h3 hm
  by_cases h4 : x.kind = 4
  · exact shaped_4 x w h4 hm
  have HS := Lib.hid (show shapeO x = false by unfold shapeO; rw [if_neg h1, if_neg h2, if_neg h3, if_neg h4])
  obtain ⟨cnt, who, seq, kind, nc, nw, dir, pc, pw, name, man⟩ := x
  dsimp only at h1 h2 h3 h4 ⊢
  have e1 : (kind == 1) = false := by simpa using h1
  have e2 : (kind == 2) = false := by simpa using h2
  have e3 : (kind == 3) = false := by simpa using h3
  have e4 : (kind == 4) = false := by simpa using h4
  have hbx : Below w.heap.size w ((w.alloc (.cells #[.int .i64 cnt, .int .i64 who, .int .i64 seq, .int .i64 kind, .int .i64 nc, .int .i64 nw, .bool dir, .int .i64 pc, .int .i64 pw, .string name, .string man] 28)).alloc (.cells #[.int .i64 cnt, .int .i64 who, .int .i64 seq, .int .i64 kind, .int .i64 nc, .int .i64 nw, .bool false, .int .i64 0, .int .i64 0, .string ⟨#[]⟩, .string ⟨#[]⟩] 28)) := ((Below.refl _ _).alloc (Nat.le_refl _) _).alloc (by simp) _
  clear h1 h2 h3 h4
  go_enter Tryz.func48, Tryz.ntmps48
  go_wp2_with fail
  go_ret
  exact ⟨ret_bool HS.out.symm, hbx⟩
end Go.Proofs.YtlenpifjkbcmdaaGreatDoor
