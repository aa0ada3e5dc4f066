import Derived.Test.YtaimbhphepopmaaDoorOpsW3
namespace Go.Proofs.YtaimbhphepopmaaDoor
open Go Go.RowKit Go.Lib


set_option maxRecDepth 100000 in
set_option maxHeartbeats 6400000 in
theorem rshape_3 (x : Opr) (w : World) (hk : x.kind = 3) (hm : x.man.size ≤ 100000) :
    Calls Tryd.prog 74 #[.agg #[.int .i64 x.cnt, .int .i64 x.who, .int .i64 x.seq, .int .i64 x.kind, .int .i64 x.nc, .int .i64 x.nw, .bool x.dir, .int .i64 x.pc, .int .i64 x.pw, .string x.name, .string x.man]] w fun e w' => e = .returned (.bool (shapeO x)) ∧ Below w.heap.size w w' := by
  obtain ⟨cnt, who, seq, kind, nc, nw, dir, pc, pw, name, man⟩ := x
  obtain rfl : kind = 3 := hk
  dsimp only at hm ⊢
  have hbx : Below w.heap.size w (w.alloc (.cells #[.int .i64 cnt, .int .i64 who, .int .i64 seq, .int .i64 3, .int .i64 nc, .int .i64 nw, .bool dir, .int .i64 pc, .int .i64 pw, .string name, .string man] 45)) := (Below.refl _ _).alloc (Nat.le_refl _) _
  have hu := eqlStp ⟨pc, pw⟩ ⟨0, 0⟩
  dsimp only at hu
  have hv := isEmpty_eq name
  have hn := isEmpty_eq man
  have hS : shapeO ⟨cnt, who, seq, 3, nc, nw, dir, pc, pw, name, man⟩ = (rightC nc nw == 0 && !dir && (decide ((⟨pc, pw⟩ : Stp) = ⟨0, 0⟩) && decide (name = ⟨#[]⟩)) && decide (man.size ≤ 600)) := by
    first | rfl | (simp only [stp_eq]; rfl)
  have HS := Lib.hid hS
  clear hS
  have HR := Lib.hid fun W => rcright_any nc nw W
  generalize hgg : (rightC nc nw == 0) = g at *
  generalize rightC nc nw = r at *
  generalize decide ((⟨pc, pw⟩ : Stp) = ⟨0, 0⟩) = u at *
  generalize decide (name = ⟨#[]⟩) = v at *
  generalize decide (man = ⟨#[]⟩) = n at *
  cases u with
  | false =>
    cases g with
    | false =>
      go_enter Tryd.func74, Tryd.ntmps74
      go_wp2_with fail
      refine (HR.out _).mono ?_
      rintro e w1 ⟨rfl, hb1⟩
      have hc1 := hbx.trans (hb1.mono hbx.size)
      have hl1 := fun i => hb1.cell (p := ⟨w.heap.size, i, none⟩) (by simp)
      go_wp2_with fail
      all_goals go_ret
      all_goals exact ⟨ret_bool (by rw [HS.out]; first | rfl | (simp; done) | (simp; omega)), hc1⟩
    | true =>
      cases dir with
      | false =>
        go_enter Tryd.func74, Tryd.ntmps74
        go_wp2_with fail
        refine (HR.out _).mono ?_
        rintro e w1 ⟨rfl, hb1⟩
        have hc1 := hbx.trans (hb1.mono hbx.size)
        have hl1 := fun i => hb1.cell (p := ⟨w.heap.size, i, none⟩) (by simp)
        go_wp2_with fail
        all_goals go_ret
        all_goals exact ⟨ret_bool (by rw [HS.out]; first | rfl | (simp; done) | (simp; omega)), hc1⟩
      | true =>
        go_enter Tryd.func74, Tryd.ntmps74
        go_wp2_with fail
        refine (HR.out _).mono ?_
        rintro e w1 ⟨rfl, hb1⟩
        have hc1 := hbx.trans (hb1.mono hbx.size)
        have hl1 := fun i => hb1.cell (p := ⟨w.heap.size, i, none⟩) (by simp)
        go_wp2_with fail
        all_goals go_ret
        all_goals exact ⟨ret_bool (by rw [HS.out]; first | rfl | (simp; done) | (simp; omega)), hc1⟩
  | true =>
    cases g with
    | false =>
      go_enter Tryd.func74, Tryd.ntmps74
      go_wp2_with fail
      refine (HR.out _).mono ?_
      rintro e w1 ⟨rfl, hb1⟩
      have hc1 := hbx.trans (hb1.mono hbx.size)
      have hl1 := fun i => hb1.cell (p := ⟨w.heap.size, i, none⟩) (by simp)
      go_wp2_with fail
      all_goals go_ret
      all_goals exact ⟨ret_bool (by rw [HS.out]; first | rfl | (simp; done) | (simp; omega)), hc1⟩
    | true =>
      cases dir with
      | false =>
        cases v with
        | false =>
          go_enter Tryd.func74, Tryd.ntmps74
          go_wp2_with fail
          refine (HR.out _).mono ?_
          rintro e w1 ⟨rfl, hb1⟩
          have hc1 := hbx.trans (hb1.mono hbx.size)
          have hl1 := fun i => hb1.cell (p := ⟨w.heap.size, i, none⟩) (by simp)
          go_wp2_with fail
          all_goals go_ret
          all_goals exact ⟨ret_bool (by rw [HS.out]; first | rfl | (simp; done) | (simp; omega)), hc1⟩
        | true =>
          go_enter Tryd.func74, Tryd.ntmps74
          go_wp2_with fail
          refine (HR.out _).mono ?_
          rintro e w1 ⟨rfl, hb1⟩
          have hc1 := hbx.trans (hb1.mono hbx.size)
          have hl1 := fun i => hb1.cell (p := ⟨w.heap.size, i, none⟩) (by simp)
          go_wp2_with fail
          all_goals go_ret
          all_goals exact ⟨ret_bool (by rw [HS.out]; first | rfl | (simp; done) | (simp; omega)), hc1⟩
      | true =>
        go_enter Tryd.func74, Tryd.ntmps74
        go_wp2_with fail
        refine (HR.out _).mono ?_
        rintro e w1 ⟨rfl, hb1⟩
        have hc1 := hbx.trans (hb1.mono hbx.size)
        have hl1 := fun i => hb1.cell (p := ⟨w.heap.size, i, none⟩) (by simp)
        go_wp2_with fail
        all_goals go_ret
        all_goals exact ⟨ret_bool (by rw [HS.out]; first | rfl | (simp; done) | (simp; omega)), hc1⟩

set_option maxRecDepth 100000 in
set_option maxHeartbeats 6400000 in
theorem rshape_4 (x : Opr) (w : World) (hk : x.kind = 4) (hm : x.man.size ≤ 100000) :
    Calls Tryd.prog 74 #[.agg #[.int .i64 x.cnt, .int .i64 x.who, .int .i64 x.seq, .int .i64 x.kind, .int .i64 x.nc, .int .i64 x.nw, .bool x.dir, .int .i64 x.pc, .int .i64 x.pw, .string x.name, .string x.man]] w fun e w' => e = .returned (.bool (shapeO x)) ∧ Below w.heap.size w w' := by
  obtain ⟨cnt, who, seq, kind, nc, nw, dir, pc, pw, name, man⟩ := x
  obtain rfl : kind = 4 := hk
  dsimp only at hm ⊢
  have hbx : Below w.heap.size w (w.alloc (.cells #[.int .i64 cnt, .int .i64 who, .int .i64 seq, .int .i64 4, .int .i64 nc, .int .i64 nw, .bool dir, .int .i64 pc, .int .i64 pw, .string name, .string man] 45)) := (Below.refl _ _).alloc (Nat.le_refl _) _
  have hu := eqlStp ⟨pc, pw⟩ ⟨0, 0⟩
  dsimp only at hu
  have hv := isEmpty_eq name
  have hn := isEmpty_eq man
  have hS : shapeO ⟨cnt, who, seq, 4, nc, nw, dir, pc, pw, name, man⟩ = (rightC nc nw == 0 && !dir && (decide ((⟨pc, pw⟩ : Stp) = ⟨0, 0⟩) && decide (name = ⟨#[]⟩)) && decide (man = ⟨#[]⟩)) := by
    first | rfl | (simp only [stp_eq]; rfl)
  have HS := Lib.hid hS
  clear hS
  have HR := Lib.hid fun W => rcright_any nc nw W
  generalize hgg : (rightC nc nw == 0) = g at *
  generalize rightC nc nw = r at *
  generalize decide ((⟨pc, pw⟩ : Stp) = ⟨0, 0⟩) = u at *
  generalize decide (name = ⟨#[]⟩) = v at *
  generalize decide (man = ⟨#[]⟩) = n at *
  cases u with
  | false =>
    cases g with
    | false =>
      go_enter Tryd.func74, Tryd.ntmps74
      go_wp2_with fail
      refine (HR.out _).mono ?_
      rintro e w1 ⟨rfl, hb1⟩
      have hc1 := hbx.trans (hb1.mono hbx.size)
      have hl1 := fun i => hb1.cell (p := ⟨w.heap.size, i, none⟩) (by simp)
      go_wp2_with fail
      all_goals go_ret
      all_goals exact ⟨ret_bool (by rw [HS.out]; first | rfl | (simp; done) | (simp; omega)), hc1⟩
    | true =>
      cases dir with
      | false =>
        go_enter Tryd.func74, Tryd.ntmps74
        go_wp2_with fail
        refine (HR.out _).mono ?_
        rintro e w1 ⟨rfl, hb1⟩
        have hc1 := hbx.trans (hb1.mono hbx.size)
        have hl1 := fun i => hb1.cell (p := ⟨w.heap.size, i, none⟩) (by simp)
        go_wp2_with fail
        all_goals go_ret
        all_goals exact ⟨ret_bool (by rw [HS.out]; first | rfl | (simp; done) | (simp; omega)), hc1⟩
      | true =>
        go_enter Tryd.func74, Tryd.ntmps74
        go_wp2_with fail
        refine (HR.out _).mono ?_
        rintro e w1 ⟨rfl, hb1⟩
        have hc1 := hbx.trans (hb1.mono hbx.size)
        have hl1 := fun i => hb1.cell (p := ⟨w.heap.size, i, none⟩) (by simp)
        go_wp2_with fail
        all_goals go_ret
        all_goals exact ⟨ret_bool (by rw [HS.out]; first | rfl | (simp; done) | (simp; omega)), hc1⟩
  | true =>
    cases g with
    | false =>
      go_enter Tryd.func74, Tryd.ntmps74
      go_wp2_with fail
      refine (HR.out _).mono ?_
      rintro e w1 ⟨rfl, hb1⟩
      have hc1 := hbx.trans (hb1.mono hbx.size)
      have hl1 := fun i => hb1.cell (p := ⟨w.heap.size, i, none⟩) (by simp)
      go_wp2_with fail
      all_goals go_ret
      all_goals exact ⟨ret_bool (by rw [HS.out]; first | rfl | (simp; done) | (simp; omega)), hc1⟩
    | true =>
      cases dir with
      | false =>
        cases v with
        | false =>
          go_enter Tryd.func74, Tryd.ntmps74
          go_wp2_with fail
          refine (HR.out _).mono ?_
          rintro e w1 ⟨rfl, hb1⟩
          have hc1 := hbx.trans (hb1.mono hbx.size)
          have hl1 := fun i => hb1.cell (p := ⟨w.heap.size, i, none⟩) (by simp)
          go_wp2_with fail
          all_goals go_ret
          all_goals exact ⟨ret_bool (by rw [HS.out]; first | rfl | (simp; done) | (simp; omega)), hc1⟩
        | true =>
          go_enter Tryd.func74, Tryd.ntmps74
          go_wp2_with fail
          refine (HR.out _).mono ?_
          rintro e w1 ⟨rfl, hb1⟩
          have hc1 := hbx.trans (hb1.mono hbx.size)
          have hl1 := fun i => hb1.cell (p := ⟨w.heap.size, i, none⟩) (by simp)
          go_wp2_with fail
          all_goals go_ret
          all_goals exact ⟨ret_bool (by rw [HS.out]; first | rfl | (simp; done) | (simp; omega)), hc1⟩
      | true =>
        go_enter Tryd.func74, Tryd.ntmps74
        go_wp2_with fail
        refine (HR.out _).mono ?_
        rintro e w1 ⟨rfl, hb1⟩
        have hc1 := hbx.trans (hb1.mono hbx.size)
        have hl1 := fun i => hb1.cell (p := ⟨w.heap.size, i, none⟩) (by simp)
        go_wp2_with fail
        all_goals go_ret
        all_goals exact ⟨ret_bool (by rw [HS.out]; first | rfl | (simp; done) | (simp; omega)), hc1⟩

set_option maxRecDepth 100000 in
theorem rshape_any (x : Opr) (w : World) (hm : x.man.size ≤ 100000) :
    Calls Tryd.prog 74 #[.agg #[.int .i64 x.cnt, .int .i64 x.who, .int .i64 x.seq, .int .i64 x.kind, .int .i64 x.nc, .int .i64 x.nw, .bool x.dir, .int .i64 x.pc, .int .i64 x.pw, .string x.name, .string x.man]] w fun e w' => e = .returned (.bool (shapeO x)) ∧ Below w.heap.size w w' := by
  by_cases h1 : x.kind = 1
  · exact rshape_1 x w h1 hm
  by_cases h2 : x.kind = 2
  · exact rshape_2 x w h2 hm
  by_cases h3 : x.kind = 3
  · exact rshape_3 x w h3 hm
  by_cases h4 : x.kind = 4
  · exact rshape_4 x w h4 hm
  have HS := Lib.hid (show shapeO x = false by unfold shapeO; rw [if_neg h1, if_neg h2, if_neg h3, if_neg h4])
  obtain ⟨cnt, who, seq, kind, nc, nw, dir, pc, pw, name, man⟩ := x
  dsimp only at h1 h2 h3 h4 ⊢
  have e1 : (kind == 1) = false := by simpa using h1
  have e2 : (kind == 2) = false := by simpa using h2
  have e3 : (kind == 3) = false := by simpa using h3
  have e4 : (kind == 4) = false := by simpa using h4
  have hbx : Below w.heap.size w (w.alloc (.cells #[.int .i64 cnt, .int .i64 who, .int .i64 seq, .int .i64 kind, .int .i64 nc, .int .i64 nw, .bool dir, .int .i64 pc, .int .i64 pw, .string name, .string man] 45)) := (Below.refl _ _).alloc (Nat.le_refl _) _
  have hu := eqlStp ⟨pc, pw⟩ ⟨0, 0⟩
  dsimp only at hu
  have hv := isEmpty_eq name
  generalize decide ((⟨pc, pw⟩ : Stp) = ⟨0, 0⟩) = u at *
  generalize decide (name = ⟨#[]⟩) = v at *
  clear h1 h2 h3 h4
  cases u <;> cases v
  all_goals
    go_enter Tryd.func74, Tryd.ntmps74
    go_wp2_with fail
    go_ret
    exact ⟨ret_bool HS.out.symm, hbx⟩
end Go.Proofs.YtaimbhphepopmaaDoor