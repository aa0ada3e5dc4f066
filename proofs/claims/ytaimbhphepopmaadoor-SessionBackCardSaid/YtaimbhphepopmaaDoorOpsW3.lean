import Derived.Test.YtaimbhphepopmaaDoorOpsW2
namespace Go.Proofs.YtaimbhphepopmaaDoor
open Go Go.RowKit Go.Lib

theorem isEmpty_eq (s : ByteArray) : s.toList.isEmpty = decide (s = ⟨#[]⟩) := by
  by_cases h : s = ⟨#[]⟩
  · rw [h, toList_data]; rfl
  · rw [empty_ne h]; simp [h]


set_option maxRecDepth 100000 in
set_option maxHeartbeats 6400000 in
theorem rshape_1 (x : Opr) (w : World) (hk : x.kind = 1) (hm : x.man.size ≤ 100000) :
    Calls Tryd.prog 74 #[.agg #[.int .i64 x.cnt, .int .i64 x.who, .int .i64 x.seq, .int .i64 x.kind, .int .i64 x.nc, .int .i64 x.nw, .bool x.dir, .int .i64 x.pc, .int .i64 x.pw, .string x.name, .string x.man]] w fun e w' => e = .returned (.bool (shapeO x)) ∧ Below w.heap.size w w' := by
  obtain ⟨cnt, who, seq, kind, nc, nw, dir, pc, pw, name, man⟩ := x
  obtain rfl : kind = 1 := hk
  dsimp only at hm ⊢
  have hbx : Below w.heap.size w (w.alloc (.cells #[.int .i64 cnt, .int .i64 who, .int .i64 seq, .int .i64 1, .int .i64 nc, .int .i64 nw, .bool dir, .int .i64 pc, .int .i64 pw, .string name, .string man] 45)) := (Below.refl _ _).alloc (Nat.le_refl _) _
  have hu := eqlStp ⟨pc, pw⟩ ⟨0, 0⟩
  dsimp only at hu
  have hv := isEmpty_eq name
  have hn := isEmpty_eq man
  have hS : shapeO ⟨cnt, who, seq, 1, nc, nw, dir, pc, pw, name, man⟩ = (decide ((⟨nc, nw⟩ : Stp) = ⟨cnt, who⟩) && placeC pc pw && !decide ((⟨pc, pw⟩ : Stp) = ⟨nc, nw⟩) && (if dir then decide (man = ⟨#[]⟩) else decide (man.size ≤ 600))) := by
    first | rfl | (simp only [stp_eq]; rfl)
  have HS := Lib.hid hS
  clear hS
  have HP := Lib.hid fun W => rplace_any pc pw W
  have hz := eqlStp ⟨nc, nw⟩ ⟨cnt, who⟩
  have hq := neqStp ⟨pc, pw⟩ ⟨nc, nw⟩
  dsimp only at hz hq
  generalize decide ((⟨nc, nw⟩ : Stp) = ⟨cnt, who⟩) = z at *
  generalize decide ((⟨pc, pw⟩ : Stp) = ⟨nc, nw⟩) = q at *
  generalize placeC pc pw = p at *
  generalize decide ((⟨pc, pw⟩ : Stp) = ⟨0, 0⟩) = u at *
  generalize decide (name = ⟨#[]⟩) = v at *
  generalize decide (man = ⟨#[]⟩) = n at *
  cases u with
  | false =>
    cases z with
    | false =>
      go_enter Tryd.func74, Tryd.ntmps74
      go_wp2_with fail
      all_goals go_ret
      all_goals exact ⟨ret_bool (by rw [HS.out]; first | rfl | (simp; done) | (simp; omega)), hbx⟩
    | true =>
      cases p with
      | false =>
        go_enter Tryd.func74, Tryd.ntmps74
        go_wp2_with fail
        refine (HP.out _).mono ?_
        rintro e w1 ⟨rfl, hb1⟩
        have hc1 := hbx.trans (hb1.mono hbx.size)
        have hl1 := fun i => hb1.cell (p := ⟨w.heap.size, i, none⟩) (by simp)
        go_wp2_with fail
        all_goals go_ret
        all_goals exact ⟨ret_bool (by rw [HS.out]; first | rfl | (simp; done) | (simp; omega)), hc1⟩
      | true =>
        cases q with
        | false =>
          cases dir with
          | false =>
            go_enter Tryd.func74, Tryd.ntmps74
            go_wp2_with fail
            refine (HP.out _).mono ?_
            rintro e w1 ⟨rfl, hb1⟩
            have hc1 := hbx.trans (hb1.mono hbx.size)
            have hl1 := fun i => hb1.cell (p := ⟨w.heap.size, i, none⟩) (by simp)
            go_wp2_with fail
            all_goals go_ret
            all_goals exact ⟨ret_bool (by rw [HS.out]; first | rfl | (simp; done) | (simp; omega)), hc1⟩
          | true =>
            go_enter Tryd.func74, Tryd.ntmps74
            go_wp2_with fail
            refine (HP.out _).mono ?_
            rintro e w1 ⟨rfl, hb1⟩
            have hc1 := hbx.trans (hb1.mono hbx.size)
            have hl1 := fun i => hb1.cell (p := ⟨w.heap.size, i, none⟩) (by simp)
            go_wp2_with fail
            all_goals go_ret
            all_goals exact ⟨ret_bool (by rw [HS.out]; first | rfl | (simp; done) | (simp; omega)), hc1⟩
        | true =>
          go_enter Tryd.func74, Tryd.ntmps74
          go_wp2_with fail
          refine (HP.out _).mono ?_
          rintro e w1 ⟨rfl, hb1⟩
          have hc1 := hbx.trans (hb1.mono hbx.size)
          have hl1 := fun i => hb1.cell (p := ⟨w.heap.size, i, none⟩) (by simp)
          go_wp2_with fail
          all_goals go_ret
          all_goals exact ⟨ret_bool (by rw [HS.out]; first | rfl | (simp; done) | (simp; omega)), hc1⟩
  | true =>
    cases z with
    | false =>
      go_enter Tryd.func74, Tryd.ntmps74
      go_wp2_with fail
      all_goals go_ret
      all_goals exact ⟨ret_bool (by rw [HS.out]; first | rfl | (simp; done) | (simp; omega)), hbx⟩
    | true =>
      cases p with
      | false =>
        go_enter Tryd.func74, Tryd.ntmps74
        go_wp2_with fail
        refine (HP.out _).mono ?_
        rintro e w1 ⟨rfl, hb1⟩
        have hc1 := hbx.trans (hb1.mono hbx.size)
        have hl1 := fun i => hb1.cell (p := ⟨w.heap.size, i, none⟩) (by simp)
        go_wp2_with fail
        all_goals go_ret
        all_goals exact ⟨ret_bool (by rw [HS.out]; first | rfl | (simp; done) | (simp; omega)), hc1⟩
      | true =>
        cases q with
        | false =>
          cases dir with
          | false =>
            go_enter Tryd.func74, Tryd.ntmps74
            go_wp2_with fail
            refine (HP.out _).mono ?_
            rintro e w1 ⟨rfl, hb1⟩
            have hc1 := hbx.trans (hb1.mono hbx.size)
            have hl1 := fun i => hb1.cell (p := ⟨w.heap.size, i, none⟩) (by simp)
            go_wp2_with fail
            all_goals go_ret
            all_goals exact ⟨ret_bool (by rw [HS.out]; first | rfl | (simp; done) | (simp; omega)), hc1⟩
          | true =>
            go_enter Tryd.func74, Tryd.ntmps74
            go_wp2_with fail
            refine (HP.out _).mono ?_
            rintro e w1 ⟨rfl, hb1⟩
            have hc1 := hbx.trans (hb1.mono hbx.size)
            have hl1 := fun i => hb1.cell (p := ⟨w.heap.size, i, none⟩) (by simp)
            go_wp2_with fail
            all_goals go_ret
            all_goals exact ⟨ret_bool (by rw [HS.out]; first | rfl | (simp; done) | (simp; omega)), hc1⟩
        | true =>
          go_enter Tryd.func74, Tryd.ntmps74
          go_wp2_with fail
          refine (HP.out _).mono ?_
          rintro e w1 ⟨rfl, hb1⟩
          have hc1 := hbx.trans (hb1.mono hbx.size)
          have hl1 := fun i => hb1.cell (p := ⟨w.heap.size, i, none⟩) (by simp)
          go_wp2_with fail
          all_goals go_ret
          all_goals exact ⟨ret_bool (by rw [HS.out]; first | rfl | (simp; done) | (simp; omega)), hc1⟩

set_option maxRecDepth 100000 in
set_option maxHeartbeats 6400000 in
theorem rshape_2 (x : Opr) (w : World) (hk : x.kind = 2) (hm : x.man.size ≤ 100000) :
    Calls Tryd.prog 74 #[.agg #[.int .i64 x.cnt, .int .i64 x.who, .int .i64 x.seq, .int .i64 x.kind, .int .i64 x.nc, .int .i64 x.nw, .bool x.dir, .int .i64 x.pc, .int .i64 x.pw, .string x.name, .string x.man]] w fun e w' => e = .returned (.bool (shapeO x)) ∧ Below w.heap.size w w' := by
  obtain ⟨cnt, who, seq, kind, nc, nw, dir, pc, pw, name, man⟩ := x
  obtain rfl : kind = 2 := hk
  dsimp only at hm ⊢
  have hbx : Below w.heap.size w (w.alloc (.cells #[.int .i64 cnt, .int .i64 who, .int .i64 seq, .int .i64 2, .int .i64 nc, .int .i64 nw, .bool dir, .int .i64 pc, .int .i64 pw, .string name, .string man] 45)) := (Below.refl _ _).alloc (Nat.le_refl _) _
  have hu := eqlStp ⟨pc, pw⟩ ⟨0, 0⟩
  dsimp only at hu
  have hv := isEmpty_eq name
  have hn := isEmpty_eq man
  have hS : shapeO ⟨cnt, who, seq, 2, nc, nw, dir, pc, pw, name, man⟩ = (rightC nc nw == 0 && !dir && placeC pc pw && decide (man = ⟨#[]⟩)) := by
    first | rfl | (simp only [stp_eq]; rfl)
  have HS := Lib.hid hS
  clear hS
  have HR := Lib.hid fun W => rcright_any nc nw W
  generalize hgg : (rightC nc nw == 0) = g at *
  generalize rightC nc nw = r at *
  have HP := Lib.hid fun W => rplace_any pc pw W
  generalize placeC pc pw = p at *
  generalize decide ((⟨pc, pw⟩ : Stp) = ⟨0, 0⟩) = u at *
  generalize decide (name = ⟨#[]⟩) = v at *
  generalize decide (man = ⟨#[]⟩) = n at *
  cases u with
  | false =>
    cases g with
    | false =>
      go_enter Tryd.func74, Tryd.ntmps74
      go_wp2_with fail
      refine (HR.out _).mono ?_
      rintro e w1 ⟨rfl, hb1⟩
      have hc1 := hbx.trans (hb1.mono hbx.size)
      have hl1 := fun i => hb1.cell (p := ⟨w.heap.size, i, none⟩) (by simp)
      go_wp2_with fail
      all_goals go_ret
      all_goals exact ⟨ret_bool (by rw [HS.out]; first | rfl | (simp; done) | (simp; omega)), hc1⟩
    | true =>
      cases dir with
      | false =>
        cases p with
        | false =>
          go_enter Tryd.func74, Tryd.ntmps74
          go_wp2_with fail
          refine (HR.out _).mono ?_
          rintro e w1 ⟨rfl, hb1⟩
          have hc1 := hbx.trans (hb1.mono hbx.size)
          have hl1 := fun i => hb1.cell (p := ⟨w.heap.size, i, none⟩) (by simp)
          go_wp2_with fail
          refine (HP.out _).mono ?_
          rintro e w2 ⟨rfl, hb2⟩
          have hc2 := hc1.trans (hb2.mono hc1.size)
          have hl2 := fun i => hb2.cell (p := ⟨w.heap.size, i, none⟩) (by exact Nat.lt_of_lt_of_le (by simp) hb1.size)
          go_wp2_with fail
          all_goals go_ret
          all_goals exact ⟨ret_bool (by rw [HS.out]; first | rfl | (simp; done) | (simp; omega)), hc2⟩
        | true =>
          go_enter Tryd.func74, Tryd.ntmps74
          go_wp2_with fail
          refine (HR.out _).mono ?_
          rintro e w1 ⟨rfl, hb1⟩
          have hc1 := hbx.trans (hb1.mono hbx.size)
          have hl1 := fun i => hb1.cell (p := ⟨w.heap.size, i, none⟩) (by simp)
          go_wp2_with fail
          refine (HP.out _).mono ?_
          rintro e w2 ⟨rfl, hb2⟩
          have hc2 := hc1.trans (hb2.mono hc1.size)
          have hl2 := fun i => hb2.cell (p := ⟨w.heap.size, i, none⟩) (by exact Nat.lt_of_lt_of_le (by simp) hb1.size)
          go_wp2_with fail
          all_goals go_ret
          all_goals exact ⟨ret_bool (by rw [HS.out]; first | rfl | (simp; done) | (simp; omega)), hc2⟩
      | true =>
        go_enter Tryd.func74, Tryd.ntmps74
        go_wp2_with fail
        refine (HR.out _).mono ?_
        rintro e w1 ⟨rfl, hb1⟩
        have hc1 := hbx.trans (hb1.mono hbx.size)
        have hl1 := fun i => hb1.cell (p := ⟨w.heap.size, i, none⟩) (by simp)
        go_wp2_with fail
        all_goals go_ret
        all_goals exact ⟨ret_bool (by rw [HS.out]; first | rfl | (simp; done) | (simp; omega)), hc1⟩
  | true =>
    cases g with
    | false =>
      go_enter Tryd.func74, Tryd.ntmps74
      go_wp2_with fail
      refine (HR.out _).mono ?_
      rintro e w1 ⟨rfl, hb1⟩
      have hc1 := hbx.trans (hb1.mono hbx.size)
      have hl1 := fun i => hb1.cell (p := ⟨w.heap.size, i, none⟩) (by simp)
      go_wp2_with fail
      all_goals go_ret
      all_goals exact ⟨ret_bool (by rw [HS.out]; first | rfl | (simp; done) | (simp; omega)), hc1⟩
    | true =>
      cases dir with
      | false =>
        cases p with
        | false =>
          go_enter Tryd.func74, Tryd.ntmps74
          go_wp2_with fail
          refine (HR.out _).mono ?_
          rintro e w1 ⟨rfl, hb1⟩
          have hc1 := hbx.trans (hb1.mono hbx.size)
          have hl1 := fun i => hb1.cell (p := ⟨w.heap.size, i, none⟩) (by simp)
          go_wp2_with fail
          refine (HP.out _).mono ?_
          rintro e w2 ⟨rfl, hb2⟩
          have hc2 := hc1.trans (hb2.mono hc1.size)
          have hl2 := fun i => hb2.cell (p := ⟨w.heap.size, i, none⟩) (by exact Nat.lt_of_lt_of_le (by simp) hb1.size)
          go_wp2_with fail
          all_goals go_ret
          all_goals exact ⟨ret_bool (by rw [HS.out]; first | rfl | (simp; done) | (simp; omega)), hc2⟩
        | true =>
          go_enter Tryd.func74, Tryd.ntmps74
          go_wp2_with fail
          refine (HR.out _).mono ?_
          rintro e w1 ⟨rfl, hb1⟩
          have hc1 := hbx.trans (hb1.mono hbx.size)
          have hl1 := fun i => hb1.cell (p := ⟨w.heap.size, i, none⟩) (by simp)
          go_wp2_with fail
          refine (HP.out _).mono ?_
          rintro e w2 ⟨rfl, hb2⟩
          have hc2 := hc1.trans (hb2.mono hc1.size)
          have hl2 := fun i => hb2.cell (p := ⟨w.heap.size, i, none⟩) (by exact Nat.lt_of_lt_of_le (by simp) hb1.size)
          go_wp2_with fail
          all_goals go_ret
          all_goals exact ⟨ret_bool (by rw [HS.out]; first | rfl | (simp; done) | (simp; omega)), hc2⟩
      | true =>
        go_enter Tryd.func74, Tryd.ntmps74
        go_wp2_with fail
        refine (HR.out _).mono ?_
        rintro e w1 ⟨rfl, hb1⟩
        have hc1 := hbx.trans (hb1.mono hbx.size)
        have hl1 := fun i => hb1.cell (p := ⟨w.heap.size, i, none⟩) (by simp)
        go_wp2_with fail
        all_goals go_ret
        all_goals exact ⟨ret_bool (by rw [HS.out]; first | rfl | (simp; done) | (simp; omega)), hc1⟩
end Go.Proofs.YtaimbhphepopmaaDoor