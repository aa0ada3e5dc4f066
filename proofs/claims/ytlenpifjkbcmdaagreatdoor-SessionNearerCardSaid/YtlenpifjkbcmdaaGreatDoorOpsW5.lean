import Derived.Test.YtlenpifjkbcmdaaGreatDoorOpsW4
namespace Go.Proofs.YtlenpifjkbcmdaaGreatDoor
open Go Go.RowKit Go.Lib


set_option maxRecDepth 100000 in
set_option maxHeartbeats 6400000 in
theorem oright_any (x : Opr) (w : World) (hn : x.name.size ≤ 100000) (hm : x.man.size ≤ 100000) :
    Calls Tryz.prog 12 #[.agg #[.int .i64 x.cnt, .int .i64 x.who, .int .i64 x.seq, .int .i64 x.kind, .int .i64 x.nc, .int .i64 x.nw, .bool x.dir, .int .i64 x.pc, .int .i64 x.pw, .string x.name, .string x.man]] w fun e w' => e = .returned (.int .i64 (rightO x)) ∧ Below w.heap.size w w' := by
  have hR : rightO x = if (rightC x.cnt x.who == 0) = false ∨ x.seq < 1 ∨ 1099511627776 < x.seq then 20
    else if (x.kind = 1 ∨ x.kind = 2) ∧ (rightN x.name.data.toList == 0) = false then 23 else if shapeO x then 0 else 22 := by
    unfold rightO
    simp only [ne_eq, beq_eq_false_iff_ne]
  have HS := Lib.hid fun W => shaped_any x W hm
  have HN := Lib.hid fun W => right_any x.name W (by omega)
  have HC := Lib.hid fun W => cright_any x.cnt x.who W
  obtain ⟨cnt, who, seq, kind, nc, nw, dir, pc, pw, name, man⟩ := x
  dsimp only at hm hn hR HS HN HC ⊢
  have HR := Lib.hid hR
  clear hR
  have hbx : Below w.heap.size w (w.alloc (.cells #[.int .i64 cnt, .int .i64 who, .int .i64 seq, .int .i64 kind, .int .i64 nc, .int .i64 nw, .bool dir, .int .i64 pc, .int .i64 pw, .string name, .string man] 28)) := (Below.refl _ _).alloc (Nat.le_refl _) _
  have hg : ∀ r : Int, (r != 0) = !(r == 0) := fun r => rfl
  have hg1 := hg (rightC cnt who)
  have hg2 := hg (rightN name.data.toList)
  clear hg
  generalize (rightC cnt who == 0) = g at *
  generalize (rightN name.data.toList == 0) = h at *
  generalize rightC cnt who = rc at *
  generalize rightN name.data.toList = rn at *
  generalize shapeO _ = sh at *
  generalize rightO _ = ro at *
  cases g with
  | false =>
    go_enter Tryz.func12, Tryz.ntmps12
    go_wp2_with fail
    refine (HC.out _).mono ?_
    rintro e w1 ⟨rfl, hb1⟩
    have hc1 := hbx.trans (hb1.mono hbx.size)
    have hl1 := fun i => hb1.cell (p := ⟨w.heap.size, i, none⟩) (by simp)
    go_wp2_with fail
    go_ret
    exact ⟨ret_int (by rw [HR.out]; simp), hc1⟩
  | true =>
    by_cases h1 : seq < 1
    · go_enter Tryz.func12, Tryz.ntmps12
      go_wp2_with fail
      refine (HC.out _).mono ?_
      rintro e w1 ⟨rfl, hb1⟩
      have hc1 := hbx.trans (hb1.mono hbx.size)
      have hl1 := fun i => hb1.cell (p := ⟨w.heap.size, i, none⟩) (by simp)
      go_wp2_with fail
      go_ret
      exact ⟨ret_int (by rw [HR.out]; simp [h1]), hc1⟩
    by_cases h2 : 1099511627776 < seq
    · go_enter Tryz.func12, Tryz.ntmps12
      go_wp2_with fail
      refine (HC.out _).mono ?_
      rintro e w1 ⟨rfl, hb1⟩
      have hc1 := hbx.trans (hb1.mono hbx.size)
      have hl1 := fun i => hb1.cell (p := ⟨w.heap.size, i, none⟩) (by simp)
      go_wp2_with fail
      go_ret
      exact ⟨ret_int (by rw [HR.out]; simp [h2]), hc1⟩
    by_cases h3 : kind = 1 ∨ kind = 2
    · have hk : (kind == 1) = true ∨ (kind == 1) = false ∧ (kind == 2) = true := by
        rcases h3 with h3 | h3 <;> rw [h3] <;> simp
      rcases hk with hk | ⟨hk, hk2⟩
      all_goals cases h
      all_goals
        go_enter Tryz.func12, Tryz.ntmps12
        go_wp2_with fail
        refine (HC.out _).mono ?_
        rintro e w1 ⟨rfl, hb1⟩
        have hc1 := hbx.trans (hb1.mono hbx.size)
        have hl1 := fun i => hb1.cell (p := ⟨w.heap.size, i, none⟩) (by simp)
        go_wp2_with fail
        refine (HN.out _).mono ?_
        rintro e w2 ⟨rfl, n2, rfl⟩
        go_wp2_with fail
      all_goals first | (go_ret; exact ⟨ret_int (by rw [HR.out]; rw [if_neg (fun h => h.elim (fun h => Bool.noConfusion h) (fun h => by omega))]; simp [h3]), (hc1.trans (⟨rfl, rfl, rfl, Nat.le_refl _, fun _ _ => rfl⟩ : Below w.heap.size w1 (w1.drewN n2)))⟩) | skip
      all_goals cases sh
      all_goals
        refine (HS.out _).mono ?_
        rintro e w3 ⟨rfl, hb3⟩
        have hc3 := (hc1.trans (⟨rfl, rfl, rfl, Nat.le_refl _, fun _ _ => rfl⟩ : Below w.heap.size w1 (w1.drewN n2))).trans (hb3.mono (hc1.trans (⟨rfl, rfl, rfl, Nat.le_refl _, fun _ _ => rfl⟩ : Below w.heap.size w1 (w1.drewN n2))).size)
        go_wp2_with fail
        go_ret
        exact ⟨ret_int (by rw [HR.out]; rw [if_neg (fun h => h.elim (fun h => Bool.noConfusion h) (fun h => by omega))]; simp [h3]), hc3⟩
    · have hk : (kind == 1) = false := by rw [beq_eq_false_iff_ne]; exact fun h => h3 (Or.inl h)
      have hk2 : (kind == 2) = false := by rw [beq_eq_false_iff_ne]; exact fun h => h3 (Or.inr h)
      go_enter Tryz.func12, Tryz.ntmps12
      go_wp2_with fail
      refine (HC.out _).mono ?_
      rintro e w1 ⟨rfl, hb1⟩
      have hc1 := hbx.trans (hb1.mono hbx.size)
      have hl1 := fun i => hb1.cell (p := ⟨w.heap.size, i, none⟩) (by simp)
      go_wp2_with fail
      cases sh
      all_goals
        refine (HS.out _).mono ?_
        rintro e w3 ⟨rfl, hb3⟩
        have hc3 := hc1.trans (hb3.mono hc1.size)
        go_wp2_with fail
        go_ret
        exact ⟨ret_int (by rw [HR.out]; rw [if_neg (fun h => h.elim (fun h => Bool.noConfusion h) (fun h => by omega))]; simp [h3]), hc3⟩

end Go.Proofs.YtlenpifjkbcmdaaGreatDoor