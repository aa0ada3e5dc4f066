/-
  Which item has a path, which one a node: the laws.
-/
import Derived.Test.YtfbdbjookkogjaaDoorViewF2
namespace Go.Proofs.YtfbdbjookkogjaaDoor
open Go Go.RowKit Go.Lib
set_option maxRecDepth 100000 in
set_option maxHeartbeats 3200000 in
theorem law_viewAt (a : Option Addr) (cap : Nat) (l : List Itm) (s : ByteArray) (w : World) (hl : l.length ≤ 140737488351232) (ha : RowsAt itmLay w a l) (_ : s.size ≤ 140737488351232) (hT : Tab w) :
    Calls Tryd.prog 4 #[.slice a l.length cap, .string s] w fun e w' => e = .returned (.bool true) ∧ Below w.heap.size w w' := by
  have HAW := Lib.hid fun W (h : Below w.heap.size w W) => awake11_any W (tab_keeps hT h)
  by_cases hlen : l.length ≤ 200
  · have HV := Lib.hid fun W (h : Below w.heap.size w W) => at_any a cap l s W (by omega) (ha.keeps h)
    have HR := Lib.hid fun W (h : Below w.heap.size w W) => rat_any a cap l s W (by omega) (ha.keeps h)
    generalize findI (isPath s) l = r at *
    obtain ⟨rx, rok⟩ := r
    dsimp only at HV HR
    unfold Itm.agg at HV HR
    have hB0 := Below.refl w.heap.size w
    clear ha hT
    go_enter Tryd.func4, Tryd.ntmps4
    go_wp2_with fail
    refine (HV.out _ hB0).mono ?_
    rintro e v1 ⟨rfl, hc1⟩
    have hD1 := hB0.trans (hc1.mono hB0.size)
    have hP1 := VarAt.new v1 #[.string rx.path, .int .i64 rx.cnt, .int .i64 rx.who, .bool rx.dir, .bool rx.ghost, .string rx.man] 34
    have hQ1 := hD1.alloc hD1.size (.cells #[.string rx.path, .int .i64 rx.cnt, .int .i64 rx.who, .bool rx.dir, .bool rx.ghost, .string rx.man] 34)
    obtain ⟨b1, hb1⟩ : ∃ b, b = v1.heap.size := ⟨_, rfl⟩
    rw [← hb1] at hP1
    obtain ⟨W1, hW1⟩ : ∃ W, W = v1.alloc (.cells #[.string rx.path, .int .i64 rx.cnt, .int .i64 rx.who, .bool rx.dir, .bool rx.ghost, .string rx.man] 34) := ⟨_, rfl⟩
    rw [← hW1] at hP1 hQ1
    have Hb1 := Lib.hid hb1
    have HW1 := Lib.hid hW1
    clear hb1 hW1 hc1 hD1
    have hX1 := hP1
    have hB1 := hQ1
    clear hP1 hQ1
    go_upto_region 4 with fail
    rw [← Hb1.out, ← HW1.out]
    go_wp2_with fail
    refine (HR.out _ hB1).mono ?_
    rintro e v2 ⟨rfl, hc2⟩
    have hD2 := hB1.trans (hc2.mono hB1.size)
    have hP2 := VarAt.new v2 #[.string rx.path, .int .i64 rx.cnt, .int .i64 rx.who, .bool rx.dir, .bool rx.ghost, .string rx.man] 34
    have hQ2 := hD2.alloc hD2.size (.cells #[.string rx.path, .int .i64 rx.cnt, .int .i64 rx.who, .bool rx.dir, .bool rx.ghost, .string rx.man] 34)
    have hX21 := (hX1.keeps hc2 hX1.1).keeps ((Below.refl v2.heap.size v2).alloc (Nat.le_refl _) (.cells #[.string rx.path, .int .i64 rx.cnt, .int .i64 rx.who, .bool rx.dir, .bool rx.ghost, .string rx.man] 34)) (hX1.keeps hc2 hX1.1).1
    obtain ⟨b2, hb2⟩ : ∃ b, b = v2.heap.size := ⟨_, rfl⟩
    rw [← hb2] at hP2
    obtain ⟨W2, hW2⟩ : ∃ W, W = v2.alloc (.cells #[.string rx.path, .int .i64 rx.cnt, .int .i64 rx.who, .bool rx.dir, .bool rx.ghost, .string rx.man] 34) := ⟨_, rfl⟩
    rw [← hW2] at hP2 hQ2 hX21
    have Hb2 := Lib.hid hb2
    have HW2 := Lib.hid hW2
    clear hb2 hW2 hc2 hD2 hX1
    have hX1 := hX21
    clear hX21
    have hX2 := hP2
    have hB2 := hQ2
    clear hP2 hQ2
    go_upto_region 5 with fail
    rw [← Hb2.out, ← HW2.out]
    have q10 := hX1.2.2 0 _ rfl
    have q11 := hX1.2.2 1 _ rfl
    have q12 := hX1.2.2 2 _ rfl
    have q13 := hX1.2.2 3 _ rfl
    have q14 := hX1.2.2 4 _ rfl
    have q15 := hX1.2.2 5 _ rfl
    have q20 := hX2.2.2 0 _ rfl
    have q21 := hX2.2.2 1 _ rfl
    have q22 := hX2.2.2 2 _ rfl
    have q23 := hX2.2.2 3 _ rfl
    have q24 := hX2.2.2 4 _ rfl
    have q25 := hX2.2.2 5 _ rfl
    have heq := eqlItm rx rx W2
    rw [show decide (rx = rx) = true from decide_eq_true rfl] at heq
    have hpp : decide (rok = rok) = true := decide_eq_true rfl
    clear HV HR
    go_wp2_with fail
    refine (HAW.out _ hB2).mono ?_
    rintro e w5 ⟨rfl, hb5⟩
    go_wp2_with fail
    go_ret
    exact ⟨rfl, hB2.trans (hb5.mono hB2.size)⟩
  · clear ha hT
    go_enter Tryd.func4, Tryd.ntmps4
    go_wp2_with fail
    refine (HAW.out _ (Below.refl _ _)).mono ?_
    rintro e w5 ⟨rfl, hb5⟩
    go_wp2_with fail
    go_ret
    exact ⟨rfl, hb5⟩
set_option maxRecDepth 100000 in
set_option maxHeartbeats 6400000 in
theorem law_viewFinds (a : Option Addr) (cap : Nat) (l : List Itm) (s : ByteArray) (c q : Int) (w : World) (hl : l.length ≤ 140737488351232) (ha : RowsAt itmLay w a l) (_ : s.size ≤ 140737488351232) (hT : Tab w) :
    Calls Tryd.prog 5 #[.slice a l.length cap, .string s, .agg #[.int .i64 c, .int .i64 q]] w fun e w' => e = .returned (.bool true) ∧ Below w.heap.size w w' := by
  have HAW := Lib.hid fun W (h : Below w.heap.size w W) => awake11_any W (tab_keeps hT h)
  have hB0 := (Below.refl w.heap.size w).alloc (Nat.le_refl _) (.cells #[.int .i64 c, .int .i64 q] 32)
  have hX0 := VarAt.new w #[.int .i64 c, .int .i64 q] 32
  by_cases hlen : l.length ≤ 200
  · have HV := Lib.hid fun W (h : Below w.heap.size w W) => at_any a cap l s W (by omega) (ha.keeps h)
    have HR := Lib.hid fun W (h : Below w.heap.size w W) => rat_any a cap l s W (by omega) (ha.keeps h)
    have HV2 := Lib.hid fun W (h : Below w.heap.size w W) => of_any a cap l c q W (by omega) (ha.keeps h)
    have HR2 := Lib.hid fun W (h : Below w.heap.size w W) => rof_any a cap l c q W (by omega) (ha.keeps h)
    generalize findI (isPath s) l = r at *
    generalize findI (isOf c q) l = r2 at *
    obtain ⟨rx, rok⟩ := r
    obtain ⟨sx, sok⟩ := r2
    dsimp only at HV HR HV2 HR2
    unfold Itm.agg at HV HR HV2 HR2
    obtain ⟨b0, hb0⟩ : ∃ b, b = w.heap.size := ⟨_, rfl⟩
    rw [← hb0] at hX0
    obtain ⟨W0, hW0⟩ : ∃ W, W = w.alloc (.cells #[.int .i64 c, .int .i64 q] 32) := ⟨_, rfl⟩
    rw [← hW0] at hX0 hB0
    have Hb0 := Lib.hid hb0
    have HW0 := Lib.hid hW0
    clear ha hT hb0 hW0
    go_enter Tryd.func5, Tryd.ntmps5
    go_upto_region 1 with fail
    rw [← Hb0.out, ← HW0.out]
    go_wp2_with fail
    refine (HV.out _ hB0).mono ?_
    rintro e v1 ⟨rfl, hc1⟩
    have hD1 := hB0.trans (hc1.mono hB0.size)
    have hP1 := VarAt.new v1 #[.string rx.path, .int .i64 rx.cnt, .int .i64 rx.who, .bool rx.dir, .bool rx.ghost, .string rx.man] 34
    have hQ1 := hD1.alloc hD1.size (.cells #[.string rx.path, .int .i64 rx.cnt, .int .i64 rx.who, .bool rx.dir, .bool rx.ghost, .string rx.man] 34)
    have hX10 := (hX0.keeps hc1 hX0.1).keeps ((Below.refl v1.heap.size v1).alloc (Nat.le_refl _) (.cells #[.string rx.path, .int .i64 rx.cnt, .int .i64 rx.who, .bool rx.dir, .bool rx.ghost, .string rx.man] 34)) (hX0.keeps hc1 hX0.1).1
    obtain ⟨b1, hb1⟩ : ∃ b, b = v1.heap.size := ⟨_, rfl⟩
    rw [← hb1] at hP1
    obtain ⟨W1, hW1⟩ : ∃ W, W = v1.alloc (.cells #[.string rx.path, .int .i64 rx.cnt, .int .i64 rx.who, .bool rx.dir, .bool rx.ghost, .string rx.man] 34) := ⟨_, rfl⟩
    rw [← hW1] at hP1 hQ1 hX10
    have Hb1 := Lib.hid hb1
    have HW1 := Lib.hid hW1
    clear hb1 hW1 hc1 hD1 hX0
    have hX0 := hX10
    clear hX10
    have hX1 := hP1
    have hB1 := hQ1
    clear hP1 hQ1
    go_upto_region 4 with fail
    rw [← Hb1.out, ← HW1.out]
    go_wp2_with fail
    refine (HR.out _ hB1).mono ?_
    rintro e v2 ⟨rfl, hc2⟩
    have hD2 := hB1.trans (hc2.mono hB1.size)
    have hP2 := VarAt.new v2 #[.string rx.path, .int .i64 rx.cnt, .int .i64 rx.who, .bool rx.dir, .bool rx.ghost, .string rx.man] 34
    have hQ2 := hD2.alloc hD2.size (.cells #[.string rx.path, .int .i64 rx.cnt, .int .i64 rx.who, .bool rx.dir, .bool rx.ghost, .string rx.man] 34)
    have hX20 := (hX0.keeps hc2 hX0.1).keeps ((Below.refl v2.heap.size v2).alloc (Nat.le_refl _) (.cells #[.string rx.path, .int .i64 rx.cnt, .int .i64 rx.who, .bool rx.dir, .bool rx.ghost, .string rx.man] 34)) (hX0.keeps hc2 hX0.1).1
    have hX21 := (hX1.keeps hc2 hX1.1).keeps ((Below.refl v2.heap.size v2).alloc (Nat.le_refl _) (.cells #[.string rx.path, .int .i64 rx.cnt, .int .i64 rx.who, .bool rx.dir, .bool rx.ghost, .string rx.man] 34)) (hX1.keeps hc2 hX1.1).1
    obtain ⟨b2, hb2⟩ : ∃ b, b = v2.heap.size := ⟨_, rfl⟩
    rw [← hb2] at hP2
    obtain ⟨W2, hW2⟩ : ∃ W, W = v2.alloc (.cells #[.string rx.path, .int .i64 rx.cnt, .int .i64 rx.who, .bool rx.dir, .bool rx.ghost, .string rx.man] 34) := ⟨_, rfl⟩
    rw [← hW2] at hP2 hQ2 hX20 hX21
    have Hb2 := Lib.hid hb2
    have HW2 := Lib.hid hW2
    clear hb2 hW2 hc2 hD2 hX0 hX1
    have hX0 := hX20
    clear hX20
    have hX1 := hX21
    clear hX21
    have hX2 := hP2
    have hB2 := hQ2
    clear hP2 hQ2
    go_upto_region 5 with fail
    rw [← Hb2.out, ← HW2.out]
    have st0 := hX0.2.2 0 _ rfl
    have st1 := hX0.2.2 1 _ rfl
    go_wp2_with fail
    clear st0 st1
    refine (HV2.out _ hB2).mono ?_
    rintro e v3 ⟨rfl, hc3⟩
    have hD3 := hB2.trans (hc3.mono hB2.size)
    have hP3 := VarAt.new v3 #[.string sx.path, .int .i64 sx.cnt, .int .i64 sx.who, .bool sx.dir, .bool sx.ghost, .string sx.man] 34
    have hQ3 := hD3.alloc hD3.size (.cells #[.string sx.path, .int .i64 sx.cnt, .int .i64 sx.who, .bool sx.dir, .bool sx.ghost, .string sx.man] 34)
    have hX30 := (hX0.keeps hc3 hX0.1).keeps ((Below.refl v3.heap.size v3).alloc (Nat.le_refl _) (.cells #[.string sx.path, .int .i64 sx.cnt, .int .i64 sx.who, .bool sx.dir, .bool sx.ghost, .string sx.man] 34)) (hX0.keeps hc3 hX0.1).1
    have hX31 := (hX1.keeps hc3 hX1.1).keeps ((Below.refl v3.heap.size v3).alloc (Nat.le_refl _) (.cells #[.string sx.path, .int .i64 sx.cnt, .int .i64 sx.who, .bool sx.dir, .bool sx.ghost, .string sx.man] 34)) (hX1.keeps hc3 hX1.1).1
    have hX32 := (hX2.keeps hc3 hX2.1).keeps ((Below.refl v3.heap.size v3).alloc (Nat.le_refl _) (.cells #[.string sx.path, .int .i64 sx.cnt, .int .i64 sx.who, .bool sx.dir, .bool sx.ghost, .string sx.man] 34)) (hX2.keeps hc3 hX2.1).1
    obtain ⟨b3, hb3⟩ : ∃ b, b = v3.heap.size := ⟨_, rfl⟩
    rw [← hb3] at hP3
    obtain ⟨W3, hW3⟩ : ∃ W, W = v3.alloc (.cells #[.string sx.path, .int .i64 sx.cnt, .int .i64 sx.who, .bool sx.dir, .bool sx.ghost, .string sx.man] 34) := ⟨_, rfl⟩
    rw [← hW3] at hP3 hQ3 hX30 hX31 hX32
    have Hb3 := Lib.hid hb3
    have HW3 := Lib.hid hW3
    clear hb3 hW3 hc3 hD3 hX0 hX1 hX2
    have hX0 := hX30
    clear hX30
    have hX1 := hX31
    clear hX31
    have hX2 := hX32
    clear hX32
    have hX3 := hP3
    have hB3 := hQ3
    clear hP3 hQ3
    go_upto_region 6 with fail
    rw [← Hb3.out, ← HW3.out]
    have st0 := hX0.2.2 0 _ rfl
    have st1 := hX0.2.2 1 _ rfl
    go_wp2_with fail
    clear st0 st1
    refine (HR2.out _ hB3).mono ?_
    rintro e v4 ⟨rfl, hc4⟩
    have hD4 := hB3.trans (hc4.mono hB3.size)
    have hP4 := VarAt.new v4 #[.string sx.path, .int .i64 sx.cnt, .int .i64 sx.who, .bool sx.dir, .bool sx.ghost, .string sx.man] 34
    have hQ4 := hD4.alloc hD4.size (.cells #[.string sx.path, .int .i64 sx.cnt, .int .i64 sx.who, .bool sx.dir, .bool sx.ghost, .string sx.man] 34)
    have hX40 := (hX0.keeps hc4 hX0.1).keeps ((Below.refl v4.heap.size v4).alloc (Nat.le_refl _) (.cells #[.string sx.path, .int .i64 sx.cnt, .int .i64 sx.who, .bool sx.dir, .bool sx.ghost, .string sx.man] 34)) (hX0.keeps hc4 hX0.1).1
    have hX41 := (hX1.keeps hc4 hX1.1).keeps ((Below.refl v4.heap.size v4).alloc (Nat.le_refl _) (.cells #[.string sx.path, .int .i64 sx.cnt, .int .i64 sx.who, .bool sx.dir, .bool sx.ghost, .string sx.man] 34)) (hX1.keeps hc4 hX1.1).1
    have hX42 := (hX2.keeps hc4 hX2.1).keeps ((Below.refl v4.heap.size v4).alloc (Nat.le_refl _) (.cells #[.string sx.path, .int .i64 sx.cnt, .int .i64 sx.who, .bool sx.dir, .bool sx.ghost, .string sx.man] 34)) (hX2.keeps hc4 hX2.1).1
    have hX43 := (hX3.keeps hc4 hX3.1).keeps ((Below.refl v4.heap.size v4).alloc (Nat.le_refl _) (.cells #[.string sx.path, .int .i64 sx.cnt, .int .i64 sx.who, .bool sx.dir, .bool sx.ghost, .string sx.man] 34)) (hX3.keeps hc4 hX3.1).1
    obtain ⟨b4, hb4⟩ : ∃ b, b = v4.heap.size := ⟨_, rfl⟩
    rw [← hb4] at hP4
    obtain ⟨W4, hW4⟩ : ∃ W, W = v4.alloc (.cells #[.string sx.path, .int .i64 sx.cnt, .int .i64 sx.who, .bool sx.dir, .bool sx.ghost, .string sx.man] 34) := ⟨_, rfl⟩
    rw [← hW4] at hP4 hQ4 hX40 hX41 hX42 hX43
    have Hb4 := Lib.hid hb4
    have HW4 := Lib.hid hW4
    clear hb4 hW4 hc4 hD4 hX0 hX1 hX2 hX3
    have hX0 := hX40
    clear hX40
    have hX1 := hX41
    clear hX41
    have hX2 := hX42
    clear hX42
    have hX3 := hX43
    clear hX43
    have hX4 := hP4
    have hB4 := hQ4
    clear hP4 hQ4
    go_upto_region 7 with fail
    rw [← Hb4.out, ← HW4.out]
    have q10 := hX1.2.2 0 _ rfl
    have q11 := hX1.2.2 1 _ rfl
    have q12 := hX1.2.2 2 _ rfl
    have q13 := hX1.2.2 3 _ rfl
    have q14 := hX1.2.2 4 _ rfl
    have q15 := hX1.2.2 5 _ rfl
    have q20 := hX2.2.2 0 _ rfl
    have q21 := hX2.2.2 1 _ rfl
    have q22 := hX2.2.2 2 _ rfl
    have q23 := hX2.2.2 3 _ rfl
    have q24 := hX2.2.2 4 _ rfl
    have q25 := hX2.2.2 5 _ rfl
    have q30 := hX3.2.2 0 _ rfl
    have q31 := hX3.2.2 1 _ rfl
    have q32 := hX3.2.2 2 _ rfl
    have q33 := hX3.2.2 3 _ rfl
    have q34 := hX3.2.2 4 _ rfl
    have q35 := hX3.2.2 5 _ rfl
    have q40 := hX4.2.2 0 _ rfl
    have q41 := hX4.2.2 1 _ rfl
    have q42 := hX4.2.2 2 _ rfl
    have q43 := hX4.2.2 3 _ rfl
    have q44 := hX4.2.2 4 _ rfl
    have q45 := hX4.2.2 5 _ rfl
    have heq := eqlItm rx rx W4
    rw [show decide (rx = rx) = true from decide_eq_true rfl] at heq
    have heq2 := eqlItm sx sx W4
    rw [show decide (sx = sx) = true from decide_eq_true rfl] at heq2
    clear HV HR HV2 HR2
    go_wp2_with fail
    refine (HAW.out _ hB4).mono ?_
    rintro e w5 ⟨rfl, hb5⟩
    go_wp2_with fail
    go_ret
    exact ⟨rfl, hB4.trans (hb5.mono hB4.size)⟩
  · clear ha hT hX0
    go_enter Tryd.func5, Tryd.ntmps5
    go_wp2_with fail
    refine (HAW.out _ hB0).mono ?_
    rintro e w5 ⟨rfl, hb5⟩
    go_wp2_with fail
    go_ret
    exact ⟨rfl, hB0.trans (hb5.mono hB0.size)⟩
end Go.Proofs.YtfbdbjookkogjaaDoor
