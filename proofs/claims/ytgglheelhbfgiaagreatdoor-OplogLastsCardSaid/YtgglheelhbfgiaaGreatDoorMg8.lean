/-
  How many operations of each device there are, and which are above a vector: the plain law.
-/
import Derived.Test.YtgglheelhbfgiaaGreatDoorMg7
import Derived.Test.YtgglheelhbfgiaaGreatDoorMg6
import Derived.Test.YtgglheelhbfgiaaGreatDoorMg4
namespace Go.Proofs.YtgglheelhbfgiaaGreatDoor
open Go Go.RowKit Go.Lib

theorem decO_eq {l : List UInt8} {a1 a2 a3 a4 a5 a6 a7 a8 a9 : Int} {s1 s2 : List UInt8} {r1 r2 r3 r4 r5 r6 r7 r8 r9 r10 r11 : Rd} (h1 : Rd.num ⟨0, l⟩ = (a1, r1)) (h2 : r1.num = (a2, r2)) (h3 : r2.num = (a3, r3)) (h4 : r3.num = (a4, r4)) (h5 : r4.num = (a5, r5)) (h6 : r5.num = (a6, r6)) (h7 : r6.num = (a7, r7)) (h8 : r7.num = (a8, r8)) (h9 : r8.num = (a9, r9)) (h10 : r9.text = (s1, r10)) (h11 : r10.text = (s2, r11)) :
    readO l = ⟨a1, a2, a3, a4, a5, a6, a7 == 1, a8, a9, ⟨s1.toArray⟩, ⟨s2.toArray⟩⟩ ∧ dirN l = a7 ∧ finO l = r11.fin := by
  have e1 : rdN ⟨0, l⟩ 1 = r1 := by show (Rd.num ⟨0, l⟩).2 = r1; rw [h1]
  have e2 : rdN ⟨0, l⟩ 2 = r2 := by show (rdN ⟨0, l⟩ 1).num.2 = r2; rw [e1, h2]
  have e3 : rdN ⟨0, l⟩ 3 = r3 := by show (rdN ⟨0, l⟩ 2).num.2 = r3; rw [e2, h3]
  have e4 : rdN ⟨0, l⟩ 4 = r4 := by show (rdN ⟨0, l⟩ 3).num.2 = r4; rw [e3, h4]
  have e5 : rdN ⟨0, l⟩ 5 = r5 := by show (rdN ⟨0, l⟩ 4).num.2 = r5; rw [e4, h5]
  have e6 : rdN ⟨0, l⟩ 6 = r6 := by show (rdN ⟨0, l⟩ 5).num.2 = r6; rw [e5, h6]
  have e7 : rdN ⟨0, l⟩ 7 = r7 := by show (rdN ⟨0, l⟩ 6).num.2 = r7; rw [e6, h7]
  have e8 : rdN ⟨0, l⟩ 8 = r8 := by show (rdN ⟨0, l⟩ 7).num.2 = r8; rw [e7, h8]
  have e9 : rdN ⟨0, l⟩ 9 = r9 := by show (rdN ⟨0, l⟩ 8).num.2 = r9; rw [e8, h9]
  have e0 : rdN ⟨0, l⟩ 0 = ⟨0, l⟩ := rfl
  have d : dirN l = a7 := by unfold dirN; rw [e6, h7]
  refine ⟨?_, d, ?_⟩
  · unfold readO
    rw [e0, e1, e2, e3, e4, e5, e7, e8, e9, h1, h2, h3, h4, h5, h6, h8, h9, h10, d]
    dsimp only
    rw [h11]
  · unfold finO
    rw [e9, h10]
    dsimp only
    rw [h11]
theorem pair_of {α β : Type} (p : α × β) : ∃ a b, p = (a, b) := ⟨p.1, p.2, rfl⟩
theorem Num_at {b : Nat} {r r' : Rd} {a : Int} (w : World) (hp : r.num = (a, r')) (h : RdAt w b r) :
    Calls Tryz.prog 118 #[.pointer (some ⟨b, 0, none⟩)] w fun e w' => e = .returned (.int .i64 a) ∧ RdAt w' b r' ∧ w.grownBy w' (some b) := by
  have := Num_any b r w h
  rw [hp] at this
  exact this
theorem Text_at {b : Nat} {r r' : Rd} {s : List UInt8} (w : World) (hp : r.text = (s, r')) (h : RdAt w b r) :
    Calls Tryz.prog 119 #[.pointer (some ⟨b, 0, none⟩)] w fun e w' => e = .returned (.string ⟨s.toArray⟩) ∧ RdAt w' b r' ∧ w.grownBy w' (some b) := by
  have := Text_any b r w h
  rw [hp] at this
  exact this
theorem stamp_at {b : Nat} {r r' r'' : Rd} {a a' : Int} (w : World) (hp : r.num = (a, r')) (hp' : r'.num = (a', r'')) (h : RdAt w b r) :
    Calls Tryz.prog 136 #[.pointer (some ⟨b, 0, none⟩)] w fun e w' => e = .returned (.agg #[.int .i64 a, .int .i64 a']) ∧ RdAt w' b r'' ∧ w.grownBy w' (some b) := by
  have := stamp_any b r w h
  rw [hp] at this
  dsimp only at this
  rw [hp'] at this
  exact this
theorem rNum_at {b : Nat} {r r' : Rd} {a : Int} (w : World) (hp : r.num = (a, r')) (h : RrAt w b r) :
    Calls Tryz.prog 96 #[.pointer (some ⟨b, 0, none⟩)] w fun e w' => e = .returned (.int .i64 a) ∧ RrAt w' b r' ∧ w.grownBy w' (some b) := by
  have := rNum_any b r w h
  rw [hp] at this
  exact this
theorem rText_at {b : Nat} {r r' : Rd} {s : List UInt8} (w : World) (hp : r.text = (s, r')) (h : RrAt w b r) :
    Calls Tryz.prog 97 #[.pointer (some ⟨b, 0, none⟩)] w fun e w' => e = .returned (.string ⟨s.toArray⟩) ∧ RrAt w' b r' ∧ w.grownBy w' (some b) := by
  have := rText_any b r w h
  rw [hp] at this
  exact this


set_option maxRecDepth 100000 in
set_option maxHeartbeats 12800000 in
theorem decode_any (d : ByteArray) (w : World) (hd : d.size ≤ 100000) :
    Calls Tryz.prog 106 #[.string d] w fun e w' => e = .returned (.tuple #[.agg #[.int .i64 (decO d.data.toList).1.cnt, .int .i64 (decO d.data.toList).1.who, .int .i64 (decO d.data.toList).1.seq, .int .i64 (decO d.data.toList).1.kind, .int .i64 (decO d.data.toList).1.nc, .int .i64 (decO d.data.toList).1.nw, .bool (decO d.data.toList).1.dir, .int .i64 (decO d.data.toList).1.pc, .int .i64 (decO d.data.toList).1.pw, .string (decO d.data.toList).1.name, .string (decO d.data.toList).1.man], .int .i64 (decO d.data.toList).2]) ∧ Below w.heap.size w w' := by
  have hnm := readO_name d.data.toList
  have hmn := readO_man d.data.toList
  rw [← size_eq] at hnm hmn
  obtain ⟨a1, r1, hp1⟩ := pair_of (Rd.num ⟨0, d.data.toList⟩)
  obtain ⟨a2, r2, hp2⟩ := pair_of (Rd.num r1)
  obtain ⟨a3, r3, hp3⟩ := pair_of (Rd.num r2)
  obtain ⟨a4, r4, hp4⟩ := pair_of (Rd.num r3)
  obtain ⟨a5, r5, hp5⟩ := pair_of (Rd.num r4)
  obtain ⟨a6, r6, hp6⟩ := pair_of (Rd.num r5)
  obtain ⟨a7, r7, hp7⟩ := pair_of (Rd.num r6)
  obtain ⟨a8, r8, hp8⟩ := pair_of (Rd.num r7)
  obtain ⟨a9, r9, hp9⟩ := pair_of (Rd.num r8)
  obtain ⟨s1, r10, hp10⟩ := pair_of r9.text
  obtain ⟨s2, r11, hp11⟩ := pair_of r10.text
  obtain ⟨hRO, hDN, hFO⟩ := decO_eq hp1 hp2 hp3 hp4 hp5 hp6 hp7 hp8 hp9 hp10 hp11
  rw [hRO] at hnm hmn
  dsimp only at hnm hmn
  have hDO : decO d.data.toList = if r11.fin ≠ 0 then (noOpr, r11.fin) else if a7 < 0 ∨ 1 < a7 ∨ rightO ⟨a1, a2, a3, a4, a5, a6, a7 == 1, a8, a9, ⟨s1.toArray⟩, ⟨s2.toArray⟩⟩ ≠ 0 then (noOpr, 11) else (⟨a1, a2, a3, a4, a5, a6, a7 == 1, a8, a9, ⟨s1.toArray⟩, ⟨s2.toArray⟩⟩, 0) := by
    unfold decO
    rw [hRO, hDN, hFO]
  clear hRO hDN hFO
  have Hp1 := Lib.hid hp1
  have Hp2 := Lib.hid hp2
  have Hp3 := Lib.hid hp3
  have Hp4 := Lib.hid hp4
  have Hp5 := Lib.hid hp5
  have Hp6 := Lib.hid hp6
  have Hp7 := Lib.hid hp7
  have Hp8 := Lib.hid hp8
  have Hp9 := Lib.hid hp9
  have Hp10 := Lib.hid hp10
  have Hp11 := Lib.hid hp11
  clear hp1 hp2 hp3 hp4 hp5 hp6 hp7 hp8 hp9 hp10 hp11
  have HRT := Lib.hid fun W => oright_any ⟨a1, a2, a3, a4, a5, a6, a7 == 1, a8, a9, ⟨s1.toArray⟩, ⟨s2.toArray⟩⟩ W (Nat.le_trans hnm hd) (Nat.le_trans hmn hd)
  dsimp only at HRT
  generalize rightO ⟨a1, a2, a3, a4, a5, a6, a7 == 1, a8, a9, ⟨s1.toArray⟩, ⟨s2.toArray⟩⟩ = ro at *
  generalize decO d.data.toList = dd at *
  have HD := Lib.hid hDO
  clear hDO hnm hmn
  generalize hS1 : (⟨s1.toArray⟩ : ByteArray) = S1 at *
  generalize hS2 : (⟨s2.toArray⟩ : ByteArray) = S2 at *
  generalize hdir : (a7 == 1) = dr at *
  have hB0 : Below w.heap.size w (w.alloc (.cells #[.int .i64 0, .int .i64 0, .int .i64 0, .int .i64 0, .int .i64 0, .int .i64 0, .bool false, .int .i64 0, .int .i64 0, .string ⟨#[]⟩, .string ⟨#[]⟩] 66)) := (Below.refl _ _).alloc (Nat.le_refl _) _
  have hR0 := VarAt.new w #[.int .i64 0, .int .i64 0, .int .i64 0, .int .i64 0, .int .i64 0, .int .i64 0, .bool false, .int .i64 0, .int .i64 0, .string ⟨#[]⟩, .string ⟨#[]⟩] 66
  have HRD := Lib.hid (show Calls Tryz.prog 117 #[.string d] (w.alloc (.cells #[.int .i64 0, .int .i64 0, .int .i64 0, .int .i64 0, .int .i64 0, .int .i64 0, .bool false, .int .i64 0, .int .i64 0, .string ⟨#[]⟩, .string ⟨#[]⟩] 66)) fun e w' => e = .returned (.pointer (some ⟨w.heap.size + 1, 0, none⟩)) ∧ RdAt w' (w.heap.size + 1) ⟨0, d.data.toList⟩ ∧ Below (w.heap.size + 1) (w.alloc (.cells #[.int .i64 0, .int .i64 0, .int .i64 0, .int .i64 0, .int .i64 0, .int .i64 0, .bool false, .int .i64 0, .int .i64 0, .string ⟨#[]⟩, .string ⟨#[]⟩] 66)) w' by
    have := Read_any d (w.alloc (.cells #[.int .i64 0, .int .i64 0, .int .i64 0, .int .i64 0, .int .i64 0, .int .i64 0, .bool false, .int .i64 0, .int .i64 0, .string ⟨#[]⟩, .string ⟨#[]⟩] 66)) (by omega)
    simpa using this)
  go_enter Tryz.func106, Tryz.ntmps106
  go_wp2_with fail
  refine HRD.out.mono ?_
  rintro e w1 ⟨rfl, hr1, hb1⟩
  have hB1 := hB0.trans (hb1.mono (Nat.le_succ _))
  have hR1 := hR0.keeps hb1 (Nat.lt_succ_self _)
  have hlt1 := hr1.lt
  have hr2 := hr1.keeps ((Below.refl _ _).alloc (Nat.le_refl _) (.cells #[.int .i64 0, .int .i64 0, .int .i64 0, .int .i64 0, .int .i64 0, .int .i64 0, .bool false, .int .i64 0, .int .i64 0, .string ⟨#[]⟩, .string ⟨#[]⟩] 66)) hlt1
  have hR2 := hR1.keeps ((Below.refl _ _).alloc (Nat.le_refl _) (.cells #[.int .i64 0, .int .i64 0, .int .i64 0, .int .i64 0, .int .i64 0, .int .i64 0, .bool false, .int .i64 0, .int .i64 0, .string ⟨#[]⟩, .string ⟨#[]⟩] 66)) (by omega)
  have hX2 := VarAt.new w1 #[.int .i64 0, .int .i64 0, .int .i64 0, .int .i64 0, .int .i64 0, .int .i64 0, .bool false, .int .i64 0, .int .i64 0, .string ⟨#[]⟩, .string ⟨#[]⟩] 66
  have hB2 := hB1.alloc hB1.size (.cells #[.int .i64 0, .int .i64 0, .int .i64 0, .int .i64 0, .int .i64 0, .int .i64 0, .bool false, .int .i64 0, .int .i64 0, .string ⟨#[]⟩, .string ⟨#[]⟩] 66)
  have hS2' : w1.heap.size < (w1.alloc (.cells #[.int .i64 0, .int .i64 0, .int .i64 0, .int .i64 0, .int .i64 0, .int .i64 0, .bool false, .int .i64 0, .int .i64 0, .string ⟨#[]⟩, .string ⟨#[]⟩] 66)).heap.size := by simp
  obtain ⟨xb, hxb⟩ : ∃ xb, xb = w1.heap.size := ⟨_, rfl⟩
  rw [← hxb] at hX2 hlt1 hS2'
  go_wp2_with fail
  rw [← hxb]
  generalize w1.alloc (.cells #[.int .i64 0, .int .i64 0, .int .i64 0, .int .i64 0, .int .i64 0, .int .i64 0, .bool false, .int .i64 0, .int .i64 0, .string ⟨#[]⟩, .string ⟨#[]⟩] 66) = v1 at *
  have hr := hr2
  have hX : VarAt v1 xb [.int .i64 0, .int .i64 0, .int .i64 0, .int .i64 0, .int .i64 0, .int .i64 0, .bool false, .int .i64 0, .int .i64 0, .string ⟨#[]⟩, .string ⟨#[]⟩] := hX2
  have hR : VarAt v1 w.heap.size [.int .i64 0, .int .i64 0, .int .i64 0, .int .i64 0, .int .i64 0, .int .i64 0, .bool false, .int .i64 0, .int .i64 0, .string ⟨#[]⟩, .string ⟨#[]⟩] := hR2
  have hB := hB2
  clear hB0 hR0 hr2 hX2 hR2 hB2
  clear hxb
  refine (stamp_at _ Hp1.out Hp2.out hr).mono ?_
  rintro e w2 ⟨rfl, hr2, hg⟩
  replace hX := hX.grown hg (by first | (simp; done) | (simp; omega))
  replace hR := hR.grown hg (by first | (simp; done) | (simp; omega))
  replace hB := hB.grown hg hB.size (fun j ej => by cases ej; omega)
  clear hr
  have hr := hr2
  clear hr2 hg
  have hfz := hX.2.1
  have e0 := hX.2.2 0 _ rfl
  have e1 := hX.2.2 1 _ rfl
  go_wp2_with fail
  clear hfz e0 e1
  replace hX := hX.set 0 (.int .i64 a1) (by simp)
  replace hR := hR.other (k := xb) (i := 0) (.int .i64 a1) (by omega)
  replace hr := hr.other (k := xb) (i := 0) (.int .i64 a1) (by omega)
  replace hB := hB.setCell (p := ⟨xb, 0, none⟩) (show w.heap.size ≤ xb by omega) (.int .i64 a1)
  replace hX := hX.set 1 (.int .i64 a2) (by simp)
  replace hR := hR.other (k := xb) (i := 1) (.int .i64 a2) (by omega)
  replace hr := hr.other (k := xb) (i := 1) (.int .i64 a2) (by omega)
  replace hB := hB.setCell (p := ⟨xb, 1, none⟩) (show w.heap.size ≤ xb by omega) (.int .i64 a2)
  dsimp only [List.set] at hX
  refine (Num_at _ Hp3.out hr).mono ?_
  rintro e w3 ⟨rfl, hr3, hg⟩
  replace hX := hX.grown hg (by first | (simp; done) | (simp; omega))
  replace hR := hR.grown hg (by first | (simp; done) | (simp; omega))
  replace hB := hB.grown hg hB.size (fun j ej => by cases ej; omega)
  clear hr
  have hr := hr3
  clear hr3 hg
  have hfz := hX.2.1
  have e0 := hX.2.2 2 _ rfl
  go_wp2_with fail
  clear hfz e0
  replace hX := hX.set 2 (.int .i64 a3) (by simp)
  replace hR := hR.other (k := xb) (i := 2) (.int .i64 a3) (by omega)
  replace hr := hr.other (k := xb) (i := 2) (.int .i64 a3) (by omega)
  replace hB := hB.setCell (p := ⟨xb, 2, none⟩) (show w.heap.size ≤ xb by omega) (.int .i64 a3)
  dsimp only [List.set] at hX
  refine (Num_at _ Hp4.out hr).mono ?_
  rintro e w4 ⟨rfl, hr4, hg⟩
  replace hX := hX.grown hg (by first | (simp; done) | (simp; omega))
  replace hR := hR.grown hg (by first | (simp; done) | (simp; omega))
  replace hB := hB.grown hg hB.size (fun j ej => by cases ej; omega)
  clear hr
  have hr := hr4
  clear hr4 hg
  have hfz := hX.2.1
  have e0 := hX.2.2 3 _ rfl
  go_wp2_with fail
  clear hfz e0
  replace hX := hX.set 3 (.int .i64 a4) (by simp)
  replace hR := hR.other (k := xb) (i := 3) (.int .i64 a4) (by omega)
  replace hr := hr.other (k := xb) (i := 3) (.int .i64 a4) (by omega)
  replace hB := hB.setCell (p := ⟨xb, 3, none⟩) (show w.heap.size ≤ xb by omega) (.int .i64 a4)
  dsimp only [List.set] at hX
  refine (stamp_at _ Hp5.out Hp6.out hr).mono ?_
  rintro e w5 ⟨rfl, hr5, hg⟩
  replace hX := hX.grown hg (by first | (simp; done) | (simp; omega))
  replace hR := hR.grown hg (by first | (simp; done) | (simp; omega))
  replace hB := hB.grown hg hB.size (fun j ej => by cases ej; omega)
  clear hr
  have hr := hr5
  clear hr5 hg
  have hfz := hX.2.1
  have e0 := hX.2.2 4 _ rfl
  have e1 := hX.2.2 5 _ rfl
  go_wp2_with fail
  clear hfz e0 e1
  replace hX := hX.set 4 (.int .i64 a5) (by simp)
  replace hR := hR.other (k := xb) (i := 4) (.int .i64 a5) (by omega)
  replace hr := hr.other (k := xb) (i := 4) (.int .i64 a5) (by omega)
  replace hB := hB.setCell (p := ⟨xb, 4, none⟩) (show w.heap.size ≤ xb by omega) (.int .i64 a5)
  replace hX := hX.set 5 (.int .i64 a6) (by simp)
  replace hR := hR.other (k := xb) (i := 5) (.int .i64 a6) (by omega)
  replace hr := hr.other (k := xb) (i := 5) (.int .i64 a6) (by omega)
  replace hB := hB.setCell (p := ⟨xb, 5, none⟩) (show w.heap.size ≤ xb by omega) (.int .i64 a6)
  dsimp only [List.set] at hX
  refine (Num_at _ Hp7.out hr).mono ?_
  rintro e w6 ⟨rfl, hr6, hg⟩
  replace hX := hX.grown hg (by first | (simp; done) | (simp; omega))
  replace hR := hR.grown hg (by first | (simp; done) | (simp; omega))
  replace hB := hB.grown hg hB.size (fun j ej => by cases ej; omega)
  clear hr
  have hr := hr6
  clear hr6 hg
  go_wp2_with fail
  refine (stamp_at _ Hp8.out Hp9.out hr).mono ?_
  rintro e w7 ⟨rfl, hr7, hg⟩
  replace hX := hX.grown hg (by first | (simp; done) | (simp; omega))
  replace hR := hR.grown hg (by first | (simp; done) | (simp; omega))
  replace hB := hB.grown hg hB.size (fun j ej => by cases ej; omega)
  clear hr
  have hr := hr7
  clear hr7 hg
  have hfz := hX.2.1
  have e0 := hX.2.2 7 _ rfl
  have e1 := hX.2.2 8 _ rfl
  go_wp2_with fail
  clear hfz e0 e1
  replace hX := hX.set 7 (.int .i64 a8) (by simp)
  replace hR := hR.other (k := xb) (i := 7) (.int .i64 a8) (by omega)
  replace hr := hr.other (k := xb) (i := 7) (.int .i64 a8) (by omega)
  replace hB := hB.setCell (p := ⟨xb, 7, none⟩) (show w.heap.size ≤ xb by omega) (.int .i64 a8)
  replace hX := hX.set 8 (.int .i64 a9) (by simp)
  replace hR := hR.other (k := xb) (i := 8) (.int .i64 a9) (by omega)
  replace hr := hr.other (k := xb) (i := 8) (.int .i64 a9) (by omega)
  replace hB := hB.setCell (p := ⟨xb, 8, none⟩) (show w.heap.size ≤ xb by omega) (.int .i64 a9)
  dsimp only [List.set] at hX
  refine (Text_at _ Hp10.out hr).mono ?_
  rintro e w8 ⟨rfl, hr8, hg⟩
  replace hX := hX.grown hg (by first | (simp; done) | (simp; omega))
  replace hR := hR.grown hg (by first | (simp; done) | (simp; omega))
  replace hB := hB.grown hg hB.size (fun j ej => by cases ej; omega)
  clear hr
  have hr := hr8
  clear hr8 hg
  rw [hS1]
  have hfz := hX.2.1
  have e0 := hX.2.2 9 _ rfl
  go_wp2_with fail
  clear hfz e0
  replace hX := hX.set 9 (.string S1) (by simp)
  replace hR := hR.other (k := xb) (i := 9) (.string S1) (by omega)
  replace hr := hr.other (k := xb) (i := 9) (.string S1) (by omega)
  replace hB := hB.setCell (p := ⟨xb, 9, none⟩) (show w.heap.size ≤ xb by omega) (.string S1)
  dsimp only [List.set] at hX
  refine (Text_at _ Hp11.out hr).mono ?_
  rintro e w9 ⟨rfl, hr9, hg⟩
  replace hX := hX.grown hg (by first | (simp; done) | (simp; omega))
  replace hR := hR.grown hg (by first | (simp; done) | (simp; omega))
  replace hB := hB.grown hg hB.size (fun j ej => by cases ej; omega)
  clear hr
  have hr := hr9
  clear hr9 hg
  rw [hS2]
  have hfz := hX.2.1
  have e0 := hX.2.2 10 _ rfl
  go_wp2_with fail
  clear hfz e0
  replace hX := hX.set 10 (.string S2) (by simp)
  replace hR := hR.other (k := xb) (i := 10) (.string S2) (by omega)
  replace hr := hr.other (k := xb) (i := 10) (.string S2) (by omega)
  replace hB := hB.setCell (p := ⟨xb, 10, none⟩) (show w.heap.size ≤ xb by omega) (.string S2)
  dsimp only [List.set] at hX
  refine (End_any _ _ _ hr).mono ?_
  rintro e we ⟨rfl, ne, rfl⟩
  replace hX := hX.drew ne
  replace hR := hR.drew ne
  replace hB := belowDrew hB ne
  clear hr
  generalize r11.fin = fi at *
  by_cases hfi : fi = 0
  · subst hfi
    have HD2 := HD.out.trans (if_neg (fun h => h rfl))
    have e1b : ((0 : Int) != 0) = false := rfl
    have hX0 := hX
    have hR0 := hR
    have hB0 := hB
    replace hX := hX.set 6 (.bool dr) (by simp)
    replace hR := hR.other (k := xb) (i := 6) (.bool dr) (by omega)
    replace hB := hB.setCell (p := ⟨xb, 6, none⟩) (show w.heap.size ≤ xb by omega) (.bool dr)
    dsimp only [List.set] at hX
    have hfx := hX0.2.1
    have ex := hX0.2.2 6 _ rfl
    clear hX0 hR0 hB0
    have hne : xb ≠ w.heap.size := by omega
    by_cases hneg : a7 < 0
    · have e2b : decide (a7 < 0) = true := by simpa using hneg
      have hfz := hR.2.1
      have e0 := hR.2.2 0 _ rfl
      have e1 := hR.2.2 1 _ rfl
      have e2 := hR.2.2 2 _ rfl
      have e3 := hR.2.2 3 _ rfl
      have e4 := hR.2.2 4 _ rfl
      have e5 := hR.2.2 5 _ rfl
      have e6 := hR.2.2 6 _ rfl
      have e7 := hR.2.2 7 _ rfl
      have e8 := hR.2.2 8 _ rfl
      have e9 := hR.2.2 9 _ rfl
      have e10 := hR.2.2 10 _ rfl
      go_wp2_with fail
      clear hfz e0 e1 e2 e3 e4 e5 e6 e7 e8 e9 e10
      replace hR := hR.set 0 (.int .i64 0) (by simp)
      replace hB := hB.setCell (p := ⟨w.heap.size, 0, none⟩) (Nat.le_refl _) (.int .i64 0)
      replace hR := hR.set 1 (.int .i64 0) (by simp)
      replace hB := hB.setCell (p := ⟨w.heap.size, 1, none⟩) (Nat.le_refl _) (.int .i64 0)
      replace hR := hR.set 2 (.int .i64 0) (by simp)
      replace hB := hB.setCell (p := ⟨w.heap.size, 2, none⟩) (Nat.le_refl _) (.int .i64 0)
      replace hR := hR.set 3 (.int .i64 0) (by simp)
      replace hB := hB.setCell (p := ⟨w.heap.size, 3, none⟩) (Nat.le_refl _) (.int .i64 0)
      replace hR := hR.set 4 (.int .i64 0) (by simp)
      replace hB := hB.setCell (p := ⟨w.heap.size, 4, none⟩) (Nat.le_refl _) (.int .i64 0)
      replace hR := hR.set 5 (.int .i64 0) (by simp)
      replace hB := hB.setCell (p := ⟨w.heap.size, 5, none⟩) (Nat.le_refl _) (.int .i64 0)
      replace hR := hR.set 6 (.bool false) (by simp)
      replace hB := hB.setCell (p := ⟨w.heap.size, 6, none⟩) (Nat.le_refl _) (.bool false)
      replace hR := hR.set 7 (.int .i64 0) (by simp)
      replace hB := hB.setCell (p := ⟨w.heap.size, 7, none⟩) (Nat.le_refl _) (.int .i64 0)
      replace hR := hR.set 8 (.int .i64 0) (by simp)
      replace hB := hB.setCell (p := ⟨w.heap.size, 8, none⟩) (Nat.le_refl _) (.int .i64 0)
      replace hR := hR.set 9 (.string ⟨#[]⟩) (by simp)
      replace hB := hB.setCell (p := ⟨w.heap.size, 9, none⟩) (Nat.le_refl _) (.string ⟨#[]⟩)
      replace hR := hR.set 10 (.string ⟨#[]⟩) (by simp)
      replace hB := hB.setCell (p := ⟨w.heap.size, 10, none⟩) (Nat.le_refl _) (.string ⟨#[]⟩)
      dsimp only [List.set] at hR
      have e0 := hR.2.2 0 _ rfl
      have e1 := hR.2.2 1 _ rfl
      have e2 := hR.2.2 2 _ rfl
      have e3 := hR.2.2 3 _ rfl
      have e4 := hR.2.2 4 _ rfl
      have e5 := hR.2.2 5 _ rfl
      have e6 := hR.2.2 6 _ rfl
      have e7 := hR.2.2 7 _ rfl
      have e8 := hR.2.2 8 _ rfl
      have e9 := hR.2.2 9 _ rfl
      have e10 := hR.2.2 10 _ rfl
      refine bodyPost_ret (v := .tuple #[.agg #[.int .i64 0, .int .i64 0, .int .i64 0, .int .i64 0, .int .i64 0, .int .i64 0, .bool false, .int .i64 0, .int .i64 0, .string ⟨#[]⟩, .string ⟨#[]⟩], .int .i64 11]) (by simp [results, Tryz.results106, go_sem, e0, e1, e2, e3, e4, e5, e6, e7, e8, e9, e10]) rfl ⟨by rw [show dd = _ from HD2.trans (if_pos (.inl (by omega)))]; try rfl, hB⟩
    by_cases hbig : 1 < a7
    · have e2b : decide (a7 < 0) = false := by simpa using hneg
      have hfz := hR.2.1
      have e0 := hR.2.2 0 _ rfl
      have e1 := hR.2.2 1 _ rfl
      have e2 := hR.2.2 2 _ rfl
      have e3 := hR.2.2 3 _ rfl
      have e4 := hR.2.2 4 _ rfl
      have e5 := hR.2.2 5 _ rfl
      have e6 := hR.2.2 6 _ rfl
      have e7 := hR.2.2 7 _ rfl
      have e8 := hR.2.2 8 _ rfl
      have e9 := hR.2.2 9 _ rfl
      have e10 := hR.2.2 10 _ rfl
      go_wp2_with fail
      clear hfz e0 e1 e2 e3 e4 e5 e6 e7 e8 e9 e10
      replace hR := hR.set 0 (.int .i64 0) (by simp)
      replace hB := hB.setCell (p := ⟨w.heap.size, 0, none⟩) (Nat.le_refl _) (.int .i64 0)
      replace hR := hR.set 1 (.int .i64 0) (by simp)
      replace hB := hB.setCell (p := ⟨w.heap.size, 1, none⟩) (Nat.le_refl _) (.int .i64 0)
      replace hR := hR.set 2 (.int .i64 0) (by simp)
      replace hB := hB.setCell (p := ⟨w.heap.size, 2, none⟩) (Nat.le_refl _) (.int .i64 0)
      replace hR := hR.set 3 (.int .i64 0) (by simp)
      replace hB := hB.setCell (p := ⟨w.heap.size, 3, none⟩) (Nat.le_refl _) (.int .i64 0)
      replace hR := hR.set 4 (.int .i64 0) (by simp)
      replace hB := hB.setCell (p := ⟨w.heap.size, 4, none⟩) (Nat.le_refl _) (.int .i64 0)
      replace hR := hR.set 5 (.int .i64 0) (by simp)
      replace hB := hB.setCell (p := ⟨w.heap.size, 5, none⟩) (Nat.le_refl _) (.int .i64 0)
      replace hR := hR.set 6 (.bool false) (by simp)
      replace hB := hB.setCell (p := ⟨w.heap.size, 6, none⟩) (Nat.le_refl _) (.bool false)
      replace hR := hR.set 7 (.int .i64 0) (by simp)
      replace hB := hB.setCell (p := ⟨w.heap.size, 7, none⟩) (Nat.le_refl _) (.int .i64 0)
      replace hR := hR.set 8 (.int .i64 0) (by simp)
      replace hB := hB.setCell (p := ⟨w.heap.size, 8, none⟩) (Nat.le_refl _) (.int .i64 0)
      replace hR := hR.set 9 (.string ⟨#[]⟩) (by simp)
      replace hB := hB.setCell (p := ⟨w.heap.size, 9, none⟩) (Nat.le_refl _) (.string ⟨#[]⟩)
      replace hR := hR.set 10 (.string ⟨#[]⟩) (by simp)
      replace hB := hB.setCell (p := ⟨w.heap.size, 10, none⟩) (Nat.le_refl _) (.string ⟨#[]⟩)
      dsimp only [List.set] at hR
      have e0 := hR.2.2 0 _ rfl
      have e1 := hR.2.2 1 _ rfl
      have e2 := hR.2.2 2 _ rfl
      have e3 := hR.2.2 3 _ rfl
      have e4 := hR.2.2 4 _ rfl
      have e5 := hR.2.2 5 _ rfl
      have e6 := hR.2.2 6 _ rfl
      have e7 := hR.2.2 7 _ rfl
      have e8 := hR.2.2 8 _ rfl
      have e9 := hR.2.2 9 _ rfl
      have e10 := hR.2.2 10 _ rfl
      refine bodyPost_ret (v := .tuple #[.agg #[.int .i64 0, .int .i64 0, .int .i64 0, .int .i64 0, .int .i64 0, .int .i64 0, .bool false, .int .i64 0, .int .i64 0, .string ⟨#[]⟩, .string ⟨#[]⟩], .int .i64 11]) (by simp [results, Tryz.results106, go_sem, e0, e1, e2, e3, e4, e5, e6, e7, e8, e9, e10]) rfl ⟨by rw [show dd = _ from HD2.trans (if_pos (.inr (.inl (by omega))))]; try rfl, hB⟩
    · have e2b : decide (a7 < 0) = false := by simpa using hneg
      have x0 := hX.2.2 0 _ rfl
      have x1 := hX.2.2 1 _ rfl
      have x2 := hX.2.2 2 _ rfl
      have x3 := hX.2.2 3 _ rfl
      have x4 := hX.2.2 4 _ rfl
      have x5 := hX.2.2 5 _ rfl
      have x6 := hX.2.2 6 _ rfl
      have x7 := hX.2.2 7 _ rfl
      have x8 := hX.2.2 8 _ rfl
      have x9 := hX.2.2 9 _ rfl
      have x10 := hX.2.2 10 _ rfl
      go_wp2_with fail
      refine (HRT.out _).mono ?_
      rintro e wf ⟨rfl, hbf⟩
      replace hX := hX.keeps hbf hX.1
      replace hR := hR.keeps hbf hR.1
      replace hB := hB.trans (hbf.mono hB.size)
      by_cases hro : ro = 0
      · subst hro
        have hfz := hR.2.1
        have e0 := hR.2.2 0 _ rfl
        have e1 := hR.2.2 1 _ rfl
        have e2 := hR.2.2 2 _ rfl
        have e3 := hR.2.2 3 _ rfl
        have e4 := hR.2.2 4 _ rfl
        have e5 := hR.2.2 5 _ rfl
        have e6 := hR.2.2 6 _ rfl
        have e7 := hR.2.2 7 _ rfl
        have e8 := hR.2.2 8 _ rfl
        have e9 := hR.2.2 9 _ rfl
        have e10 := hR.2.2 10 _ rfl
        have y0 := hX.2.2 0 _ rfl
        have y1 := hX.2.2 1 _ rfl
        have y2 := hX.2.2 2 _ rfl
        have y3 := hX.2.2 3 _ rfl
        have y4 := hX.2.2 4 _ rfl
        have y5 := hX.2.2 5 _ rfl
        have y6 := hX.2.2 6 _ rfl
        have y7 := hX.2.2 7 _ rfl
        have y8 := hX.2.2 8 _ rfl
        have y9 := hX.2.2 9 _ rfl
        have y10 := hX.2.2 10 _ rfl
        go_wp2_with fail
        clear hfz e0 e1 e2 e3 e4 e5 e6 e7 e8 e9 e10
        replace hR := hR.set 0 (.int .i64 a1) (by simp)
        replace hB := hB.setCell (p := ⟨w.heap.size, 0, none⟩) (Nat.le_refl _) (.int .i64 a1)
        replace hR := hR.set 1 (.int .i64 a2) (by simp)
        replace hB := hB.setCell (p := ⟨w.heap.size, 1, none⟩) (Nat.le_refl _) (.int .i64 a2)
        replace hR := hR.set 2 (.int .i64 a3) (by simp)
        replace hB := hB.setCell (p := ⟨w.heap.size, 2, none⟩) (Nat.le_refl _) (.int .i64 a3)
        replace hR := hR.set 3 (.int .i64 a4) (by simp)
        replace hB := hB.setCell (p := ⟨w.heap.size, 3, none⟩) (Nat.le_refl _) (.int .i64 a4)
        replace hR := hR.set 4 (.int .i64 a5) (by simp)
        replace hB := hB.setCell (p := ⟨w.heap.size, 4, none⟩) (Nat.le_refl _) (.int .i64 a5)
        replace hR := hR.set 5 (.int .i64 a6) (by simp)
        replace hB := hB.setCell (p := ⟨w.heap.size, 5, none⟩) (Nat.le_refl _) (.int .i64 a6)
        replace hR := hR.set 6 (.bool dr) (by simp)
        replace hB := hB.setCell (p := ⟨w.heap.size, 6, none⟩) (Nat.le_refl _) (.bool dr)
        replace hR := hR.set 7 (.int .i64 a8) (by simp)
        replace hB := hB.setCell (p := ⟨w.heap.size, 7, none⟩) (Nat.le_refl _) (.int .i64 a8)
        replace hR := hR.set 8 (.int .i64 a9) (by simp)
        replace hB := hB.setCell (p := ⟨w.heap.size, 8, none⟩) (Nat.le_refl _) (.int .i64 a9)
        replace hR := hR.set 9 (.string S1) (by simp)
        replace hB := hB.setCell (p := ⟨w.heap.size, 9, none⟩) (Nat.le_refl _) (.string S1)
        replace hR := hR.set 10 (.string S2) (by simp)
        replace hB := hB.setCell (p := ⟨w.heap.size, 10, none⟩) (Nat.le_refl _) (.string S2)
        dsimp only [List.set] at hR
        have e0 := hR.2.2 0 _ rfl
        have e1 := hR.2.2 1 _ rfl
        have e2 := hR.2.2 2 _ rfl
        have e3 := hR.2.2 3 _ rfl
        have e4 := hR.2.2 4 _ rfl
        have e5 := hR.2.2 5 _ rfl
        have e6 := hR.2.2 6 _ rfl
        have e7 := hR.2.2 7 _ rfl
        have e8 := hR.2.2 8 _ rfl
        have e9 := hR.2.2 9 _ rfl
        have e10 := hR.2.2 10 _ rfl
        refine bodyPost_ret (v := .tuple #[.agg #[.int .i64 a1, .int .i64 a2, .int .i64 a3, .int .i64 a4, .int .i64 a5, .int .i64 a6, .bool dr, .int .i64 a8, .int .i64 a9, .string S1, .string S2], .int .i64 0]) (by simp [results, Tryz.results106, go_sem, e0, e1, e2, e3, e4, e5, e6, e7, e8, e9, e10]) rfl ⟨by rw [show dd = _ from HD2.trans (if_neg (fun h => h.elim (fun h => by omega) (fun h => h.elim (fun h => by omega) (fun h => h rfl))))]; try rfl, hB⟩
      · have e4b : (ro != 0) = true := by rw [bne_iff_ne]; exact hro
        have hfz := hR.2.1
        have e0 := hR.2.2 0 _ rfl
        have e1 := hR.2.2 1 _ rfl
        have e2 := hR.2.2 2 _ rfl
        have e3 := hR.2.2 3 _ rfl
        have e4 := hR.2.2 4 _ rfl
        have e5 := hR.2.2 5 _ rfl
        have e6 := hR.2.2 6 _ rfl
        have e7 := hR.2.2 7 _ rfl
        have e8 := hR.2.2 8 _ rfl
        have e9 := hR.2.2 9 _ rfl
        have e10 := hR.2.2 10 _ rfl
        go_wp2_with fail
        clear hfz e0 e1 e2 e3 e4 e5 e6 e7 e8 e9 e10
        replace hR := hR.set 0 (.int .i64 0) (by simp)
        replace hB := hB.setCell (p := ⟨w.heap.size, 0, none⟩) (Nat.le_refl _) (.int .i64 0)
        replace hR := hR.set 1 (.int .i64 0) (by simp)
        replace hB := hB.setCell (p := ⟨w.heap.size, 1, none⟩) (Nat.le_refl _) (.int .i64 0)
        replace hR := hR.set 2 (.int .i64 0) (by simp)
        replace hB := hB.setCell (p := ⟨w.heap.size, 2, none⟩) (Nat.le_refl _) (.int .i64 0)
        replace hR := hR.set 3 (.int .i64 0) (by simp)
        replace hB := hB.setCell (p := ⟨w.heap.size, 3, none⟩) (Nat.le_refl _) (.int .i64 0)
        replace hR := hR.set 4 (.int .i64 0) (by simp)
        replace hB := hB.setCell (p := ⟨w.heap.size, 4, none⟩) (Nat.le_refl _) (.int .i64 0)
        replace hR := hR.set 5 (.int .i64 0) (by simp)
        replace hB := hB.setCell (p := ⟨w.heap.size, 5, none⟩) (Nat.le_refl _) (.int .i64 0)
        replace hR := hR.set 6 (.bool false) (by simp)
        replace hB := hB.setCell (p := ⟨w.heap.size, 6, none⟩) (Nat.le_refl _) (.bool false)
        replace hR := hR.set 7 (.int .i64 0) (by simp)
        replace hB := hB.setCell (p := ⟨w.heap.size, 7, none⟩) (Nat.le_refl _) (.int .i64 0)
        replace hR := hR.set 8 (.int .i64 0) (by simp)
        replace hB := hB.setCell (p := ⟨w.heap.size, 8, none⟩) (Nat.le_refl _) (.int .i64 0)
        replace hR := hR.set 9 (.string ⟨#[]⟩) (by simp)
        replace hB := hB.setCell (p := ⟨w.heap.size, 9, none⟩) (Nat.le_refl _) (.string ⟨#[]⟩)
        replace hR := hR.set 10 (.string ⟨#[]⟩) (by simp)
        replace hB := hB.setCell (p := ⟨w.heap.size, 10, none⟩) (Nat.le_refl _) (.string ⟨#[]⟩)
        dsimp only [List.set] at hR
        have e0 := hR.2.2 0 _ rfl
        have e1 := hR.2.2 1 _ rfl
        have e2 := hR.2.2 2 _ rfl
        have e3 := hR.2.2 3 _ rfl
        have e4 := hR.2.2 4 _ rfl
        have e5 := hR.2.2 5 _ rfl
        have e6 := hR.2.2 6 _ rfl
        have e7 := hR.2.2 7 _ rfl
        have e8 := hR.2.2 8 _ rfl
        have e9 := hR.2.2 9 _ rfl
        have e10 := hR.2.2 10 _ rfl
        refine bodyPost_ret (v := .tuple #[.agg #[.int .i64 0, .int .i64 0, .int .i64 0, .int .i64 0, .int .i64 0, .int .i64 0, .bool false, .int .i64 0, .int .i64 0, .string ⟨#[]⟩, .string ⟨#[]⟩], .int .i64 11]) (by simp [results, Tryz.results106, go_sem, e0, e1, e2, e3, e4, e5, e6, e7, e8, e9, e10]) rfl ⟨by rw [show dd = _ from HD2.trans (if_pos (.inr (.inr hro)))]; try rfl, hB⟩
  · have e1b : (fi != 0) = true := by rw [bne_iff_ne]; exact hfi
    have hfz := hR.2.1
    have e0 := hR.2.2 0 _ rfl
    have e1 := hR.2.2 1 _ rfl
    have e2 := hR.2.2 2 _ rfl
    have e3 := hR.2.2 3 _ rfl
    have e4 := hR.2.2 4 _ rfl
    have e5 := hR.2.2 5 _ rfl
    have e6 := hR.2.2 6 _ rfl
    have e7 := hR.2.2 7 _ rfl
    have e8 := hR.2.2 8 _ rfl
    have e9 := hR.2.2 9 _ rfl
    have e10 := hR.2.2 10 _ rfl
    go_wp2_with fail
    clear hfz e0 e1 e2 e3 e4 e5 e6 e7 e8 e9 e10
    replace hR := hR.set 0 (.int .i64 0) (by simp)
    replace hB := hB.setCell (p := ⟨w.heap.size, 0, none⟩) (Nat.le_refl _) (.int .i64 0)
    replace hR := hR.set 1 (.int .i64 0) (by simp)
    replace hB := hB.setCell (p := ⟨w.heap.size, 1, none⟩) (Nat.le_refl _) (.int .i64 0)
    replace hR := hR.set 2 (.int .i64 0) (by simp)
    replace hB := hB.setCell (p := ⟨w.heap.size, 2, none⟩) (Nat.le_refl _) (.int .i64 0)
    replace hR := hR.set 3 (.int .i64 0) (by simp)
    replace hB := hB.setCell (p := ⟨w.heap.size, 3, none⟩) (Nat.le_refl _) (.int .i64 0)
    replace hR := hR.set 4 (.int .i64 0) (by simp)
    replace hB := hB.setCell (p := ⟨w.heap.size, 4, none⟩) (Nat.le_refl _) (.int .i64 0)
    replace hR := hR.set 5 (.int .i64 0) (by simp)
    replace hB := hB.setCell (p := ⟨w.heap.size, 5, none⟩) (Nat.le_refl _) (.int .i64 0)
    replace hR := hR.set 6 (.bool false) (by simp)
    replace hB := hB.setCell (p := ⟨w.heap.size, 6, none⟩) (Nat.le_refl _) (.bool false)
    replace hR := hR.set 7 (.int .i64 0) (by simp)
    replace hB := hB.setCell (p := ⟨w.heap.size, 7, none⟩) (Nat.le_refl _) (.int .i64 0)
    replace hR := hR.set 8 (.int .i64 0) (by simp)
    replace hB := hB.setCell (p := ⟨w.heap.size, 8, none⟩) (Nat.le_refl _) (.int .i64 0)
    replace hR := hR.set 9 (.string ⟨#[]⟩) (by simp)
    replace hB := hB.setCell (p := ⟨w.heap.size, 9, none⟩) (Nat.le_refl _) (.string ⟨#[]⟩)
    replace hR := hR.set 10 (.string ⟨#[]⟩) (by simp)
    replace hB := hB.setCell (p := ⟨w.heap.size, 10, none⟩) (Nat.le_refl _) (.string ⟨#[]⟩)
    dsimp only [List.set] at hR
    have e0 := hR.2.2 0 _ rfl
    have e1 := hR.2.2 1 _ rfl
    have e2 := hR.2.2 2 _ rfl
    have e3 := hR.2.2 3 _ rfl
    have e4 := hR.2.2 4 _ rfl
    have e5 := hR.2.2 5 _ rfl
    have e6 := hR.2.2 6 _ rfl
    have e7 := hR.2.2 7 _ rfl
    have e8 := hR.2.2 8 _ rfl
    have e9 := hR.2.2 9 _ rfl
    have e10 := hR.2.2 10 _ rfl
    refine bodyPost_ret (v := .tuple #[.agg #[.int .i64 0, .int .i64 0, .int .i64 0, .int .i64 0, .int .i64 0, .int .i64 0, .bool false, .int .i64 0, .int .i64 0, .string ⟨#[]⟩, .string ⟨#[]⟩], .int .i64 fi]) (by simp [results, Tryz.results106, go_sem, e0, e1, e2, e3, e4, e5, e6, e7, e8, e9, e10]) rfl ⟨by rw [show dd = _ from HD.out.trans (if_pos hfi)]; try rfl, hB⟩
end Go.Proofs.YtgglheelhbfgiaaGreatDoor

namespace Go.Proofs.YtgglheelhbfgiaaGreatDoor
open Go Go.RowKit Go.Lib


end Go.Proofs.YtgglheelhbfgiaaGreatDoor

namespace Go.Proofs.YtgglheelhbfgiaaGreatDoor
open Go Go.RowKit Go.Lib

def opA : Opr := ⟨1, 0, 1, 1, 1, 0, true, 0, 0, ⟨#[97]⟩, ⟨#[]⟩⟩
def opB : Opr := ⟨1, 0, 2, 1, 1, 0, true, 0, 0, ⟨#[97]⟩, ⟨#[]⟩⟩
theorem addA : addO [] opA = ([opA], 0) := by kernel_rfl
theorem addB : addO [] opB = ([], 26) := by kernel_rfl
theorem addC : addO [opA] opA = ([opA], 0) := by kernel_rfl
theorem memC : memB [opA] opA = true := by kernel_rfl
theorem decE : decO [] = (noOpr, 10) := by kernel_rfl
theorem ins_nil (x : Opr) : InsOk [] x := fun v vb B W h1 h2 h3 => insertEnd_any v [] x vb B W (by simp) h1 h2 h3
theorem addB_any (w : World) : Calls Tryz.prog 44 #[.slice none 0 0, .agg #[.int .i64 1, .int .i64 0, .int .i64 2, .int .i64 1, .int .i64 1, .int .i64 0, .bool true, .int .i64 0, .int .i64 0, .string ⟨#[97]⟩, .string ⟨#[]⟩]] w fun e w' => ∃ a' cap', e = .returned (.tuple #[.slice a' 0 cap', .int .i64 26]) ∧ Below w.heap.size w w' := by
  have h := add_walk none 0 [] opB w (by simp) (by decide) (by decide) (fun _ => rfl) (Nat.le_refl _) (RowsAt.nil _ _ _) (fun _ _ _ => ins_nil _)
  rw [addB] at h
  exact h.mono fun e w' ⟨a', c', h1, h2, h3, h4, h5⟩ => ⟨a', c', h1, h5⟩
theorem addA_any (w : World) : Calls Tryz.prog 44 #[.slice none 0 0, .agg #[.int .i64 1, .int .i64 0, .int .i64 1, .int .i64 1, .int .i64 1, .int .i64 0, .bool true, .int .i64 0, .int .i64 0, .string ⟨#[97]⟩, .string ⟨#[]⟩]] w fun e w' => ∃ a' cap', e = .returned (.tuple #[.slice a' 1 cap', .int .i64 0]) ∧ RowsAt oprLay w' a' [opA] ∧ (a' = none → cap' = 0) ∧ 1 ≤ cap' ∧ Below w.heap.size w w' := by
  have h := add_walk none 0 [] opA w (by simp) (by decide) (by decide) (fun _ => rfl) (Nat.le_refl _) (RowsAt.nil _ _ _) (fun _ _ _ => ins_nil _)
  rw [addA] at h
  exact h
theorem addC_any (a : Option Addr) (cap : Nat) (w : World) (hn : a = none → cap = 0) (hc : 1 ≤ cap) (ha : RowsAt oprLay w a [opA]) : Calls Tryz.prog 44 #[.slice a 1 cap, .agg #[.int .i64 1, .int .i64 0, .int .i64 1, .int .i64 1, .int .i64 1, .int .i64 0, .bool true, .int .i64 0, .int .i64 0, .string ⟨#[97]⟩, .string ⟨#[]⟩]] w fun e w' => ∃ a' cap', e = .returned (.tuple #[.slice a' 1 cap', .int .i64 0]) ∧ RowsAt oprLay w' a' [opA] ∧ Below w.heap.size w w' := by
  have h := add_walk a cap [opA] opA w (by simp) (by decide) (by decide) hn hc ha (fun _ h _ => by rw [memC] at h; cases h)
  rw [addC] at h
  exact h.mono fun e w' ⟨a', c', h1, h2, h3, h4, h5⟩ => ⟨a', c', h1, h2, h5⟩
theorem decE_any (w : World) : Calls Tryz.prog 106 #[.string ⟨#[]⟩] w fun e w' => e = .returned (.tuple #[.agg #[.int .i64 0, .int .i64 0, .int .i64 0, .int .i64 0, .int .i64 0, .int .i64 0, .bool false, .int .i64 0, .int .i64 0, .string ⟨#[]⟩, .string ⟨#[]⟩], .int .i64 10]) ∧ Below w.heap.size w w' := by
  have h := decode_any ⟨#[]⟩ w (by decide)
  rw [show (ByteArray.mk #[]).data.toList = [] from rfl, decE] at h
  exact h
theorem sameA_any (a b : Option Addr) (cap cap' : Nat) (w : World) (ha : RowsAt oprLay w a [opA]) (hb : RowsAt oprLay w b [opA]) : Calls Tryz.prog 45 #[.slice a 1 cap, .slice b 1 cap'] w fun e w' => e = .returned (.bool true) ∧ ∃ n, w' = w.drewN n := by
  have h := oprs_any a b cap cap' [opA] [opA] w (by simp) ha hb
  simpa using h

/-! ### few -/
def bigO (x : Opr) : Bool := decide (200 < x.name.size) || decide (2000 < x.man.size)
def fewO (l : List Opr) : Bool := decide (l.length ≤ 450) && !l.any bigO
end Go.Proofs.YtgglheelhbfgiaaGreatDoor

namespace Go.Proofs.YtgglheelhbfgiaaGreatDoor
open Go Go.RowKit Go.Lib

def validB (x : Opr) : Bool := decide (0 ≤ x.who) && decide (x.who < 15)
def cntO (l : List Opr) (i : Nat) : Int := ((l.filter fun x => x.who == (i : Int)).length : Int)
def lenO (l : List Opr) : Nat := l.foldl (fun n x => if validB x then max n (x.who.toNat + 1) else n) 0
def padO (l : List Opr) (n : Nat) : List Int := (List.range n).map (cntO l)
def vecO (l : List Opr) : List Int := padO l (lenO l)
theorem lenO_snoc (l : List Opr) (y : Opr) : lenO (l ++ [y]) = if validB y then max (lenO l) (y.who.toNat + 1) else lenO l := by
  unfold lenO
  rw [List.foldl_append]
  rfl
theorem validB_iff {x : Opr} : validB x = true ↔ 0 ≤ x.who ∧ x.who < 15 := by simp [validB]
theorem lenO_le (l : List Opr) : lenO l ≤ 15 := by
  have key : ∀ (l : List Opr) n, n ≤ 15 → l.foldl (fun n x => if validB x then max n (x.who.toNat + 1) else n) n ≤ 15 := by
    intro l
    induction l with
    | nil => intro n h; exact h
    | cons y l ih =>
      intro n h
      rw [List.foldl_cons]
      apply ih
      split
      · rename_i hv
        have := validB_iff.1 hv
        omega
      · exact h
  exact key l 0 (by omega)
theorem lenO_mem {l : List Opr} {x : Opr} (hx : x ∈ l) (hv : validB x = true) : x.who.toNat + 1 ≤ lenO l := by
  have mono : ∀ (l : List Opr) n, n ≤ l.foldl (fun n x => if validB x then max n (x.who.toNat + 1) else n) n := by
    intro l
    induction l with
    | nil => intro n; exact Nat.le_refl _
    | cons y l ih =>
      intro n
      rw [List.foldl_cons]
      refine Nat.le_trans ?_ (ih _)
      split <;> omega
  have key : ∀ (l : List Opr) n, x ∈ l → x.who.toNat + 1 ≤ l.foldl (fun n x => if validB x then max n (x.who.toNat + 1) else n) n := by
    intro l
    induction l with
    | nil => intro n h; cases h
    | cons y l ih =>
      intro n h
      rw [List.foldl_cons]
      rcases List.mem_cons.1 h with rfl | h
      · rw [if_pos hv]
        exact Nat.le_trans (by omega) (mono l _)
      · exact ih _ h
  exact key l 0 hx
theorem cntO_zero {l : List Opr} {i : Nat} (h : lenO l ≤ i) (hi : i < 15) : cntO l i = 0 := by
  unfold cntO
  rw [List.filter_eq_nil_iff.2]
  · rfl
  · intro x hx he
    have he' : x.who = (i : Int) := by simpa using he
    have := lenO_mem hx (validB_iff.2 ⟨by omega, by omega⟩)
    omega
theorem cntO_snoc (l : List Opr) (y : Opr) (i : Nat) : cntO (l ++ [y]) i = cntO l i + (if y.who = (i : Int) then 1 else 0) := by
  unfold cntO
  rw [List.filter_append, List.length_append]
  by_cases h : y.who = (i : Int)
  · simp [h]
  · simp [h]
theorem padO_len (l : List Opr) (n : Nat) : (padO l n).length = n := by simp [padO]
theorem padO_get {l : List Opr} {n i : Nat} (h : i < n) : (padO l n)[i]? = some (cntO l i) := by simp [padO, h]
theorem padO_next {l : List Opr} {n : Nat} (h : lenO l ≤ n) (hn : n < 15) : padO l (n + 1) = padO l n ++ [0] := by
  unfold padO
  rw [List.range_succ, List.map_append, List.map_cons, List.map_nil, cntO_zero h hn]
theorem padO_skip {l : List Opr} {y : Opr} {n : Nat} (hn : n ≤ 15) (hv : validB y = false) : padO (l ++ [y]) n = padO l n := by
  unfold padO
  apply List.map_congr_left
  intro i hi
  have hi' := List.mem_range.1 hi
  rw [cntO_snoc, if_neg, Int.add_zero]
  intro he
  have : validB y = true := validB_iff.2 ⟨by omega, by omega⟩
  rw [hv] at this
  cases this
theorem padO_set {l : List Opr} {y : Opr} {n k : Nat} (hk : y.who = (k : Int)) (hkn : k < n) : (padO l n).set k (cntO l k + 1) = padO (l ++ [y]) n := by
  apply List.ext_getElem?
  intro i
  by_cases hin : i < n
  · rw [padO_get hin]
    by_cases e : i = k
    · subst e
      rw [List.getElem?_set_self (by rw [padO_len]; exact hin), cntO_snoc, if_pos hk]
    · rw [List.getElem?_set_ne (Ne.symm e), padO_get hin, cntO_snoc, if_neg (by omega), Int.add_zero]
  · rw [List.getElem?_eq_none (by rw [List.length_set, padO_len]; omega), List.getElem?_eq_none (by rw [padO_len]; omega)]
theorem cntO_le (l : List Opr) (i : Nat) : 0 ≤ cntO l i ∧ cntO l i ≤ l.length := by
  unfold cntO
  have := List.length_filter_le (fun x : Opr => x.who == (i : Int)) l
  omega
theorem padO_nil (n : Nat) : padO [] n = List.replicate n 0 := by
  apply List.ext_getElem?
  intro i
  by_cases hi : i < n
  · rw [padO_get hi]; simp [cntO, hi]
  · rw [List.getElem?_eq_none (by rw [padO_len]; omega), List.getElem?_eq_none (by simp; omega)]
theorem take_snoc {α : Type} {l : List α} {k : Nat} {y : α} (h : l[k]? = some y) : l.take (k + 1) = l.take k ++ [y] := by
  rw [List.take_add_one, h]; rfl
/-- A vector's number of a device. -/
def atV (v : List Int) (w : Int) : Int := if w < 0 ∨ (v.length : Int) ≤ w then 0 else max (v.getD w.toNat 0) 0
def newB (v : List Int) (x : Opr) : Bool := decide (atV v x.who < x.seq)
theorem filter_snoc {α : Type} {l : List α} {k : Nat} {y : α} (h : l[k]? = some y) (p : α → Bool) : (l.take (k + 1)).filter p = (l.take k).filter p ++ (if p y then [y] else []) := by
  rw [take_snoc h, List.filter_append]
  by_cases hp : p y = true
  · simp [hp]
  · simp [hp]
end Go.Proofs.YtgglheelhbfgiaaGreatDoor

