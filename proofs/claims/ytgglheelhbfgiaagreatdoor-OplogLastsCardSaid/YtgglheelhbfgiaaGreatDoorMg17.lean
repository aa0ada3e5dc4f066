/-
  A disk: does, walked. A disk: Size. A disk: Write. A disk: Cut.
-/
import Derived.Test.YtgglheelhbfgiaaGreatDoorMg16
import Derived.Maps.RangeWalk
import Derived.Sort.KeysCollected
import Derived.Lib.QuietBelow
namespace Go.Proofs.YtgglheelhbfgiaaGreatDoor
open Go Go.RowKit Go.Lib
set_option maxRecDepth 100000 in
set_option maxHeartbeats 3200000 in
theorem does_write (w : World) (db nb fb : Nat) (v : Value) (S : Nat → Prop) (d : Dk) (ps : Array Value) (a : ActD) (h : DAt w db nb fb v S d) (hc : a.cut = false) (ha : ActAt w db v S ⟨67, ps⟩ a) (hok : ActOK a) (hl : d.now.length ≤ 100000) (hal : d.acts.length ≤ 1000000000) :
    Calls Tryz.prog 66 #[.pointer (some ⟨db, 0, none⟩), .func (.func 67) #[] ps] w fun e w' => e = .returned (.int .i64 (doesD d a).2) ∧ (∃ v', DAt w' db nb fb v' (GrowS S w w') (doesD d a).1) ∧ Turned S w.heap.size w w' := by
  obtain ⟨fs, ho, hacts⟩ := h.acts
  have hfl : fs.length = d.acts.length := hacts.len
  obtain ⟨aa, ac, hv, _, _⟩ := ho.read
  have c3 : w.cell? ⟨db, 3, none⟩ = some (.slice aa fs.length ac) := by
    rw [← hv]
    exact h.cells.2.2 3 _ rfl
  obtain ⟨pd, pn, pp, rfl, hbd, hbn, hbp⟩ : ∃ d n p, ps = #[d, n, p] ∧ BoxAt w db v S d (.string a.data) ∧ BoxAt w db v S n (.string a.name) ∧ BoxAt w db v S p (.int .i64 a.n) := by
    rcases ha with ⟨_, _, h⟩ | ⟨h, _⟩
    · exact h
    · rw [hc] at h; cases h
  obtain ⟨kd, rfl, _⟩ := hbd
  obtain ⟨kn, rfl, _⟩ := hbn
  obtain ⟨kp, rfl, _⟩ := hbp
  subst hv
  obtain ⟨i0, hi, hz, hs⟩ : ∃ i, Tryz.prog.info? 118 = some i ∧ i.zero = some .nilFunc ∧ i.size = 1 ∧ i.bytes = 8 := by
    have := actInfo
    cases e : Tryz.prog.info? 118 with
    | none => rw [e] at this; cases this
    | some i => rw [e] at this; simp only [Option.map_some, Option.some.injEq, Prod.mk.injEq] at this; exact ⟨i, rfl, this.1, this.2.1, this.2.2⟩
  have Hi := Lib.hid hi
  have Hz := Lib.hid hz
  have Hs := Lib.hid hs
  clear hi hz hs
  have HD := Lib.hid h
  have HA := Lib.hid ha
  have Hacts := Lib.hid hacts
  have Ho := Lib.hid ho
  have Hc := Lib.hid hc
  have hdb := h.cells.1
  have hmx : fs.length + 1 ≤ 1000000001 := by omega
  have hdok := h.ok
  have HS := Lib.hid (show ∀ k, k = db ∨ k = nb ∨ (Value.slice aa fs.length ac).ownBlock = some k → S k from fun k hk => by
    rcases hk with rfl | rfl | hk
    · exact h.sdb
    · exact h.snb
    · exact h.sv k hk)
  have HL := Lib.hid hl
  clear h ha hacts ho hfl hal hc hl hdok
  have H0 := Lib.hid fun v2 w2 ho2 hg2 hv2 => HD.out.grownActs (w1 := w.alloc (.cells #[.func (.func 67) #[] #[.pointer (some ⟨kd, 0, none⟩), .pointer (some ⟨kn, 0, none⟩), .pointer (some ⟨kp, 0, none⟩)]] 118)) (by simp) ((Below.refl _ _).alloc (Nat.le_refl _) _) Hacts.out HA.out hok ho2 (w2 := w2) (v' := v2) hg2 hv2 (GrowS S w w2) fun _ => Iff.rfl
  have HT0 := Lib.hid fun w2 (hg2 : (w.alloc (.cells #[.func (.func 67) #[] #[.pointer (some ⟨kd, 0, none⟩), .pointer (some ⟨kn, 0, none⟩), .pointer (some ⟨kp, 0, none⟩)]] 118)).grownBy w2 (Value.slice aa fs.length ac).ownBlock) => ((Turned.refl S w.heap.size w).alloc (Nat.le_refl _) (.cells #[.func (.func 67) #[] #[.pointer (some ⟨kd, 0, none⟩), .pointer (some ⟨kn, 0, none⟩), .pointer (some ⟨kp, 0, none⟩)]] 118)).trans (Turned.of_grown hg2 (by simp) fun k e _ => HS.out k (.inr (.inr e)))
  have HV0 := Lib.hid fun w2 (hg2 : (w.alloc (.cells #[.func (.func 67) #[] #[.pointer (some ⟨kd, 0, none⟩), .pointer (some ⟨kn, 0, none⟩), .pointer (some ⟨kp, 0, none⟩)]] 118)).grownBy w2 (Value.slice aa fs.length ac).ownBlock) => (HD.out.cells.keeps ((Below.refl _ _).alloc (Nat.le_refl _) (.cells #[.func (.func 67) #[] #[.pointer (some ⟨kd, 0, none⟩), .pointer (some ⟨kn, 0, none⟩), .pointer (some ⟨kp, 0, none⟩)]] 118)) HD.out.cells.1).grown hg2 (fun e => by have := (HD.out.row db e.symm).1; omega)
  go_enter Tryz.func66, Tryz.ntmps66
  go_wp2_with (at_builtin; refine wpList_append_rows _ rfl _ _ 95 rfl actLay (db + 1) 118 i0 .nilFunc 8 Tryz.underlying95 Hi.out Hz.out Hs.out.1 Hs.out.2 rfl (by decide) _ fs rfl (Ho.out.alloc _) ⟨w.heap.size, 0, none⟩ 1 ⟨67, #[.pointer (some ⟨kd, 0, none⟩), .pointer (some ⟨kn, 0, none⟩), .pointer (some ⟨kp, 0, none⟩)]⟩ rfl (cells_new_at w w.heap.size #[.func (.func 67) #[] #[.pointer (some ⟨kd, 0, none⟩), .pointer (some ⟨kn, 0, none⟩), .pointer (some ⟨kp, 0, none⟩)]] 118 rfl) (by unfold maxLen; omega) (by omega) (by simp; omega) ?_)
  intro v2 w2 ho2 hg2 hv2
  obtain ⟨h3, ha3⟩ := H0.out v2 w2 ho2 hg2 (by simpa using hv2)
  have hT2 := (HT0.out w2 hg2).set (b := db) 3 v2 (fun _ => HS.out db (.inl rfl))
  have hV2 := HV0.out w2 hg2
  have f3 := hV2.2.1 3
  have k3 : w2.cell? ⟨db, 3, none⟩ = some (.slice aa fs.length ac) := hV2.2.2 3 _ rfl
  obtain ⟨a2, cap2, rfl, _, _⟩ := ho2.read
  have hsz2 : (w2.setCell ⟨db, 3, none⟩ (.slice a2 (fs ++ [(⟨67, #[.pointer (some ⟨kd, 0, none⟩), .pointer (some ⟨kn, 0, none⟩), .pointer (some ⟨kp, 0, none⟩)]⟩ : FnV)]).length cap2)).heap.size = w2.heap.size := by simp
  have H3 := Lib.hid h3
  have HA3 := Lib.hid ha3
  clear hV2 ho2 hg2 hv2 H0 HT0 HV0 h3 ha3
  generalize (fs ++ [(⟨67, #[.pointer (some ⟨kd, 0, none⟩), .pointer (some ⟨kn, 0, none⟩), .pointer (some ⟨kp, 0, none⟩)]⟩ : FnV)]).length = nn at *
  obtain ⟨w3, hw3⟩ : ∃ w3, w2.setCell ⟨db, 3, none⟩ (.slice a2 nn cap2) = w3 := ⟨_, rfl⟩
  have Hw3 := Lib.hid hw3
  rw [hw3] at H3 HA3 hT2 hsz2
  clear hw3
  have Hsz2 := Lib.hid hsz2
  clear hsz2
  go_wp2_with fail
  rw [Hw3.out]
  refine (dies_any w3 db nb fb _ _ _ H3.out).mono ?_
  rintro e w4 ⟨rfl, h4, hT4⟩
  have hT24 := hT2.trans (hT4.mono hT2.size fun k _ hk => HS.out k (.inl hk))
  have HA4 := HA3.out.turned hT4 (Nat.le_refl _) fun k c hk hlt _ => by
    have : k = db := hk
    omega
  have hlt4 : w2.heap.size ≤ w4.heap.size := by rw [← Hsz2.out]; exact hT4.size
  cases hdd : (diesD { d with acts := d.acts ++ [a] }).dead with
  | true =>
    have Hr := Lib.hid (does_dead hdd)
    rw [← hdd]
    rw [hdd]
    clear hdd
    go_wp2_with fail
    go_ret
    rw [Hr.out]
    refine ⟨rfl, ⟨_, h4.mono (fun k hk => ?_) (fun k hk => ?_)⟩, hT24⟩
    · rcases hk with hk | hk
      · exact .inl hk
      · exact .inr ⟨hk.1, Nat.lt_of_lt_of_le hk.2 hlt4⟩
    · rcases hk with hk | hk
      · exact Nat.lt_of_lt_of_le (HD.out.slt k hk) hT24.size
      · exact hk.2
  | false =>
    have Hr := Lib.hid (does_alive hdd)
    have hl4 : (diesD { d with acts := d.acts ++ [a] }).now.length ≤ 100000 := by
      rw [(dies_same _).1]
      exact HL.out
    have c1 : w4.cell? ⟨db, 1, none⟩ = some (.map (some nb)) := h4.cells.2.2 1 _ rfl
    have hc := Hc.out
    have HX : ∃ Q, Hid (Q = fun w5 => MapK strV Tryz.prog 9 w5 nb (doD (diesD { d with acts := d.acts ++ [a] }).now a false) ∧ w4.grownBy w5 (some nb)) ∧ Hid (Calls Tryz.prog 67 (#[.map (some nb), .bool false] ++ #[.pointer (some ⟨kd, 0, none⟩), .pointer (some ⟨kn, 0, none⟩), .pointer (some ⟨kp, 0, none⟩)]) w4 fun e w5 => e = .returned (.tuple #[]) ∧ Q w5) := by
      rcases HA4 with ⟨_, _, d', n', p', e1, hbd, hbn, hbp⟩ | ⟨h, _⟩
      · cases e1
        obtain ⟨kd', e2, _, _, _, _, hd4⟩ := hbd
        obtain ⟨kn', e3, _, hkn4, _, _, hn4⟩ := hbn
        obtain ⟨kp', e4, _, _, _, _, hp4⟩ := hbp
        cases e2; cases e3; cases e4
        have HW := Lib.hid (writeact_any w4 nb kd kn kp (diesD { d with acts := d.acts ++ [a] }).now false a h4.now hd4 hn4 hp4 hkn4 hc hok.2.2.1 hl4 (Nat.le_trans (h4.ok.now.has a.name) (by decide)) hok.2.1 (Nat.le_trans hok.1 (by decide)))
        exact ⟨_, Lib.hid rfl, Lib.hid HW.out⟩
      · rw [hc] at h; cases h
    obtain ⟨Q, HQ, HC⟩ := HX
    have H4 := Lib.hid h4
    have hok4 := Lib.hid (doD_ok false h4.ok.now hok)
    have HT24 := Lib.hid hT24
    clear h4 HA4 hT4 hT2 hT24 hc hl4
    go_wp2_with fail
    refine HC.out.mono ?_
    rintro e w5 ⟨rfl, hq⟩
    rw [HQ.out] at hq
    obtain ⟨hM, hg⟩ := hq
    go_wp2_with fail
    go_ret
    rw [Hr.out]
    have hT5 := HT24.out.trans (Turned.of_grown hg HT24.out.size fun k e _ => by cases e; exact HS.out nb (.inr (.inl rfl)))
    refine ⟨rfl, ⟨_, (H4.out.nowTurned hM hg hok4.out).mono (fun k hk => ?_) (fun k hk => ?_)⟩, hT5⟩
    · rcases hk with hk | hk
      · exact .inl hk
      · exact .inr ⟨hk.1, Nat.lt_of_lt_of_le hk.2 (Nat.le_trans hlt4 hg.size)⟩
    · rcases hk with hk | hk
      · exact Nat.lt_of_lt_of_le (HD.out.slt k hk) hT5.size
      · exact hk.2
set_option maxRecDepth 100000 in
set_option maxHeartbeats 3200000 in
theorem does_cut (w : World) (db nb fb : Nat) (v : Value) (S : Nat → Prop) (d : Dk) (ps : Array Value) (a : ActD) (h : DAt w db nb fb v S d) (hc : a.cut = true) (ha : ActAt w db v S ⟨87, ps⟩ a) (hok : ActOK a) (hl : d.now.length ≤ 100000) (hal : d.acts.length ≤ 1000000000) :
    Calls Tryz.prog 66 #[.pointer (some ⟨db, 0, none⟩), .func (.func 87) #[] ps] w fun e w' => e = .returned (.int .i64 (doesD d a).2) ∧ (∃ v', DAt w' db nb fb v' (GrowS S w w') (doesD d a).1) ∧ Turned S w.heap.size w w' := by
  obtain ⟨fs, ho, hacts⟩ := h.acts
  have hfl : fs.length = d.acts.length := hacts.len
  obtain ⟨aa, ac, hv, _, _⟩ := ho.read
  have c3 : w.cell? ⟨db, 3, none⟩ = some (.slice aa fs.length ac) := by
    rw [← hv]
    exact h.cells.2.2 3 _ rfl
  obtain ⟨pn, pp, rfl, hbn, hbp⟩ : ∃ n p, ps = #[n, p] ∧ BoxAt w db v S n (.string a.name) ∧ BoxAt w db v S p (.int .i64 a.n) := by
    rcases ha with ⟨h, _⟩ | ⟨_, _, h⟩
    · rw [hc] at h; cases h
    · exact h
  obtain ⟨kn, rfl, _⟩ := hbn
  obtain ⟨kp, rfl, _⟩ := hbp
  subst hv
  obtain ⟨i0, hi, hz, hs⟩ : ∃ i, Tryz.prog.info? 118 = some i ∧ i.zero = some .nilFunc ∧ i.size = 1 ∧ i.bytes = 8 := by
    have := actInfo
    cases e : Tryz.prog.info? 118 with
    | none => rw [e] at this; cases this
    | some i => rw [e] at this; simp only [Option.map_some, Option.some.injEq, Prod.mk.injEq] at this; exact ⟨i, rfl, this.1, this.2.1, this.2.2⟩
  have Hi := Lib.hid hi
  have Hz := Lib.hid hz
  have Hs := Lib.hid hs
  clear hi hz hs
  have HD := Lib.hid h
  have HA := Lib.hid ha
  have Hacts := Lib.hid hacts
  have Ho := Lib.hid ho
  have Hc := Lib.hid hc
  have hdb := h.cells.1
  have hmx : fs.length + 1 ≤ 1000000001 := by omega
  have hdok := h.ok
  have HS := Lib.hid (show ∀ k, k = db ∨ k = nb ∨ (Value.slice aa fs.length ac).ownBlock = some k → S k from fun k hk => by
    rcases hk with rfl | rfl | hk
    · exact h.sdb
    · exact h.snb
    · exact h.sv k hk)
  have HL := Lib.hid hl
  clear h ha hacts ho hfl hal hc hl hdok
  have H0 := Lib.hid fun v2 w2 ho2 hg2 hv2 => HD.out.grownActs (w1 := w.alloc (.cells #[.func (.func 87) #[] #[.pointer (some ⟨kn, 0, none⟩), .pointer (some ⟨kp, 0, none⟩)]] 118)) (by simp) ((Below.refl _ _).alloc (Nat.le_refl _) _) Hacts.out HA.out hok ho2 (w2 := w2) (v' := v2) hg2 hv2 (GrowS S w w2) fun _ => Iff.rfl
  have HT0 := Lib.hid fun w2 (hg2 : (w.alloc (.cells #[.func (.func 87) #[] #[.pointer (some ⟨kn, 0, none⟩), .pointer (some ⟨kp, 0, none⟩)]] 118)).grownBy w2 (Value.slice aa fs.length ac).ownBlock) => ((Turned.refl S w.heap.size w).alloc (Nat.le_refl _) (.cells #[.func (.func 87) #[] #[.pointer (some ⟨kn, 0, none⟩), .pointer (some ⟨kp, 0, none⟩)]] 118)).trans (Turned.of_grown hg2 (by simp) fun k e _ => HS.out k (.inr (.inr e)))
  have HV0 := Lib.hid fun w2 (hg2 : (w.alloc (.cells #[.func (.func 87) #[] #[.pointer (some ⟨kn, 0, none⟩), .pointer (some ⟨kp, 0, none⟩)]] 118)).grownBy w2 (Value.slice aa fs.length ac).ownBlock) => (HD.out.cells.keeps ((Below.refl _ _).alloc (Nat.le_refl _) (.cells #[.func (.func 87) #[] #[.pointer (some ⟨kn, 0, none⟩), .pointer (some ⟨kp, 0, none⟩)]] 118)) HD.out.cells.1).grown hg2 (fun e => by have := (HD.out.row db e.symm).1; omega)
  go_enter Tryz.func66, Tryz.ntmps66
  go_wp2_with (at_builtin; refine wpList_append_rows _ rfl _ _ 95 rfl actLay (db + 1) 118 i0 .nilFunc 8 Tryz.underlying95 Hi.out Hz.out Hs.out.1 Hs.out.2 rfl (by decide) _ fs rfl (Ho.out.alloc _) ⟨w.heap.size, 0, none⟩ 1 ⟨87, #[.pointer (some ⟨kn, 0, none⟩), .pointer (some ⟨kp, 0, none⟩)]⟩ rfl (cells_new_at w w.heap.size #[.func (.func 87) #[] #[.pointer (some ⟨kn, 0, none⟩), .pointer (some ⟨kp, 0, none⟩)]] 118 rfl) (by unfold maxLen; omega) (by omega) (by simp; omega) ?_)
  intro v2 w2 ho2 hg2 hv2
  obtain ⟨h3, ha3⟩ := H0.out v2 w2 ho2 hg2 (by simpa using hv2)
  have hT2 := (HT0.out w2 hg2).set (b := db) 3 v2 (fun _ => HS.out db (.inl rfl))
  have hV2 := HV0.out w2 hg2
  have f3 := hV2.2.1 3
  have k3 : w2.cell? ⟨db, 3, none⟩ = some (.slice aa fs.length ac) := hV2.2.2 3 _ rfl
  obtain ⟨a2, cap2, rfl, _, _⟩ := ho2.read
  have hsz2 : (w2.setCell ⟨db, 3, none⟩ (.slice a2 (fs ++ [(⟨87, #[.pointer (some ⟨kn, 0, none⟩), .pointer (some ⟨kp, 0, none⟩)]⟩ : FnV)]).length cap2)).heap.size = w2.heap.size := by simp
  have H3 := Lib.hid h3
  have HA3 := Lib.hid ha3
  clear hV2 ho2 hg2 hv2 H0 HT0 HV0 h3 ha3
  generalize (fs ++ [(⟨87, #[.pointer (some ⟨kn, 0, none⟩), .pointer (some ⟨kp, 0, none⟩)]⟩ : FnV)]).length = nn at *
  obtain ⟨w3, hw3⟩ : ∃ w3, w2.setCell ⟨db, 3, none⟩ (.slice a2 nn cap2) = w3 := ⟨_, rfl⟩
  have Hw3 := Lib.hid hw3
  rw [hw3] at H3 HA3 hT2 hsz2
  clear hw3
  have Hsz2 := Lib.hid hsz2
  clear hsz2
  go_wp2_with fail
  rw [Hw3.out]
  refine (dies_any w3 db nb fb _ _ _ H3.out).mono ?_
  rintro e w4 ⟨rfl, h4, hT4⟩
  have hT24 := hT2.trans (hT4.mono hT2.size fun k _ hk => HS.out k (.inl hk))
  have HA4 := HA3.out.turned hT4 (Nat.le_refl _) fun k c hk hlt _ => by
    have : k = db := hk
    omega
  have hlt4 : w2.heap.size ≤ w4.heap.size := by rw [← Hsz2.out]; exact hT4.size
  cases hdd : (diesD { d with acts := d.acts ++ [a] }).dead with
  | true =>
    have Hr := Lib.hid (does_dead hdd)
    rw [← hdd]
    rw [hdd]
    clear hdd
    go_wp2_with fail
    go_ret
    rw [Hr.out]
    refine ⟨rfl, ⟨_, h4.mono (fun k hk => ?_) (fun k hk => ?_)⟩, hT24⟩
    · rcases hk with hk | hk
      · exact .inl hk
      · exact .inr ⟨hk.1, Nat.lt_of_lt_of_le hk.2 hlt4⟩
    · rcases hk with hk | hk
      · exact Nat.lt_of_lt_of_le (HD.out.slt k hk) hT24.size
      · exact hk.2
  | false =>
    have Hr := Lib.hid (does_alive hdd)
    have hl4 : (diesD { d with acts := d.acts ++ [a] }).now.length ≤ 100000 := by
      rw [(dies_same _).1]
      exact HL.out
    have c1 : w4.cell? ⟨db, 1, none⟩ = some (.map (some nb)) := h4.cells.2.2 1 _ rfl
    have hc := Hc.out
    have HX : ∃ Q, Hid (Q = fun w5 => MapK strV Tryz.prog 9 w5 nb (doD (diesD { d with acts := d.acts ++ [a] }).now a false) ∧ w4.grownBy w5 (some nb)) ∧ Hid (Calls Tryz.prog 87 (#[.map (some nb), .bool false] ++ #[.pointer (some ⟨kn, 0, none⟩), .pointer (some ⟨kp, 0, none⟩)]) w4 fun e w5 => e = .returned (.tuple #[]) ∧ Q w5) := by
      rcases HA4 with ⟨h, _⟩ | ⟨_, _, n', p', e1, hbn, hbp⟩
      · rw [hc] at h; cases h
      · cases e1
        obtain ⟨kn', e3, _, _, _, _, hn4⟩ := hbn
        obtain ⟨kp', e4, _, _, _, _, hp4⟩ := hbp
        cases e3; cases e4
        have HW := Lib.hid (cutact_any w4 nb kn kp (diesD { d with acts := d.acts ++ [a] }).now false a h4.now hn4 hp4 hc hok.2.2.1 hl4)
        exact ⟨_, Lib.hid rfl, Lib.hid HW.out⟩
    obtain ⟨Q, HQ, HC⟩ := HX
    have H4 := Lib.hid h4
    have hok4 := Lib.hid (doD_ok false h4.ok.now hok)
    have HT24 := Lib.hid hT24
    clear h4 HA4 hT4 hT2 hT24 hc hl4
    go_wp2_with fail
    refine HC.out.mono ?_
    rintro e w5 ⟨rfl, hq⟩
    rw [HQ.out] at hq
    obtain ⟨hM, hg⟩ := hq
    go_wp2_with fail
    go_ret
    rw [Hr.out]
    have hT5 := HT24.out.trans (Turned.of_grown hg HT24.out.size fun k e _ => by cases e; exact HS.out nb (.inr (.inl rfl)))
    refine ⟨rfl, ⟨_, (H4.out.nowTurned hM hg hok4.out).mono (fun k hk => ?_) (fun k hk => ?_)⟩, hT5⟩
    · rcases hk with hk | hk
      · exact .inl hk
      · exact .inr ⟨hk.1, Nat.lt_of_lt_of_le hk.2 (Nat.le_trans hlt4 hg.size)⟩
    · rcases hk with hk | hk
      · exact Nat.lt_of_lt_of_le (HD.out.slt k hk) hT5.size
      · exact hk.2
end Go.Proofs.YtgglheelhbfgiaaGreatDoor

namespace Go.Proofs.YtgglheelhbfgiaaGreatDoor
open Go Go.RowKit Go.Lib
def sumK (es : Fls) (all : List (List UInt8)) : Nat := (all.map fun x => (hasD es (mkB x)).size).sum
theorem sumK_snoc (es : Fls) (all : List (List UInt8)) (x : List UInt8) : sumK es (all ++ [x]) = sumK es all + (hasD es (mkB x)).size := by simp [sumK]
theorem sumK_perm {es : Fls} (hn : (es.map (·.1)).Nodup) {all : List (List UInt8)} (hp : all.Perm (es.map pK)) : sumK es all = sizeF es := by
  unfold sumK sizeF
  rw [(hp.map _).sum_nat, List.map_map]
  congr 1
  refine List.map_congr_left fun x hx => ?_
  show (hasD es (mkB (pK x))).size = x.2.size
  rw [show mkB (pK x) = x.1 from mkB_of x.1, hasD_some (findK_of hn (p := x.1) (a := x.2) hx)]
theorem sumK_le {es : Fls} (h : FilesOK es) (all : List (List UInt8)) : sumK es all ≤ all.length * 4202304 := by
  induction all with
  | nil => exact Nat.zero_le _
  | cons x r ih =>
    have h2 := h.has (mkB x)
    have e : sumK es (x :: r) = (hasD es (mkB x)).size + sumK es r := rfl
    rw [e, List.length_cons]
    omega
theorem str_found {es : Fls} {x : List UInt8} {c : ByteArray} {y : DataW Unit × List MemPlace} (hv : strV.row (Value.string c) = some y) (h : ∀ zd, (datK strV es).atKey (.string x) zd = y.1) : findK es (mkB x) = some c := by
  have h1 := h (.lit (.bool true))
  rw [show (Lit.string x) = .string (mkB x).data.toList from rfl, datK_at] at h1
  have e : y = (strV.enc c, []) := by
    have hv' : strV.row (strV.val c) = some y := hv
    rw [strV.row_val c] at hv'
    exact (Option.some.inj hv').symm
  rw [e] at h1
  cases hf : findK es (mkB x) with
  | some s =>
    rw [hf] at h1
    rw [strV.enc_inj s c h1]
  | none =>
    rw [hf] at h1
    cases h1
set_option maxRecDepth 100000 in
theorem size_any (w : World) (db nb fb : Nat) (v : Value) (S : Nat → Prop) (d : Dk) (h : DAt w db nb fb v S d) (hl : d.now.length ≤ 100000) :
    Calls Tryz.prog 29 #[.pointer (some ⟨db, 0, none⟩)] w fun e w' => e = .returned (.int .i64 (sizeF d.now)) ∧ Below w.heap.size w w' := by
  have hown : w.ownsMap Tryz.prog 9 strV.row nb d.now.length (datK strV d.now) := h.now
  have c1 : w.cell? ⟨db, 1, none⟩ = some (.map (some nb)) := h.cells.2.2 1 _ rfl
  have hbl := h.now.lt
  have hdsz := datK_size strV d.now
  have HN := Lib.hid h.ok.now.nodup
  have HO := Lib.hid h.ok.now
  clear h
  generalize d.now = es at *
  go_enter Tryz.func29, Tryz.ntmps29
  go_wp2_with (at_range; refine wpList_range_own _ rfl _ 94 rfl 9 9 dkeyL Tryz.underlying94 _ nb _ _ rfl hown ?_; intro w0 hrg0 hg0 hs0)
  go_frame
  go_loopw [3, 5] (fun bs _ wr => ∃ (left : Lit → Bool) (cnt : Nat) (all : List (List UInt8)) (m : Nat), wr.ranges Tryz.prog 9 strV.row nb w.heap.size es.length (datK strV es) left cnt ∧ all.length + cnt ≤ Go.Maps.size (datK strV es) ∧
      bs = .int .i64 (m : Int) ∧ Hid (sumK es all = m) ∧ Hid (Collected (datK strV es) left all) ∧ Below w.heap.size w wr)
    (fun _ _ wr => wr.rangeLeft nb w.heap.size)
  case atStart =>
    exact ⟨_, _, [], 0, hrg0, by simp, rfl, Lib.hid rfl, Lib.hid (Collected.start _), (Below.refl _ _).grown hg0 (Nat.le_refl _) (fun j hj => by cases hj)⟩
  case round =>
    obtain ⟨left, cnt, all, m, hrg, hcs, rfl, Hm, HC, hnx⟩ := hrel
    go_wp2_with (at_next; refine wpList_next_ranges _ rfl _ rfl 9 dkeyL strV.row Value.string Value.string (fun key kl hk => by obtain ⟨x, hx, _⟩ := Go.Maps.keyOf_str Tryz.underlying9 hk; exact ⟨mkB x, hx⟩) (fun v y hv => by obtain ⟨c, rfl, _⟩ := rowStr_inv _ _ hv; exact ⟨c, rfl⟩) nb w.heap.size es.length _ _ _ rfl hrg ?_ ?_)
    · intro hc0 hl0
      have hperm : all.Perm (es.map pK) := by
        rw [← datK_keys strV]
        exact HC.out.perm hown dkeyL Tryz.underlying9 hl0
      have hne := Lib.hid (show sizeF es = m from (sumK_perm HN.out hperm).symm.trans Hm.out)
      clear hperm
      go_wp2_with fail
      go_ret
      exact ⟨by rw [hne.out]; rfl, hnx⟩
    · intro q0 c kl yd yp w2 cnt2 hkey hlk hv hat hrg2 hlt hg2 hs2 hen
      obtain ⟨x, ex, rfl, _⟩ := Go.Maps.keyOf_str Tryz.underlying9 hkey
      obtain rfl : q0 = mkB x := Value.string.inj ex
      have hfd := str_found (y := (yd, yp)) hv hat
      have hcz := HO.out.find hfd
      have Hm2 := Lib.hid (show sumK es (all ++ [x]) = m + c.size by rw [sumK_snoc, Hm.out, hasD_some hfd])
      have hle := sumK_le HO.out (all ++ [x])
      rw [Hm2.out, List.length_append, List.length_singleton] at hle
      have hmb : m + c.size ≤ 1000000000000 := by omega
      have HC2 := Lib.hid (HC.out.step hlk hat)
      have hnx2 := hnx.grown hg2 hnx.size (fun j hj => by cases hj; exact Nat.le_refl _)
      have hen2 : (Instr.entry (.pointer (some ⟨w.heap.size, 0, none⟩))).run Tryz.prog w2 = .ok (.tuple #[.string (mkB x), .string c]) w2 := hen
      have Hcs2 := Lib.hid (show (all ++ [x]).length + cnt2 ≤ Go.Maps.size (datK strV es) by rw [List.length_append]; simp only [List.length_cons, List.length_nil]; omega)
      clear hs2 hkey ex hen hat hv hfd hle
      obtain ⟨q, hq⟩ : ∃ q, mkB x = q := ⟨_, rfl⟩
      rw [hq] at hen2
      rw [hq]
      clear hq
      go_wp2_with fail
      go_roundw
      case rel => exact ⟨_, cnt2, all ++ [x], m + c.size, hrg2, Hcs2.out, by simp, Hm2, HC2, hnx2⟩
      case measure => rw [hrg2.left_eq, hrg.left_eq]; exact hlt
end Go.Proofs.YtgglheelhbfgiaaGreatDoor

namespace Go.Proofs.YtgglheelhbfgiaaGreatDoor
open Go Go.RowKit Go.Lib
/-- Behind a call on a disk. -/
def DOk (w : World) (db : Nat) (S : Nat → Prop) (d : Dk) : Prop := ∃ nb fb v, DAt w db nb fb v S d
def DGo (w : World) (db : Nat) (S : Nat → Prop) (d : Dk) (w' : World) : Prop := DOk w' db (GrowS S w w') d ∧ Turned S w.heap.size w w'
theorem DAt.go_below {w w' : World} {db nb fb : Nat} {v : Value} {S : Nat → Prop} {d : Dk} (h : DAt w db nb fb v S d) (hb : Below w.heap.size w w') : DGo w db S d w' :=
  ⟨⟨nb, fb, v, (h.below hb).mono (fun _ hk => .inl hk) fun k hk => by
    rcases hk with hk | hk
    · exact Nat.lt_of_lt_of_le (h.slt k hk) hb.size
    · exact hk.2⟩, Turned.of_below hb (Nat.le_refl _)⟩
/-- Ahead of a call that follows: S, and what has come since. -/
theorem DAt.grow {w w1 : World} {db nb fb : Nat} {v : Value} {S : Nat → Prop} {d : Dk} (h : DAt w db nb fb v S d) (hb : Below w.heap.size w w1) : DAt w1 db nb fb v (GrowS S w w1) d :=
  (h.below hb).mono (fun _ hk => .inl hk) fun k hk => by
    rcases hk with hk | hk
    · exact Nat.lt_of_lt_of_le (h.slt k hk) hb.size
    · exact hk.2
theorem DGo.back {w w1 w2 : World} {db : Nat} {S : Nat → Prop} {d : Dk} (hb : Below w.heap.size w w1) (hS : ∀ k, S k → k < w.heap.size) (h : DGo w1 db (GrowS S w w1) d w2) : DGo w db S d w2 := by
  obtain ⟨⟨nb, fb, v, h1⟩, h2⟩ := h
  have h3 : Turned S w.heap.size w w2 := ⟨h2.os.trans hb.os, h2.tape.trans hb.tape, h2.output.trans hb.output, Nat.le_trans hb.size h2.size, fun k hk hs => (h2.block k (Nat.lt_of_lt_of_le hk hb.size) fun hg => by
    rcases hg with hg | hg
    · exact hs hg
    · omega).trans (hb.block k hk)⟩
  refine ⟨⟨nb, fb, v, h1.mono (fun k hk => ?_) fun k hk => ?_⟩, h3⟩
  · rcases hk with (hk | hk) | hk
    · exact .inl hk
    · exact .inr ⟨hk.1, Nat.lt_of_lt_of_le hk.2 h2.size⟩
    · exact .inr ⟨Nat.le_trans hb.size hk.1, hk.2⟩
  · rcases hk with hk | hk
    · exact Nat.lt_of_lt_of_le (hS k hk) h3.size
    · exact hk.2
set_option maxRecDepth 100000 in
set_option maxHeartbeats 3200000 in
theorem write_any (w : World) (db nb fb : Nat) (v : Value) (S : Nat → Prop) (d : Dk) (name : ByteArray) (n : Int) (data : ByteArray) (h : DAt w db nb fb v S d) (hl : d.now.length ≤ 100000) (hal : d.acts.length ≤ 1000000000) (hdz : data.size ≤ 8000) :
    Calls Tryz.prog 21 #[.pointer (some ⟨db, 0, none⟩), .string name, .int .i64 n, .string data] w fun e w' => e = .returned (.int .i64 (writeD d name n data).2) ∧ DGo w db S (writeD d name n data).1 w' := by
  have hB3 : Below w.heap.size w (((w.alloc (.cells #[.string name] 9)).alloc (.cells #[.int .i64 n] 3)).alloc (.cells #[.string data] 9)) := (((Below.refl _ _).alloc (Nat.le_refl _) _).alloc (by simp) _).alloc (by simp; omega) _
  have hbn := ((VarAt.new w #[.string name] 9).keeps (((Below.refl (w.alloc (.cells #[.string name] 9)).heap.size (w.alloc (.cells #[.string name] 9))).alloc (Nat.le_refl _) (.cells #[.int .i64 n] 3)).alloc (by simp) (.cells #[.string data] 9)) (VarAt.new w #[.string name] 9).1).2.2 0 _ rfl
  have hbp := ((VarAt.new (w.alloc (.cells #[.string name] 9)) #[.int .i64 n] 3).keeps ((Below.refl ((w.alloc (.cells #[.string name] 9)).alloc (.cells #[.int .i64 n] 3)).heap.size ((w.alloc (.cells #[.string name] 9)).alloc (.cells #[.int .i64 n] 3))).alloc (Nat.le_refl _) (.cells #[.string data] 9)) (VarAt.new (w.alloc (.cells #[.string name] 9)) #[.int .i64 n] 3).1).2.2 0 _ rfl
  have hbd := (VarAt.new ((w.alloc (.cells #[.string name] 9)).alloc (.cells #[.int .i64 n] 3)) #[.string data] 9).2.2 0 _ rfl
  rw [World.size_alloc] at hbp
  rw [World.size_alloc, World.size_alloc] at hbd
  have hsz3 : (((w.alloc (.cells #[.string name] 9)).alloc (.cells #[.int .i64 n] 3)).alloc (.cells #[.string data] 9)).heap.size = w.heap.size + 3 := by simp
  have HD := Lib.hid h
  have hslt := Lib.hid h.slt
  have HL := Lib.hid hl
  have HAL := Lib.hid hal
  clear h hl hal
  obtain ⟨w3, hw3⟩ : ∃ w3, ((w.alloc (.cells #[.string name] 9)).alloc (.cells #[.int .i64 n] 3)).alloc (.cells #[.string data] 9) = w3 := ⟨_, rfl⟩
  have Hw3 := Lib.hid hw3
  rw [hw3] at hB3 hbn hbp hbd hsz3
  clear hw3
  have Hsz3 := Lib.hid hsz3
  clear hsz3
  have HB3 := Lib.hid hB3
  clear hB3
  go_enter Tryz.func21, Tryz.ntmps21
  go_wp2_with fail
  rw [Hw3.out]
  refine (wrong_any w3 db nb fb v _ d name n (HD.out.below HB3.out)).mono ?_
  rintro e w' ⟨rfl, rfl⟩
  by_cases hw : wrongD d name n = 0
  · obtain ⟨hdd, hn0, hn24, hk0, hklim⟩ := wrongD_ok hw
    have Hn0 := Lib.hid hn0
    obtain ⟨k, rfl⟩ : ∃ k : Nat, n = (k : Int) := ⟨n.toNat, by omega⟩
    have Hr := Lib.hid (show writeD d name (k : Int) data = if (d.limit : Int) - max ((hasD d.now name).size : Int) ((k : Int) + data.size) < (sizeF d.now : Int) - (hasD d.now name).size then (d, 41) else doesD d ⟨false, name, k, data⟩ from if_neg (by rw [hw]; decide))
    rw [hw]
    have h3 := HD.out.below HB3.out
    have c1 : w'.cell? ⟨db, 1, none⟩ = some (.map (some nb)) := h3.cells.2.2 1 _ rfl
    have c0 : w'.cell? ⟨db, 0, none⟩ = some (.int .i64 d.limit) := h3.cells.2.2 0 _ rfl
    have hlk : ∀ dq osq, (Instr.lookup 94 (.map (some nb)) (.string name) false).run Tryz.prog («Sort».grow (redrawn w' dq) osq) = .ok (.string (hasD d.now name)) («Sort».grow (redrawn w' dq) osq) := fun dq osq => MapK.look1 (t := 94) (h3.below (below_regrown w' dq osq)).now dkeyL Tryz.underlying9 Tryz.underlying94 (zeroStrD _) (p := name) (by unfold maxLen; omega)
    have q1 := cell_regrown c1
    have qn := cell_regrown hbn
    have HS := Lib.hid fun W (hW : Below w'.heap.size w' W) => size_any W db nb fb v S d (h3.below hW) HL.out
    have hhas := h3.ok.now.has name
    have hlim := h3.ok.limit
    have hszb : sizeF d.now ≤ 1000000000000 := by
      rw [← sumK_perm h3.ok.now.nodup (List.Perm.refl _)]
      refine Nat.le_trans (sumK_le h3.ok.now _) ?_
      rw [List.length_map]
      have := HL.out
      omega
    have H3 := Lib.hid h3
    clear hw h3 hdd hn0
    generalize hasD d.now name = had at *
    generalize sizeF d.now = tot at *
    go_wp2_with fail
    refine wp_region_quiet_below (by kernel_rfl) (by kernel_rfl) ?_
    repeat (go_big_quiet_step (fail))
    refine wpQuiet_nil ?_
    intro _ hw'
    obtain ⟨⟨dq, osq⟩, hw''⟩ := hw'
    subst hw''
    have hb4 := below_regrown w' dq osq
    generalize «Sort».grow (redrawn w' dq) osq = w4 at *
    have c0' : w4.cell? ⟨db, 0, none⟩ = some (.int .i64 d.limit) := (hb4.cell (block_lt_of_cell c0)).trans c0
    have q0 := cell_regrown c0'
    have qn := cell_regrown ((hb4.cell (block_lt_of_cell hbp)).trans hbp)
    have qd := cell_regrown ((hb4.cell (block_lt_of_cell hbd)).trans hbd)
    have HS4 := Lib.hid fun dq osq => HS.out («Sort».grow (redrawn w4 dq) osq) (hb4.trans ((below_regrown w4 dq osq).mono hb4.size))
    have HB4 := Lib.hid hb4
    clear q1 hlk
    have hmax : ∃ mx : Nat, max (had.size : Int) ((k : Int) + (data.size : Int)) = (mx : Int) ∧ mx ≤ 4210304 := ⟨max had.size (k + data.size), by omega, by omega⟩
    obtain ⟨mx, hmx, hmx2⟩ := hmax
    rw [hmx] at Hr
    by_cases hfull : (d.limit : Int) - (mx : Int) < (tot : Int) - (had.size : Int)
    · have Hr2 := Lib.hid (Hr.out.trans (if_pos hfull))
      have Hb4 := HB4
      clear hb4
      go_wp2_with fail
      refine wp_region_quiet_below (by kernel_rfl) (by kernel_rfl) ?_
      repeat (go_big_quiet_step (exact Calls.regrown_of (HS4.out _ _)))
      refine wpQuiet_nil ?_
      intro _ hw'
      obtain ⟨⟨dq2, osq2⟩, hw''⟩ := hw'
      subst hw''
      have hb5 := below_regrown w4 dq2 osq2
      generalize «Sort».grow (redrawn w4 dq2) osq2 = w5 at *
      clear q0 qn qd
      go_wp2_with fail
      go_ret
      have hbz := HB3.out.trans ((Hb4.out.trans (hb5.mono Hb4.out.size)).mono HB3.out.size)
      exact ⟨by rw [Hr2.out]; rfl, by rw [Hr2.out]; exact HD.out.go_below hbz⟩
    · have Hr2 := Lib.hid (Hr.out.trans (if_neg hfull))
      have Hb4 := HB4
      clear hb4
      go_wp2_with fail
      refine wp_region_quiet_below (by kernel_rfl) (by kernel_rfl) ?_
      repeat (go_big_quiet_step (exact Calls.regrown_of (HS4.out _ _)))
      refine wpQuiet_nil ?_
      intro _ hw'
      obtain ⟨⟨dq2, osq2⟩, hw''⟩ := hw'
      subst hw''
      have hb5 := below_regrown w4 dq2 osq2
      generalize «Sort».grow (redrawn w4 dq2) osq2 = w5 at *
      clear q0 qn qd
      have Hb5 := Lib.hid hb5
      clear hb5
      go_wp2_with fail
      have hbw : Below w'.heap.size w' w5 := Hb4.out.trans (Hb5.out.mono Hb4.out.size)
      have hbz := HB3.out.trans (hbw.mono HB3.out.size)
      have h5 := HD.out.grow hbz
      have hbox : ∀ (j : Nat) (c : Value), w.heap.size ≤ j → j < w'.heap.size → w'.cell? ⟨j, 0, none⟩ = some c → BoxAt w5 db v (GrowS S w w5) (.pointer (some ⟨j, 0, none⟩)) c := fun j c h1 h2 h3 =>
        ⟨j, rfl, Nat.lt_of_lt_of_le HD.out.cells.1 h1, Nat.lt_of_lt_of_le h2 hbw.size, .inr ⟨h1, Nat.lt_of_lt_of_le h2 hbw.size⟩, fun e => by
          have := HD.out.slt j (HD.out.sv j e)
          omega, (hbw.cell (p := ⟨j, 0, none⟩) h2).trans h3⟩
      have hs3 := Hsz3.out
      refine (does_write w5 db nb fb v _ d _ ⟨false, name, k, data⟩ h5 rfl (.inl ⟨rfl, rfl, _, _, _, rfl, hbox _ _ (by omega) (by omega) hbd, hbox _ _ (by omega) (by omega) hbn, hbox _ _ (by omega) (by omega) hbp⟩) ⟨by show k ≤ _; omega, hdz, hn24, Hn0.out⟩ HL.out HAL.out).mono ?_
      rintro e w6 ⟨rfl, ⟨v6, hv6⟩, hT6⟩
      go_wp2_with fail
      go_ret
      rw [Hr2.out]
      exact ⟨rfl, DGo.back hbz hslt.out ⟨⟨nb, fb, v6, hv6⟩, hT6⟩⟩
  · have Hr := Lib.hid (show writeD d name n data = (d, wrongD d name n) from if_pos hw)
    generalize wrongD d name n = r at *
    go_wp2_with fail
    go_ret
    exact ⟨by rw [Hr.out]; rfl, by rw [Hr.out]; exact HD.out.go_below HB3.out⟩
end Go.Proofs.YtgglheelhbfgiaaGreatDoor

namespace Go.Proofs.YtgglheelhbfgiaaGreatDoor
open Go Go.RowKit Go.Lib
set_option maxRecDepth 100000 in
set_option maxHeartbeats 3200000 in
theorem cut_any (w : World) (db nb fb : Nat) (v : Value) (S : Nat → Prop) (d : Dk) (name : ByteArray) (n : Int) (h : DAt w db nb fb v S d) (hl : d.now.length ≤ 100000) (hal : d.acts.length ≤ 1000000000) :
    Calls Tryz.prog 51 #[.pointer (some ⟨db, 0, none⟩), .string name, .int .i64 n] w fun e w' => e = .returned (.int .i64 (cutD d name n).2) ∧ DGo w db S (cutD d name n).1 w' := by
  have hB3 : Below w.heap.size w ((w.alloc (.cells #[.string name] 9)).alloc (.cells #[.int .i64 n] 3)) := ((Below.refl _ _).alloc (Nat.le_refl _) _).alloc (by simp) _
  have hbn := ((VarAt.new w #[.string name] 9).keeps ((Below.refl (w.alloc (.cells #[.string name] 9)).heap.size (w.alloc (.cells #[.string name] 9))).alloc (Nat.le_refl _) (.cells #[.int .i64 n] 3)) (VarAt.new w #[.string name] 9).1).2.2 0 _ rfl
  have hbp := (VarAt.new (w.alloc (.cells #[.string name] 9)) #[.int .i64 n] 3).2.2 0 _ rfl
  rw [World.size_alloc] at hbp
  have hsz3 : ((w.alloc (.cells #[.string name] 9)).alloc (.cells #[.int .i64 n] 3)).heap.size = w.heap.size + 2 := by simp
  have HD := Lib.hid h
  have hslt := Lib.hid h.slt
  have HL := Lib.hid hl
  have HAL := Lib.hid hal
  clear h hl hal
  obtain ⟨w3, hw3⟩ : ∃ w3, (w.alloc (.cells #[.string name] 9)).alloc (.cells #[.int .i64 n] 3) = w3 := ⟨_, rfl⟩
  have Hw3 := Lib.hid hw3
  rw [hw3] at hB3 hbn hbp hsz3
  clear hw3
  have Hsz3 := Lib.hid hsz3
  clear hsz3
  have HB3 := Lib.hid hB3
  clear hB3
  go_enter Tryz.func51, Tryz.ntmps51
  go_wp2_with fail
  rw [Hw3.out]
  refine (wrong_any w3 db nb fb v _ d name n (HD.out.below HB3.out)).mono ?_
  rintro e w' ⟨rfl, rfl⟩
  by_cases hw : wrongD d name n = 0
  · obtain ⟨hdd, hn0, hn24, hk0, hklim⟩ := wrongD_ok hw
    have Hn0 := Lib.hid hn0
    obtain ⟨k, rfl⟩ : ∃ k : Nat, n = (k : Int) := ⟨n.toNat, by omega⟩
    have Hr := Lib.hid (show cutD d name (k : Int) = if (findK d.now name).isNone then (d, 25) else doesD d ⟨true, name, k, noB⟩ from if_neg (by rw [hw]; decide))
    rw [hw]
    have h3 := HD.out.below HB3.out
    have c1 : w'.cell? ⟨db, 1, none⟩ = some (.map (some nb)) := h3.cells.2.2 1 _ rfl
    have hlk : ∀ dq osq, (Instr.lookup 94 (.map (some nb)) (.string name) true).run Tryz.prog («Sort».grow (redrawn w' dq) osq) = .ok (.tuple #[.string ((findK d.now name).getD noB), .bool (findK d.now name).isSome]) («Sort».grow (redrawn w' dq) osq) := fun dq osq => MapK.look (t := 94) (h3.below (below_regrown w' dq osq)).now dkeyL Tryz.underlying9 Tryz.underlying94 (zeroStrD _) (p := name) (by unfold maxLen; omega)
    have q1 := cell_regrown c1
    have qn := cell_regrown hbn
    have hlim := h3.ok.limit
    clear hw h3 hdd hn0
    cases hf : findK d.now name with
    | none =>
      have Hr2 := Lib.hid (Hr.out.trans (if_pos (by rw [hf]; rfl)))
      rw [hf] at hlk
      simp only [Option.getD_none, Option.isSome_none] at hlk
      clear hf
      go_wp2_with fail
      refine wp_region_quiet_below (by kernel_rfl) (by kernel_rfl) ?_
      repeat (go_big_quiet_step (fail))
      refine wpQuiet_nil ?_
      intro _ hw'
      obtain ⟨⟨dq, osq⟩, hw''⟩ := hw'
      subst hw''
      have hb4 := below_regrown w' dq osq
      generalize «Sort».grow (redrawn w' dq) osq = w4 at *
      clear q1 hlk
      go_wp2_with fail
      go_ret
      exact ⟨by rw [Hr2.out]; rfl, by rw [Hr2.out]; exact HD.out.go_below (HB3.out.trans (hb4.mono HB3.out.size))⟩
    | some s =>
      have Hr2 := Lib.hid (Hr.out.trans (if_neg (by rw [hf]; exact Bool.noConfusion)))
      rw [hf] at hlk
      simp only [Option.getD_some, Option.isSome_some] at hlk
      clear hf
      go_wp2_with fail
      refine wp_region_quiet_below (by kernel_rfl) (by kernel_rfl) ?_
      repeat (go_big_quiet_step (fail))
      refine wpQuiet_nil ?_
      intro _ hw'
      obtain ⟨⟨dq, osq⟩, hw''⟩ := hw'
      subst hw''
      have hb4 := below_regrown w' dq osq
      generalize «Sort».grow (redrawn w' dq) osq = w5 at *
      have Hb5 := Lib.hid hb4
      clear q1 hlk hb4
      go_wp2_with fail
      have hbw : Below w'.heap.size w' w5 := Hb5.out
      have hbz := HB3.out.trans (hbw.mono HB3.out.size)
      have h5 := HD.out.grow hbz
      have hbox : ∀ (j : Nat) (c : Value), w.heap.size ≤ j → j < w'.heap.size → w'.cell? ⟨j, 0, none⟩ = some c → BoxAt w5 db v (GrowS S w w5) (.pointer (some ⟨j, 0, none⟩)) c := fun j c h1 h2 h3 =>
        ⟨j, rfl, Nat.lt_of_lt_of_le HD.out.cells.1 h1, Nat.lt_of_lt_of_le h2 hbw.size, .inr ⟨h1, Nat.lt_of_lt_of_le h2 hbw.size⟩, fun e => by
          have := HD.out.slt j (HD.out.sv j e)
          omega, (hbw.cell (p := ⟨j, 0, none⟩) h2).trans h3⟩
      have hs3 := Hsz3.out
      refine (does_cut w5 db nb fb v _ d _ ⟨true, name, k, noB⟩ h5 rfl (.inr ⟨rfl, rfl, _, _, rfl, hbox _ _ (by omega) (by omega) hbn, hbox _ _ (by omega) (by omega) hbp⟩) ⟨by show k ≤ _; omega, by show (0 : Nat) ≤ 8000; omega, hn24, Hn0.out⟩ HL.out HAL.out).mono ?_
      rintro e w6 ⟨rfl, ⟨v6, hv6⟩, hT6⟩
      go_wp2_with fail
      go_ret
      rw [Hr2.out]
      exact ⟨rfl, DGo.back hbz hslt.out ⟨⟨nb, fb, v6, hv6⟩, hT6⟩⟩
  · have Hr := Lib.hid (show cutD d name n = (d, wrongD d name n) from if_pos hw)
    generalize wrongD d name n = r at *
    go_wp2_with fail
    go_ret
    exact ⟨by rw [Hr.out]; rfl, by rw [Hr.out]; exact HD.out.go_below HB3.out⟩
end Go.Proofs.YtgglheelhbfgiaaGreatDoor

