/-
  A disk: Write. A disk: Cut. A disk: Sync, New. Entries and acts, as they lie in memory. Of no program. A disk: Names; each call at a disk whose parts are hidden.
-/
import Derived.Test.YtgglheelhbfgiaaGreatDoorMg8
import Derived.Lib.QuietBelow
import Derived.Shelf.SlMaps.Clone
import Derived.Test.YtgglheelhbfgiaaGreatDoorMg1
import Derived.Shelf.SlIter.Keys
import Derived.Shelf.SlIter.Sorted
namespace Go.Proofs.YtgglheelhbfgiaaGreatDoor
open Go Go.RowKit Go.Lib
/-- Behind a call on a disk. -/
def DOk (w : World) (db : Nat) (S : Nat → Prop) (d : Dk) : Prop := ∃ nb fb v, DAt w db nb fb v S d
def DGo (w : World) (db : Nat) (S : Nat → Prop) (d : Dk) (w' : World) : Prop := DOk w' db (GrowS S w w') d ∧ Turned S w.heap.size w w'
theorem DAt.go_below {w w' : World} {db nb fb : Nat} {v : Value} {S : Nat → Prop} {d : Dk} (h : DAt w db nb fb v S d) (hb : Below w.heap.size w w') : DGo w db S d w' :=
  ⟨⟨nb, fb, v, (h.below hb).mono (fun _ hk => .inl hk) fun k hk => by
    rcases hk with hk | hk
    · exact Nat.lt_of_lt_of_le (h.slt k hk) hb.size
    · exact hk.2⟩, Turned.of_below hb (Nat.le_refl _)⟩
/-- Ahead of a call that follows: S, and what has come since. -/
theorem DAt.grow {w w1 : World} {db nb fb : Nat} {v : Value} {S : Nat → Prop} {d : Dk} (h : DAt w db nb fb v S d) (hb : Below w.heap.size w w1) : DAt w1 db nb fb v (GrowS S w w1) d :=
  (h.below hb).mono (fun _ hk => .inl hk) fun k hk => by
    rcases hk with hk | hk
    · exact Nat.lt_of_lt_of_le (h.slt k hk) hb.size
    · exact hk.2
theorem DGo.back {w w1 w2 : World} {db : Nat} {S : Nat → Prop} {d : Dk} (hb : Below w.heap.size w w1) (hS : ∀ k, S k → k < w.heap.size) (h : DGo w1 db (GrowS S w w1) d w2) : DGo w db S d w2 := by
  obtain ⟨⟨nb, fb, v, h1⟩, h2⟩ := h
  have h3 : Turned S w.heap.size w w2 := ⟨h2.os.trans hb.os, h2.tape.trans hb.tape, h2.output.trans hb.output, Nat.le_trans hb.size h2.size, fun k hk hs => (h2.block k (Nat.lt_of_lt_of_le hk hb.size) fun hg => by
    rcases hg with hg | hg
    · exact hs hg
    · omega).trans (hb.block k hk)⟩
  refine ⟨⟨nb, fb, v, h1.mono (fun k hk => ?_) fun k hk => ?_⟩, h3⟩
  · rcases hk with (hk | hk) | hk
    · exact .inl hk
    · exact .inr ⟨hk.1, Nat.lt_of_lt_of_le hk.2 h2.size⟩
    · exact .inr ⟨Nat.le_trans hb.size hk.1, hk.2⟩
  · rcases hk with hk | hk
    · exact Nat.lt_of_lt_of_le (hS k hk) h3.size
    · exact hk.2
set_option maxRecDepth 100000 in
set_option maxHeartbeats 3200000 in
theorem write_any (w : World) (db nb fb : Nat) (v : Value) (S : Nat → Prop) (d : Dk) (name : ByteArray) (n : Int) (data : ByteArray) (h : DAt w db nb fb v S d) (hl : d.now.length ≤ 100000) (hal : d.acts.length ≤ 1000000000) (hdz : data.size ≤ 8000) :
    Calls Tryz.prog 21 #[.pointer (some ⟨db, 0, none⟩), .string name, .int .i64 n, .string data] w fun e w' => e = .returned (.int .i64 (writeD d name n data).2) ∧ DGo w db S (writeD d name n data).1 w' := by
  have hB3 : Below w.heap.size w (((w.alloc (.cells #[.string name] 9)).alloc (.cells #[.int .i64 n] 3)).alloc (.cells #[.string data] 9)) := (((Below.refl _ _).alloc (Nat.le_refl _) _).alloc (by simp) _).alloc (by simp; omega) _
  have hbn := ((VarAt.new w #[.string name] 9).keeps (((Below.refl (w.alloc (.cells #[.string name] 9)).heap.size (w.alloc (.cells #[.string name] 9))).alloc (Nat.le_refl _) (.cells #[.int .i64 n] 3)).alloc (by simp) (.cells #[.string data] 9)) (VarAt.new w #[.string name] 9).1).2.2 0 _ rfl
  have hbp := ((VarAt.new (w.alloc (.cells #[.string name] 9)) #[.int .i64 n] 3).keeps ((Below.refl ((w.alloc (.cells #[.string name] 9)).alloc (.cells #[.int .i64 n] 3)).heap.size ((w.alloc (.cells #[.string name] 9)).alloc (.cells #[.int .i64 n] 3))).alloc (Nat.le_refl _) (.cells #[.string data] 9)) (VarAt.new (w.alloc (.cells #[.string name] 9)) #[.int .i64 n] 3).1).2.2 0 _ rfl
  have hbd := (VarAt.new ((w.alloc (.cells #[.string name] 9)).alloc (.cells #[.int .i64 n] 3)) #[.string data] 9).2.2 0 _ rfl
  rw [World.size_alloc] at hbp
  rw [World.size_alloc, World.size_alloc] at hbd
  have hsz3 : (((w.alloc (.cells #[.string name] 9)).alloc (.cells #[.int .i64 n] 3)).alloc (.cells #[.string data] 9)).heap.size = w.heap.size + 3 := by simp
  have HD := Lib.hid h
  have hslt := Lib.hid h.slt
  have HL := Lib.hid hl
  have HAL := Lib.hid hal
  clear h hl hal
  obtain ⟨w3, hw3⟩ : ∃ w3, ((w.alloc (.cells #[.string name] 9)).alloc (.cells #[.int .i64 n] 3)).alloc (.cells #[.string data] 9) = w3 := ⟨_, rfl⟩
  have Hw3 := Lib.hid hw3
  rw [hw3] at hB3 hbn hbp hbd hsz3
  clear hw3
  have Hsz3 := Lib.hid hsz3
  clear hsz3
  have HB3 := Lib.hid hB3
  clear hB3
  go_enter Tryz.func21, Tryz.ntmps21
  go_wp2_with fail
  rw [Hw3.out]
  refine (wrong_any w3 db nb fb v _ d name n (HD.out.below HB3.out)).mono ?_
  rintro e w' ⟨rfl, rfl⟩
  by_cases hw : wrongD d name n = 0
  · obtain ⟨hdd, hn0, hn24, hk0, hklim⟩ := wrongD_ok hw
    have Hn0 := Lib.hid hn0
    obtain ⟨k, rfl⟩ : ∃ k : Nat, n = (k : Int) := ⟨n.toNat, by omega⟩
    have Hr := Lib.hid (show writeD d name (k : Int) data = if (d.limit : Int) - max ((hasD d.now name).size : Int) ((k : Int) + data.size) < (sizeF d.now : Int) - (hasD d.now name).size then (d, 41) else doesD d ⟨false, name, k, data⟩ from if_neg (by rw [hw]; decide))
    rw [hw]
    have h3 := HD.out.below HB3.out
    have c1 : w'.cell? ⟨db, 1, none⟩ = some (.map (some nb)) := h3.cells.2.2 1 _ rfl
    have c0 : w'.cell? ⟨db, 0, none⟩ = some (.int .i64 d.limit) := h3.cells.2.2 0 _ rfl
    have hlk : ∀ dq osq, (Instr.lookup 94 (.map (some nb)) (.string name) false).run Tryz.prog («Sort».grow (redrawn w' dq) osq) = .ok (.string (hasD d.now name)) («Sort».grow (redrawn w' dq) osq) := fun dq osq => MapK.look1 (t := 94) (h3.below (below_regrown w' dq osq)).now dkeyL Tryz.underlying9 Tryz.underlying94 (zeroStrD _) (p := name) (by unfold maxLen; omega)
    have q1 := cell_regrown c1
    have qn := cell_regrown hbn
    have HS := Lib.hid fun W (hW : Below w'.heap.size w' W) => size_any W db nb fb v S d (h3.below hW) HL.out
    have hhas := h3.ok.now.has name
    have hlim := h3.ok.limit
    have hszb : sizeF d.now ≤ 1000000000000 := by
      rw [← sumK_perm h3.ok.now.nodup (List.Perm.refl _)]
      refine Nat.le_trans (sumK_le h3.ok.now _) ?_
      rw [List.length_map]
      have := HL.out
      omega
    have H3 := Lib.hid h3
    clear hw h3 hdd hn0
    generalize hasD d.now name = had at *
    generalize sizeF d.now = tot at *
    go_wp2_with fail
    refine wp_region_quiet_below (by kernel_rfl) (by kernel_rfl) ?_
    repeat (go_big_quiet_step (fail))
    refine wpQuiet_nil ?_
    intro _ hw'
    obtain ⟨⟨dq, osq⟩, hw''⟩ := hw'
    subst hw''
    have hb4 := below_regrown w' dq osq
    generalize «Sort».grow (redrawn w' dq) osq = w4 at *
    have c0' : w4.cell? ⟨db, 0, none⟩ = some (.int .i64 d.limit) := (hb4.cell (block_lt_of_cell c0)).trans c0
    have q0 := cell_regrown c0'
    have qn := cell_regrown ((hb4.cell (block_lt_of_cell hbp)).trans hbp)
    have qd := cell_regrown ((hb4.cell (block_lt_of_cell hbd)).trans hbd)
    have HS4 := Lib.hid fun dq osq => HS.out («Sort».grow (redrawn w4 dq) osq) (hb4.trans ((below_regrown w4 dq osq).mono hb4.size))
    have HB4 := Lib.hid hb4
    clear q1 hlk
    have hmax : ∃ mx : Nat, max (had.size : Int) ((k : Int) + (data.size : Int)) = (mx : Int) ∧ mx ≤ 4210304 := ⟨max had.size (k + data.size), by omega, by omega⟩
    obtain ⟨mx, hmx, hmx2⟩ := hmax
    rw [hmx] at Hr
    by_cases hfull : (d.limit : Int) - (mx : Int) < (tot : Int) - (had.size : Int)
    · have Hr2 := Lib.hid (Hr.out.trans (if_pos hfull))
      have Hb4 := HB4
      clear hb4
      go_wp2_with fail
      refine wp_region_quiet_below (by kernel_rfl) (by kernel_rfl) ?_
      repeat (go_big_quiet_step (exact Calls.regrown_of (HS4.out _ _)))
      refine wpQuiet_nil ?_
      intro _ hw'
      obtain ⟨⟨dq2, osq2⟩, hw''⟩ := hw'
      subst hw''
      have hb5 := below_regrown w4 dq2 osq2
      generalize «Sort».grow (redrawn w4 dq2) osq2 = w5 at *
      clear q0 qn qd
      go_wp2_with fail
      go_ret
      have hbz := HB3.out.trans ((Hb4.out.trans (hb5.mono Hb4.out.size)).mono HB3.out.size)
      exact ⟨by rw [Hr2.out]; rfl, by rw [Hr2.out]; exact HD.out.go_below hbz⟩
    · have Hr2 := Lib.hid (Hr.out.trans (if_neg hfull))
      have Hb4 := HB4
      clear hb4
      go_wp2_with fail
      refine wp_region_quiet_below (by kernel_rfl) (by kernel_rfl) ?_
      repeat (go_big_quiet_step (exact Calls.regrown_of (HS4.out _ _)))
      refine wpQuiet_nil ?_
      intro _ hw'
      obtain ⟨⟨dq2, osq2⟩, hw''⟩ := hw'
      subst hw''
      have hb5 := below_regrown w4 dq2 osq2
      generalize «Sort».grow (redrawn w4 dq2) osq2 = w5 at *
      clear q0 qn qd
      have Hb5 := Lib.hid hb5
      clear hb5
      go_wp2_with fail
      have hbw : Below w'.heap.size w' w5 := Hb4.out.trans (Hb5.out.mono Hb4.out.size)
      have hbz := HB3.out.trans (hbw.mono HB3.out.size)
      have h5 := HD.out.grow hbz
      have hbox : ∀ (j : Nat) (c : Value), w.heap.size ≤ j → j < w'.heap.size → w'.cell? ⟨j, 0, none⟩ = some c → BoxAt w5 db v (GrowS S w w5) (.pointer (some ⟨j, 0, none⟩)) c := fun j c h1 h2 h3 =>
        ⟨j, rfl, Nat.lt_of_lt_of_le HD.out.cells.1 h1, Nat.lt_of_lt_of_le h2 hbw.size, .inr ⟨h1, Nat.lt_of_lt_of_le h2 hbw.size⟩, fun e => by
          have := HD.out.slt j (HD.out.sv j e)
          omega, (hbw.cell (p := ⟨j, 0, none⟩) h2).trans h3⟩
      have hs3 := Hsz3.out
      refine (does_write w5 db nb fb v _ d _ ⟨false, name, k, data⟩ h5 rfl (.inl ⟨rfl, rfl, _, _, _, rfl, hbox _ _ (by omega) (by omega) hbd, hbox _ _ (by omega) (by omega) hbn, hbox _ _ (by omega) (by omega) hbp⟩) ⟨by show k ≤ _; omega, hdz, hn24, Hn0.out⟩ HL.out HAL.out).mono ?_
      rintro e w6 ⟨rfl, ⟨v6, hv6⟩, hT6⟩
      go_wp2_with fail
      go_ret
      rw [Hr2.out]
      exact ⟨rfl, DGo.back hbz hslt.out ⟨⟨nb, fb, v6, hv6⟩, hT6⟩⟩
  · have Hr := Lib.hid (show writeD d name n data = (d, wrongD d name n) from if_pos hw)
    generalize wrongD d name n = r at *
    go_wp2_with fail
    go_ret
    exact ⟨by rw [Hr.out]; rfl, by rw [Hr.out]; exact HD.out.go_below HB3.out⟩
end Go.Proofs.YtgglheelhbfgiaaGreatDoor

namespace Go.Proofs.YtgglheelhbfgiaaGreatDoor
open Go Go.RowKit Go.Lib
set_option maxRecDepth 100000 in
set_option maxHeartbeats 3200000 in
theorem cut_any (w : World) (db nb fb : Nat) (v : Value) (S : Nat → Prop) (d : Dk) (name : ByteArray) (n : Int) (h : DAt w db nb fb v S d) (hl : d.now.length ≤ 100000) (hal : d.acts.length ≤ 1000000000) :
    Calls Tryz.prog 51 #[.pointer (some ⟨db, 0, none⟩), .string name, .int .i64 n] w fun e w' => e = .returned (.int .i64 (cutD d name n).2) ∧ DGo w db S (cutD d name n).1 w' := by
  have hB3 : Below w.heap.size w ((w.alloc (.cells #[.string name] 9)).alloc (.cells #[.int .i64 n] 3)) := ((Below.refl _ _).alloc (Nat.le_refl _) _).alloc (by simp) _
  have hbn := ((VarAt.new w #[.string name] 9).keeps ((Below.refl (w.alloc (.cells #[.string name] 9)).heap.size (w.alloc (.cells #[.string name] 9))).alloc (Nat.le_refl _) (.cells #[.int .i64 n] 3)) (VarAt.new w #[.string name] 9).1).2.2 0 _ rfl
  have hbp := (VarAt.new (w.alloc (.cells #[.string name] 9)) #[.int .i64 n] 3).2.2 0 _ rfl
  rw [World.size_alloc] at hbp
  have hsz3 : ((w.alloc (.cells #[.string name] 9)).alloc (.cells #[.int .i64 n] 3)).heap.size = w.heap.size + 2 := by simp
  have HD := Lib.hid h
  have hslt := Lib.hid h.slt
  have HL := Lib.hid hl
  have HAL := Lib.hid hal
  clear h hl hal
  obtain ⟨w3, hw3⟩ : ∃ w3, (w.alloc (.cells #[.string name] 9)).alloc (.cells #[.int .i64 n] 3) = w3 := ⟨_, rfl⟩
  have Hw3 := Lib.hid hw3
  rw [hw3] at hB3 hbn hbp hsz3
  clear hw3
  have Hsz3 := Lib.hid hsz3
  clear hsz3
  have HB3 := Lib.hid hB3
  clear hB3
  go_enter Tryz.func51, Tryz.ntmps51
  go_wp2_with fail
  rw [Hw3.out]
  refine (wrong_any w3 db nb fb v _ d name n (HD.out.below HB3.out)).mono ?_
  rintro e w' ⟨rfl, rfl⟩
  by_cases hw : wrongD d name n = 0
  · obtain ⟨hdd, hn0, hn24, hk0, hklim⟩ := wrongD_ok hw
    have Hn0 := Lib.hid hn0
    obtain ⟨k, rfl⟩ : ∃ k : Nat, n = (k : Int) := ⟨n.toNat, by omega⟩
    have Hr := Lib.hid (show cutD d name (k : Int) = if (findK d.now name).isNone then (d, 25) else doesD d ⟨true, name, k, noB⟩ from if_neg (by rw [hw]; decide))
    rw [hw]
    have h3 := HD.out.below HB3.out
    have c1 : w'.cell? ⟨db, 1, none⟩ = some (.map (some nb)) := h3.cells.2.2 1 _ rfl
    have hlk : ∀ dq osq, (Instr.lookup 94 (.map (some nb)) (.string name) true).run Tryz.prog («Sort».grow (redrawn w' dq) osq) = .ok (.tuple #[.string ((findK d.now name).getD noB), .bool (findK d.now name).isSome]) («Sort».grow (redrawn w' dq) osq) := fun dq osq => MapK.look (t := 94) (h3.below (below_regrown w' dq osq)).now dkeyL Tryz.underlying9 Tryz.underlying94 (zeroStrD _) (p := name) (by unfold maxLen; omega)
    have q1 := cell_regrown c1
    have qn := cell_regrown hbn
    have hlim := h3.ok.limit
    clear hw h3 hdd hn0
    cases hf : findK d.now name with
    | none =>
      have Hr2 := Lib.hid (Hr.out.trans (if_pos (by rw [hf]; rfl)))
      rw [hf] at hlk
      simp only [Option.getD_none, Option.isSome_none] at hlk
      clear hf
      go_wp2_with fail
      refine wp_region_quiet_below (by kernel_rfl) (by kernel_rfl) ?_
      repeat (go_big_quiet_step (fail))
      refine wpQuiet_nil ?_
      intro _ hw'
      obtain ⟨⟨dq, osq⟩, hw''⟩ := hw'
      subst hw''
      have hb4 := below_regrown w' dq osq
      generalize «Sort».grow (redrawn w' dq) osq = w4 at *
      clear q1 hlk
      go_wp2_with fail
      go_ret
      exact ⟨by rw [Hr2.out]; rfl, by rw [Hr2.out]; exact HD.out.go_below (HB3.out.trans (hb4.mono HB3.out.size))⟩
    | some s =>
      have Hr2 := Lib.hid (Hr.out.trans (if_neg (by rw [hf]; exact Bool.noConfusion)))
      rw [hf] at hlk
      simp only [Option.getD_some, Option.isSome_some] at hlk
      clear hf
      go_wp2_with fail
      refine wp_region_quiet_below (by kernel_rfl) (by kernel_rfl) ?_
      repeat (go_big_quiet_step (fail))
      refine wpQuiet_nil ?_
      intro _ hw'
      obtain ⟨⟨dq, osq⟩, hw''⟩ := hw'
      subst hw''
      have hb4 := below_regrown w' dq osq
      generalize «Sort».grow (redrawn w' dq) osq = w5 at *
      have Hb5 := Lib.hid hb4
      clear q1 hlk hb4
      go_wp2_with fail
      have hbw : Below w'.heap.size w' w5 := Hb5.out
      have hbz := HB3.out.trans (hbw.mono HB3.out.size)
      have h5 := HD.out.grow hbz
      have hbox : ∀ (j : Nat) (c : Value), w.heap.size ≤ j → j < w'.heap.size → w'.cell? ⟨j, 0, none⟩ = some c → BoxAt w5 db v (GrowS S w w5) (.pointer (some ⟨j, 0, none⟩)) c := fun j c h1 h2 h3 =>
        ⟨j, rfl, Nat.lt_of_lt_of_le HD.out.cells.1 h1, Nat.lt_of_lt_of_le h2 hbw.size, .inr ⟨h1, Nat.lt_of_lt_of_le h2 hbw.size⟩, fun e => by
          have := HD.out.slt j (HD.out.sv j e)
          omega, (hbw.cell (p := ⟨j, 0, none⟩) h2).trans h3⟩
      have hs3 := Hsz3.out
      refine (does_cut w5 db nb fb v _ d _ ⟨true, name, k, noB⟩ h5 rfl (.inr ⟨rfl, rfl, _, _, rfl, hbox _ _ (by omega) (by omega) hbn, hbox _ _ (by omega) (by omega) hbp⟩) ⟨by show k ≤ _; omega, by show (0 : Nat) ≤ 8000; omega, hn24, Hn0.out⟩ HL.out HAL.out).mono ?_
      rintro e w6 ⟨rfl, ⟨v6, hv6⟩, hT6⟩
      go_wp2_with fail
      go_ret
      rw [Hr2.out]
      exact ⟨rfl, DGo.back hbz hslt.out ⟨⟨nb, fb, v6, hv6⟩, hT6⟩⟩
  · have Hr := Lib.hid (show cutD d name n = (d, wrongD d name n) from if_pos hw)
    generalize wrongD d name n = r at *
    go_wp2_with fail
    go_ret
    exact ⟨by rw [Hr.out]; rfl, by rw [Hr.out]; exact HD.out.go_below HB3.out⟩
end Go.Proofs.YtgglheelhbfgiaaGreatDoor

namespace Go.Proofs.YtgglheelhbfgiaaGreatDoor
open Go Go.RowKit Go.Lib
theorem dclone_any (b : Nat) (rows : Array MapEntry) (clock : Nat) (w : World) (hb : w.heap[b]? = some (.map rows clock)) : Calls Tryz.prog 71 #[.map (some b)] w fun e w' => e = .returned (.map (some w.heap.size)) ∧ w' = w.alloc (.map rows clock) :=
  AnyW.maps_Clone Tryz.clone71 b rows clock w hb
theorem sync_dead {d : Dk} (h : d.dead = true) : syncD d = (d, 42) := if_pos h
theorem sync_dies {d : Dk} (h : d.dead = false) (h2 : (diesD d).dead = true) : syncD d = (diesD d, 42) := by
  unfold syncD
  rw [if_neg (by rw [h]; exact Bool.noConfusion), if_pos h2]
theorem sync_ok {d : Dk} (h : d.dead = false) (h2 : (diesD d).dead = false) : syncD d = ({ diesD d with firm := d.now, acts := [] }, 0) := by
  unfold syncD
  rw [if_neg (by rw [h]; exact Bool.noConfusion), if_neg (by rw [h2]; exact Bool.noConfusion)]
theorem DGo.turned {w w' : World} {db nb fb : Nat} {v : Value} {S : Nat → Prop} {d d' : Dk} (h : DAt w db nb fb v S d) (h' : DAt w' db nb fb v S d') (ht : Turned (fun j => j = db) w.heap.size w w') : DGo w db S d' w' :=
  ⟨⟨nb, fb, v, h'.mono (fun _ hk => .inl hk) fun k hk => by
    rcases hk with hk | hk
    · exact h'.slt k hk
    · exact hk.2⟩, ht.mono (Nat.le_refl _) fun k _ hk => by
    have : k = db := hk
    rw [this]
    exact h.sdb⟩
set_option maxRecDepth 100000 in
set_option maxHeartbeats 3200000 in
theorem sync_any (w : World) (db nb fb : Nat) (v : Value) (S : Nat → Prop) (d : Dk) (h : DAt w db nb fb v S d) :
    Calls Tryz.prog 52 #[.pointer (some ⟨db, 0, none⟩)] w fun e w' => e = .returned (.int .i64 (syncD d).2) ∧ DGo w db S (syncD d).1 w' := by
  have c5 : w.cell? ⟨db, 5, none⟩ = some (.bool d.dead) := h.cells.2.2 5 _ rfl
  obtain ⟨fs, ho, _⟩ := h.acts
  obtain ⟨aa, ac, rfl, _, _⟩ := ho.read
  clear ho
  have HD := Lib.hid h
  have hdb := h.cells.1
  clear h
  cases hd : d.dead with
  | true =>
    have Hr := Lib.hid (sync_dead hd)
    rw [hd] at c5
    clear hd
    go_enter Tryz.func52, Tryz.ntmps52
    go_wp2_with fail
    go_ret
    rw [Hr.out]
    exact ⟨rfl, HD.out.go_below (Below.refl _ _)⟩
  | false =>
    rw [hd] at c5
    cases h2 : (diesD d).dead with
    | true =>
      have Hr := Lib.hid (sync_dies hd h2)
      have HV := Lib.hid ((dies_any w db nb fb _ S d HD.out))
      rw [h2] at HV
      clear hd h2
      go_enter Tryz.func52, Tryz.ntmps52
      go_wp2_with fail
      refine HV.out.mono ?_
      rintro e w1 ⟨rfl, h1, hT1⟩
      have H1 := Lib.hid h1
      have HT1 := Lib.hid hT1
      clear h1 hT1
      go_wp2_with fail
      go_ret
      rw [Hr.out]
      exact ⟨rfl, DGo.turned HD.out H1.out HT1.out⟩
    | false =>
      have Hr := Lib.hid (sync_ok hd h2)
      have HV := Lib.hid ((dies_any w db nb fb _ S d HD.out))
      rw [h2] at HV
      clear hd h2
      go_enter Tryz.func52, Tryz.ntmps52
      go_wp2_with fail
      refine HV.out.mono ?_
      rintro e w1 ⟨rfl, h1, hT1⟩
      have H1 := Lib.hid h1
      have HT1 := Lib.hid hT1
      have k1 : w1.cell? ⟨db, 1, none⟩ = some (.map (some nb)) := h1.cells.2.2 1 _ rfl
      have k2 : w1.cell? ⟨db, 2, none⟩ = some (.map (some fb)) := h1.cells.2.2 2 _ rfl
      have k3 : w1.cell? ⟨db, 3, none⟩ = some (.slice aa fs.length ac) := h1.cells.2.2 3 _ rfl
      have hdb1 := h1.cells.1
      obtain ⟨rows, clock, hb, hcopy⟩ := h1.now.copy
      have Hcopy := Lib.hid hcopy
      have f2 := h1.cells.2.1 2
      have f3 := h1.cells.2.1 3
      clear h1 hT1 hcopy
      go_wp2_with fail
      refine (dclone_any nb rows clock w1 hb).mono ?_
      rintro e w2 ⟨rfl, rfl⟩
      go_wp2_with fail
      go_ret
      rw [Hr.out]
      have hh1 := H1.out
      have hs2 : ((w1.setCell ⟨db, 2, none⟩ (.map (some w1.heap.size))).setCell ⟨db, 3, none⟩ (.slice none 0 0)).heap.size = w1.heap.size := by simp
      have hblk : ∀ k, k < w1.heap.size → k ≠ db → (((w1.setCell ⟨db, 2, none⟩ (.map (some w1.heap.size))).setCell ⟨db, 3, none⟩ (.slice none 0 0)).alloc (.map rows clock)).heap[k]? = w1.heap[k]? := fun k hk hne =>
        (Below.heap_alloc _ _ k (by rw [hs2]; exact hk)).trans ((heap_other _ _ hne).trans (heap_other _ _ hne))
      have hnew : (((w1.setCell ⟨db, 2, none⟩ (.map (some w1.heap.size))).setCell ⟨db, 3, none⟩ (.slice none 0 0)).alloc (.map rows clock)).heap[w1.heap.size]? = some (.map rows clock) := by
        have := (MapKept.heap_alloc ((w1.setCell ⟨db, 2, none⟩ (.map (some w1.heap.size))).setCell ⟨db, 3, none⟩ (.slice none 0 0)) (.map rows clock)).1
        rw [hs2] at this
        exact this
      have hsz : (((w1.setCell ⟨db, 2, none⟩ (.map (some w1.heap.size))).setCell ⟨db, 3, none⟩ (.slice none 0 0)).alloc (.map rows clock)).heap.size = w1.heap.size + 1 := by simp
      have hT2 : Turned S w.heap.size w (((w1.setCell ⟨db, 2, none⟩ (.map (some w1.heap.size))).setCell ⟨db, 3, none⟩ (.slice none 0 0)).alloc (.map rows clock)) := (((HT1.out.mono (Nat.le_refl _) fun k _ hk => (by have e : k = db := hk; rw [e]; exact HD.out.sdb)).set 2 _ fun _ => HD.out.sdb).set 3 _ fun _ => HD.out.sdb).alloc (by rw [hs2]; exact HT1.out.size) _
      refine ⟨rfl, ⟨nb, w1.heap.size, .slice none 0 0, ?_⟩, hT2⟩
      have hsame := dies_same d
      have hfirm := Hcopy.out _ _ hnew
      rw [hsame.1] at hfirm
      have hns := hh1.nbdb
      have hslt := hh1.slt
      have hnb := hh1.now.lt
      refine ⟨?_, hh1.now.same (hblk nb hnb (by omega)), hfirm, hns, by omega, by omega, ⟨[], OwnRows.nil _ _ _ _, .nil⟩, .inl hh1.sdb, .inl hh1.snb, .inr ⟨HT1.out.size, by omega⟩, fun k hk => (by cases hk), fun k hk => ?_, ⟨hh1.ok.limit, hh1.ok.now, HD.out.ok.now, fun a ha => (by cases ha)⟩⟩
      · exact ((hh1.cells.set 2 (.map (some w1.heap.size)) (by simp [diskCells])).set 3 (.slice none 0 0) (by simp [diskCells])).keeps ((Below.refl _ _).alloc (Nat.le_refl _) _) (by rw [hs2]; exact hdb1)
      · rcases hk with hk | hk
        · have := hslt k hk
          omega
        · exact hk.2
set_option maxRecDepth 100000 in
theorem new_any (w : World) (n : Nat) (h0 : 1 ≤ n) (h1 : n ≤ 4194304) :
    Calls Tryz.prog 13 #[.int .i64 n] w fun e w' => e = .returned (.tuple #[.pointer (some ⟨w.heap.size + 2, 0, none⟩), .int .i64 0]) ∧ DOk w' (w.heap.size + 2) (fun k => w.heap.size ≤ k ∧ k < w'.heap.size) (newD n) ∧ Below w.heap.size w w' := by
  have hmm := @run_makeMap Tryz.prog
  have d1 : ¬ ((n : Int) < 1) := by omega
  have d2 : (n : Int) ≤ 16777216 := by omega
  have d3 : ¬ ((n : Int) > 16777216) := by omega
  go_enter Tryz.func13, Tryz.ntmps13
  go_wp2_with fail
  go_ret2
  have hb : Below w.heap.size w (((w.alloc (.map #[] 0)).alloc (.map #[] 0)).alloc (.cells #[.int .i64 n, .map (some w.heap.size), .map (some (w.heap.size + 1)), .slice none 0 0, .int .i64 0, .bool false] 97)) := (((Below.refl _ _).alloc (Nat.le_refl _) _).alloc (by simp) _).alloc (by simp; omega) _
  have hV := VarAt.new ((w.alloc (.map #[] 0)).alloc (.map #[] 0)) #[.int .i64 n, .map (some w.heap.size), .map (some (w.heap.size + 1)), .slice none 0 0, .int .i64 0, .bool false] 97
  have hM1 := ((MapK.made (K := strV) (P := Tryz.prog) (k := 9) w).keeps ((Below.refl _ _).alloc (Nat.le_refl _) (.map #[] 0)) (MapK.made (K := strV) (P := Tryz.prog) (k := 9) w).lt).keeps ((Below.refl _ _).alloc (Nat.le_refl _) (.cells #[.int .i64 n, .map (some w.heap.size), .map (some (w.heap.size + 1)), .slice none 0 0, .int .i64 0, .bool false] 97)) (by simp; omega)
  have hM2 := (MapK.made (K := strV) (P := Tryz.prog) (k := 9) (w.alloc (.map #[] 0))).keeps ((Below.refl _ _).alloc (Nat.le_refl _) (.cells #[.int .i64 n, .map (some w.heap.size), .map (some (w.heap.size + 1)), .slice none 0 0, .int .i64 0, .bool false] 97)) (by simp)
  rw [World.size_alloc] at hM2
  rw [World.size_alloc, World.size_alloc] at hV
  have hsz : (((w.alloc (.map #[] 0)).alloc (.map #[] 0)).alloc (.cells #[.int .i64 n, .map (some w.heap.size), .map (some (w.heap.size + 1)), .slice none 0 0, .int .i64 0, .bool false] 97)).heap.size = w.heap.size + 3 := by simp
  exact ⟨rfl, ⟨w.heap.size, w.heap.size + 1, .slice none 0 0, hV, hM1, hM2, by omega, by omega, by omega, ⟨[], OwnRows.nil _ _ _ _, .nil⟩, ⟨by omega, by omega⟩, ⟨by omega, by omega⟩, ⟨by omega, by omega⟩, fun k hk => (by cases hk), fun k hk => hk.2, DkOK.new h1⟩, hb⟩
end Go.Proofs.YtgglheelhbfgiaaGreatDoor

namespace Go.Proofs.YtgglheelhbfgiaaGreatDoor
open Go Go.RowKit

structure Ent where
  path : ByteArray
  id : Int
  dir : Bool
  data : ByteArray
def Ent.cells (x : Ent) : List Value := [.string x.path, .int .i64 x.id, .bool x.dir, .string x.data]
def Ent.val (x : Ent) : Value := .agg #[.string x.path, .int .i64 x.id, .bool x.dir, .string x.data]
def entLay : Lay Ent := { sz := 4, cells := Ent.cells, len := fun _ => rfl, one := fun x v hv => by simp only [Ent.cells, List.mem_cons, List.mem_nil_iff, or_false] at hv; rcases hv with rfl | rfl | rfl | rfl <;> rfl }
def noEnt : Ent := ⟨⟨#[]⟩, 0, false, ⟨#[]⟩⟩
/-- The four cells of an entry that is read. -/
theorem ent_at {w : World} {a : Option Addr} {xs : List Ent} (h : RowsAt entLay w a xs) {k : Nat} {x : Ent} (hk : xs[k]? = some x) : ∃ b off, a = some ⟨b, off, none⟩ ∧ b < w.heap.size ∧
    w.cell? ⟨b, off + k * 4, none⟩ = some (.string x.path) ∧ w.cell? ⟨b, off + k * 4 + 1, none⟩ = some (.int .i64 x.id) ∧ w.cell? ⟨b, off + k * 4 + 2, none⟩ = some (.bool x.dir) ∧ w.cell? ⟨b, off + k * 4 + 3, none⟩ = some (.string x.data) := by
  obtain ⟨b, off, e, hlt, hc⟩ := h k x hk
  exact ⟨b, off, e, hlt, hc 0 _ rfl, hc 1 _ rfl, hc 2 _ rfl, hc 3 _ rfl⟩

/-- Texts, as they lie in memory. -/
def strLay : Lay ByteArray := { sz := 1, cells := fun s => [.string s], len := fun _ => rfl, one := fun x v hv => by simp only [List.mem_cons, List.mem_nil_iff, or_false] at hv; rw [hv]; rfl }
theorem str_at {w : World} {a : Option Addr} {xs : List ByteArray} (h : RowsAt strLay w a xs) {k : Nat} {x : ByteArray} (hk : xs[k]? = some x) : ∃ b off, a = some ⟨b, off, none⟩ ∧ b < w.heap.size ∧ w.cell? ⟨b, off + k, none⟩ = some (.string x) := by
  obtain ⟨b, off, e, hlt, hc⟩ := h k x hk
  have := hc 0 _ rfl
  refine ⟨b, off, e, hlt, ?_⟩
  simpa [strLay] using this

structure Act3 where
  kind : Int
  path : ByteArray
  data : ByteArray
def Act3.cells (x : Act3) : List Value := [.int .i64 x.kind, .string x.path, .string x.data]
def act3Lay : Lay Act3 := { sz := 3, cells := Act3.cells, len := fun _ => rfl, one := fun x v hv => by simp only [Act3.cells, List.mem_cons, List.mem_nil_iff, or_false] at hv; rcases hv with rfl | rfl | rfl <;> rfl }
theorem act3_at {w : World} {a : Option Addr} {xs : List Act3} (h : RowsAt act3Lay w a xs) {k : Nat} {x : Act3} (hk : xs[k]? = some x) : ∃ b off, a = some ⟨b, off, none⟩ ∧ b < w.heap.size ∧
    w.cell? ⟨b, off + k * 3, none⟩ = some (.int .i64 x.kind) ∧ w.cell? ⟨b, off + k * 3 + 1, none⟩ = some (.string x.path) ∧ w.cell? ⟨b, off + k * 3 + 2, none⟩ = some (.string x.data) := by
  obtain ⟨b, off, e, hlt, hc⟩ := h k x hk
  exact ⟨b, off, e, hlt, hc 0 _ rfl, hc 1 _ rfl, hc 2 _ rfl⟩
theorem Act3.ext' {x y : Act3} (h1 : x.kind = y.kind) (h2 : x.path = y.path) (h3 : x.data = y.data) : x = y := by
  cases x; cases y; simp_all
instance : DecidableEq Act3 := fun x y => decidable_of_iff (x.kind = y.kind ∧ x.path = y.path ∧ x.data = y.data) ⟨fun h => Act3.ext' h.1 h.2.1 h.2.2, fun h => by rw [h]; exact ⟨rfl, rfl, rfl⟩⟩
end Go.Proofs.YtgglheelhbfgiaaGreatDoor

namespace Go.Proofs.YtgglheelhbfgiaaGreatDoor
open Go Go.RowKit Go.Lib Go.Sort Go.Shelf
theorem dsortsA (m : Nat) : AnyZ.SortsIn Tryz.prog Tryz.sorted58_ren Fence.wide m :=
  ⟨fun blk off cap ss W hH hblk hsz => callsIn_wide.2 (Tryz.slices_Sort_string blk off cap ss W hH hblk hsz),
   fun p cap W => callsIn_wide.2 (Tryz.slices_Sort_string_none p cap W)⟩
theorem dkeys_any (mb : Nat) (W : World) : Calls Tryz.prog 59 #[.map (some mb)] W fun e w' => e = .returned (.func (.func 94) #[] #[.pointer (some ⟨W.heap.size, 0, none⟩)]) ∧ W.alloc (.cells #[.map (some mb)] 94) = w' :=
  ((callsIn_wide (n := 5)).1 (AnyZ.keys_in Tryz.keys59 Fence.wide 5 trivial rfl (some mb) W)).mono fun _ _ h => ⟨h.1, h.2.symm⟩
theorem flat_strK (l : List ByteArray) : flat strLay l = l.map Value.string := by
  induction l with
  | nil => rfl
  | cons x r ih =>
    have e : flat strLay (x :: r) = [Value.string x] ++ flat strLay r := rfl
    rw [e, ih]
    rfl
theorem dkeys_rows {es : Fls} (hr : RisK es) {ss : List (List UInt8)} (h : ss.Perm (es.map pK)) : (ss.mergeSort fun x y => decide (x ≤ y)).map encStr = flat strLay (es.map (·.1)) := by
  have h1 : ss.mergeSort (fun x y => decide (x ≤ y)) = es.map pK := (mergeSort_of_perm h).trans (ris_sorted hr)
  rw [h1, flat_strK, List.map_map, List.map_map]
  refine List.map_congr_left fun x _ => ?_
  show Value.string (mkB x.1.data.toList) = Value.string x.1
  rw [mkB_of]
set_option maxHeartbeats 1000000 in
theorem dsorted_any (mb : Nat) (es : Fls) (W : World) (h : MapK strV Tryz.prog 9 W mb es) (hr : RisK es) (hl : es.length ≤ 100000) :
    Calls Tryz.prog 58 #[.func (.func 94) #[] #[.pointer (some ⟨W.heap.size, 0, none⟩)]] (W.alloc (.cells #[.map (some mb)] 94)) fun e w' =>
      ∃ v, e = .returned v ∧ OwnRows strLay w' W.heap.size 9 v (es.map (·.1)) ∧ Below W.heap.size W w' := by
  have hown : W.ownsMap Tryz.prog 9 strV.row mb es.length (datK strV es) := h
  have hbl := h.lt
  have hsz := datK_size strV es
  have hseq : SeqGives Fence.wide 2 Tryz.prog 94 #[.pointer (some ⟨W.heap.size, 0, none⟩)] encStr (fun ss => ss.Perm (strKeys (datK strV es))) (Go.Maps.size (datK strV es)) (W.alloc (.cells #[.map (some mb)] 94)) :=
    AnyZ.keys_gives (ρ := Tryz.keys59_ren) { Tryz.keys59 with } Fence.wide _ trivial rfl (by omega) W.heap.size mb es.length (datK strV es) _ (by simp) (by simp) (by
      obtain ⟨es', clock, hb, Ft, hs, hD⟩ := hown
      exact ⟨es', clock, (Below.heap_alloc _ _ mb hbl).trans hb, Ft, hs, hD⟩)
  have cS := AnyZ.sorted_in Tryz.sorted58 Fence.wide 5 trivial trivial trivial trivial rfl (by omega) (dsortsA _) (enters_of Tryz.func93 (by kernel_rfl) rfl) 94 #[.pointer (some ⟨W.heap.size, 0, none⟩)] trivial (enters_of Tryz.func94 (by kernel_rfl) rfl) _ _ (by rw [hsz]; unfold maxLen; omega) (by rw [hsz]; omega) _ hseq
  change CallsIn _ _ Tryz.prog 58 _ _ _ at cS
  refine ((callsIn_wide (n := 5)).1 cS).mono ?_
  rintro e w' ⟨v, ss, rfl, hS, hrow, hnil, hb⟩
  rw [datK_keys] at hS
  refine ⟨v, rfl, ?_, ((Below.refl _ W).alloc (Nat.le_refl _) _).trans (hb.mono (by simp))⟩
  have hlen : ss.length = (es.map (·.1)).length := by rw [hS.length_eq, List.length_map, List.length_map]
  have h2 : OwnRows strLay w' (W.alloc (.cells #[.map (some mb)] 94)).heap.size 9 v (es.map (·.1)) := by
    unfold OwnRows
    rw [← dkeys_rows hr hS, ← hlen]
    exact hrow
  exact h2.lower (by simp)
set_option maxRecDepth 100000 in
theorem names_any (w : World) (db nb fb : Nat) (v : Value) (S : Nat → Prop) (d : Dk) (h : DAt w db nb fb v S d) (hl : d.now.length ≤ 100000) :
    Calls Tryz.prog 14 #[.pointer (some ⟨db, 0, none⟩)] w fun e w' => ∃ u, e = .returned u ∧ OwnRows strLay w' w.heap.size 9 u (namesD d) ∧ Below w.heap.size w w' := by
  have c1 : w.cell? ⟨db, 1, none⟩ = some (.map (some nb)) := h.cells.2.2 1 _ rfl
  have HK := Lib.hid (dkeys_any nb w)
  have HS := Lib.hid (dsorted_any nb d.now w h.now h.ok.now.rise hl)
  clear h
  go_enter Tryz.func14, Tryz.ntmps14
  go_wp2_with fail
  refine HK.out.mono ?_
  rintro e w1 ⟨rfl, rfl⟩
  go_wp2_with fail
  refine HS.out.mono ?_
  rintro e w2 ⟨u, rfl, ho, hb⟩
  go_wp2_with fail
  go_ret
  exact ⟨u, rfl, ho, hb⟩
/-! ### whose parts are hidden -/
theorem DOk.foreign {w w' : World} {db : Nat} {S T : Nat → Prop} {d : Dk} (h : DOk w db S d) (ht : Turned T w.heap.size w w') (hT : ∀ k, T k → ¬ S k) : DOk w' db S d := by
  obtain ⟨nb, fb, v, h⟩ := h
  exact ⟨nb, fb, v, h.foreign ht hT⟩
theorem DOk.below {w w' : World} {db : Nat} {S : Nat → Prop} {d : Dk} (h : DOk w db S d) (hb : Below w.heap.size w w') : DOk w' db S d := by
  obtain ⟨nb, fb, v, h⟩ := h
  exact ⟨nb, fb, v, h.below hb⟩
theorem DOk.mono {w : World} {db : Nat} {S S' : Nat → Prop} {d : Dk} (h : DOk w db S d) (hS : ∀ k, S k → S' k) (hl : ∀ k, S' k → k < w.heap.size) : DOk w db S' d := by
  obtain ⟨nb, fb, v, h⟩ := h
  exact ⟨nb, fb, v, h.mono hS hl⟩
theorem DOk.slt {w : World} {db : Nat} {S : Nat → Prop} {d : Dk} (h : DOk w db S d) : ∀ k, S k → k < w.heap.size := by
  obtain ⟨nb, fb, v, h⟩ := h
  exact h.slt
theorem DOk.sdb {w : World} {db : Nat} {S : Nat → Prop} {d : Dk} (h : DOk w db S d) : S db := by
  obtain ⟨nb, fb, v, h⟩ := h
  exact h.sdb
theorem DOk.ok {w : World} {db : Nat} {S : Nat → Prop} {d : Dk} (h : DOk w db S d) : DkOK d := by
  obtain ⟨nb, fb, v, h⟩ := h
  exact h.ok
theorem DOk.lt {w : World} {db : Nat} {S : Nat → Prop} {d : Dk} (h : DOk w db S d) : db < w.heap.size := h.slt _ h.sdb
theorem ddead_any {w : World} {db : Nat} {S : Nat → Prop} {d : Dk} (h : DOk w db S d) : Calls Tryz.prog 26 #[.pointer (some ⟨db, 0, none⟩)] w fun e w' => e = .returned (.bool d.dead) ∧ w' = w := by
  obtain ⟨nb, fb, v, h⟩ := h
  exact dead_any w db nb fb v S d h
theorem darm_any {w : World} {db : Nat} {S : Nat → Prop} {d : Dk} (h : DOk w db S d) (n : Int) : Calls Tryz.prog 19 #[.pointer (some ⟨db, 0, none⟩), .int .i64 n] w fun e w' => e = .returned (.tuple #[]) ∧ DGo w db S (armD d n) w' := by
  obtain ⟨nb, fb, v, h⟩ := h
  exact (arm_any w db nb fb v S d n h).mono fun _ _ hh => ⟨hh.1, DGo.turned h hh.2.1 hh.2.2⟩
theorem dread_any {w : World} {db : Nat} {S : Nat → Prop} {d : Dk} (h : DOk w db S d) (name : ByteArray) : Calls Tryz.prog 32 #[.pointer (some ⟨db, 0, none⟩), .string name] w fun e w' => e = .returned (.tuple #[.string (readD d name).1, .int .i64 (readD d name).2]) ∧ w' = w := by
  obtain ⟨nb, fb, v, h⟩ := h
  exact read_any w db nb fb v S d name h
theorem dsize_any {w : World} {db : Nat} {S : Nat → Prop} {d : Dk} (h : DOk w db S d) (hl : d.now.length ≤ 100000) : Calls Tryz.prog 29 #[.pointer (some ⟨db, 0, none⟩)] w fun e w' => e = .returned (.int .i64 (sizeF d.now)) ∧ Below w.heap.size w w' := by
  obtain ⟨nb, fb, v, h⟩ := h
  exact size_any w db nb fb v S d h hl
theorem dnames_any {w : World} {db : Nat} {S : Nat → Prop} {d : Dk} (h : DOk w db S d) (hl : d.now.length ≤ 100000) : Calls Tryz.prog 14 #[.pointer (some ⟨db, 0, none⟩)] w fun e w' => ∃ u, e = .returned u ∧ OwnRows strLay w' w.heap.size 9 u (namesD d) ∧ Below w.heap.size w w' := by
  obtain ⟨nb, fb, v, h⟩ := h
  exact names_any w db nb fb v S d h hl
theorem dwrite_any {w : World} {db : Nat} {S : Nat → Prop} {d : Dk} (h : DOk w db S d) (name : ByteArray) (n : Int) (data : ByteArray) (hl : d.now.length ≤ 100000) (hal : d.acts.length ≤ 1000000000) (hdz : data.size ≤ 8000) : Calls Tryz.prog 21 #[.pointer (some ⟨db, 0, none⟩), .string name, .int .i64 n, .string data] w fun e w' => e = .returned (.int .i64 (writeD d name n data).2) ∧ DGo w db S (writeD d name n data).1 w' := by
  obtain ⟨nb, fb, v, h⟩ := h
  exact write_any w db nb fb v S d name n data h hl hal hdz
theorem dcut_any {w : World} {db : Nat} {S : Nat → Prop} {d : Dk} (h : DOk w db S d) (name : ByteArray) (n : Int) (hl : d.now.length ≤ 100000) (hal : d.acts.length ≤ 1000000000) : Calls Tryz.prog 51 #[.pointer (some ⟨db, 0, none⟩), .string name, .int .i64 n] w fun e w' => e = .returned (.int .i64 (cutD d name n).2) ∧ DGo w db S (cutD d name n).1 w' := by
  obtain ⟨nb, fb, v, h⟩ := h
  exact cut_any w db nb fb v S d name n h hl hal
theorem dsync_any {w : World} {db : Nat} {S : Nat → Prop} {d : Dk} (h : DOk w db S d) : Calls Tryz.prog 52 #[.pointer (some ⟨db, 0, none⟩)] w fun e w' => e = .returned (.int .i64 (syncD d).2) ∧ DGo w db S (syncD d).1 w' := by
  obtain ⟨nb, fb, v, h⟩ := h
  exact sync_any w db nb fb v S d h
end Go.Proofs.YtgglheelhbfgiaaGreatDoor

