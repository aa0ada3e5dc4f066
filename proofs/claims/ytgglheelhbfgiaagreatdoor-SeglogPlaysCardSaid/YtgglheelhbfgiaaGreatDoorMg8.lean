/-
  A disk: laid (a file's bytes behind a write). A disk: Read. A disk: what an act makes of files. A disk: what a write makes of files. A disk: does. A disk: does, walked. A disk: Size.
-/
import Derived.Test.YtgglheelhbfgiaaGreatDoorMg7
import Derived.Test.YtgglheelhbfgiaaGreatDoorShelf
import Derived.Laws.Concat
import Derived.Maps.RangeWalk
import Derived.Sort.KeysCollected
namespace Go.Proofs.YtgglheelhbfgiaaGreatDoor
open Go Go.RowKit Go.Lib
theorem joined (t d : ByteArray) (n : Nat) : ((t.extract 0 n ++ d) ++ t.extract (min t.size (n + d.size)) t.size).data.toList = t.data.toList.take n ++ d.data.toList ++ t.data.toList.drop (n + d.data.toList.length) := by
  have h1 : (t.extract 0 n).data.toList = t.data.toList.take n := by
    rw [ByteArray.data_extract, Array.toList_extract, List.extract_eq_take_drop, List.drop_zero, Nat.sub_zero]
  have h2 : ∀ k, (t.extract k t.size).data.toList = t.data.toList.drop k := fun k => by
    rw [ByteArray.data_extract, Array.toList_extract, List.extract_eq_take_drop, List.take_of_length_le (by rw [List.length_drop]; exact Nat.le_refl _)]
  rw [ByteArray.data_append, Array.toList_append, ByteArray.data_append, Array.toList_append, h1, h2]
  congr 1
  by_cases h : t.size ≤ n + d.size
  · rw [Nat.min_eq_left h, List.drop_eq_nil_of_le (by exact Nat.le_refl _), List.drop_eq_nil_of_le (by exact h)]
  · rw [Nat.min_eq_right (by omega)]
    rfl
set_option maxRecDepth 100000 in
theorem laid_any (s d : ByteArray) (n : Nat) (w : World) (hs : s.size ≤ 8000000) (hd : d.size ≤ 8000) (hn : n ≤ 8000000) : Calls Tryz.prog 68 #[.string s, .int .i64 n, .string d] w fun e w' => e = .returned (.string (laidB s n d)) ∧ Below w.heap.size w w' := by
  by_cases hlt : s.size < n
  · have hlti : (s.size : Int) < (n : Int) := by omega
    obtain ⟨c, hc⟩ : ∃ c : Nat, n - s.size = c := ⟨_, rfl⟩
    have hci : (n : Int) - (s.size : Int) = (c : Int) := by omega
    have HR := Lib.hid fun W => Tryz.strings_Repeat ⟨#[0]⟩ c W (by omega) (by show 1 * c ≤ _; omega)
    have hz : repeatL [0] c = List.replicate c 0 := by
      have := repeatL_replicate 0 1 c
      simpa using this
    have hts : (s ++ (⟨(repeatL [0] c).toArray⟩ : ByteArray)).size = n := by
      rw [ByteArray.size_append, hz]
      show s.size + (List.replicate c (0 : UInt8)).toArray.size = n
      simp
      omega
    have htl : (s ++ (⟨(repeatL [0] c).toArray⟩ : ByteArray)).data.toList = s.data.toList ++ List.replicate c 0 := by
      rw [ByteArray.data_append, Array.toList_append, hz]
    clear hz
    obtain ⟨t, ht⟩ : ∃ t, s ++ (⟨(repeatL [0] c).toArray⟩ : ByteArray) = t := ⟨_, rfl⟩
    rw [ht] at hts htl
    have hzs : (⟨(repeatL [0] c).toArray⟩ : ByteArray).size = c := by
      show (repeatL [0] c).toArray.size = c
      rw [List.size_toArray, repeatL_length]
      exact Nat.mul_one c
    have hcat0 : ∀ W' : World, (Op.stringOp .add s ⟨(repeatL [0] c).toArray⟩).run Tryz.prog W' = .ok (.string t) W' := fun W' => by
      rw [← ht]
      exact run_string_add W' _ _ (by omega) (by omega)
    clear ht hzs
    obtain ⟨m, hm⟩ : ∃ m : Nat, min t.size (n + d.size) = m := ⟨_, rfl⟩
    have hmi : min (t.size : Int) ((n : Int) + (d.size : Int)) = (m : Int) := by omega
    have hw64 : wrap64 ((n : Int) + (d.size : Int)) = (n : Int) + (d.size : Int) := IntWalk.wrap64_in _ ⟨by omega, by omega⟩
    have hms : m ≤ t.size := by omega
    have hnt : n ≤ t.size := by omega
    have hx1 : (t.extract 0 n).size = n := by rw [ByteArray.size_extract]; omega
    have hx2 : (t.extract 0 n ++ d).size = n + d.size := by rw [ByteArray.size_append, hx1]
    have hx3 : (t.extract m t.size).size ≤ t.size := by rw [ByteArray.size_extract]; omega
    have hcat1 : ∀ W' : World, (Op.stringOp .add (t.extract 0 n) d).run Tryz.prog W' = .ok (.string (t.extract 0 n ++ d)) W' := fun W' => run_string_add W' _ _ (by omega) (by omega)
    have hcat2 : ∀ W' : World, (Op.stringOp .add (t.extract 0 n ++ d) (t.extract m t.size)).run Tryz.prog W' = .ok (.string (t.extract 0 n ++ d ++ t.extract m t.size)) W' := fun W' => run_string_add W' _ _ (by omega) (by omega)
    have Hr := Lib.hid (show laidB s n d = t.extract 0 n ++ d ++ t.extract m t.size by
      have h1 := joined t d n
      rw [hm] at h1
      have h2 : (laidB s n d).data.toList = (t.extract 0 n ++ d ++ t.extract m t.size).data.toList := by
        rw [h1, htl]
        show laidL _ _ _ = _
        unfold laidL padL
        rw [show n - s.data.toList.length = c from hc]
      exact bytesK_inj.1 h2)
    clear hx1 hx2 hx3 hm hts htl
    go_enter Tryz.func68, Tryz.ntmps68
    go_wp2_with fail
    refine (HR.out _).mono ?_
    rintro e w2 ⟨rfl, hb⟩
    go_wp2_with fail
    go_region
    go_wp2_with fail
    go_ret
    exact ⟨by rw [Hr.out]; rfl, hb.drew⟩
  · have hge : n ≤ s.size := by omega
    have hgei : (n : Int) ≤ (s.size : Int) := by omega
    obtain ⟨m, hm⟩ : ∃ m : Nat, min s.size (n + d.size) = m := ⟨_, rfl⟩
    have hmi : min (s.size : Int) ((n : Int) + (d.size : Int)) = (m : Int) := by omega
    have hw64 : wrap64 ((n : Int) + (d.size : Int)) = (n : Int) + (d.size : Int) := IntWalk.wrap64_in _ ⟨by omega, by omega⟩
    have hms : m ≤ s.size := by omega
    have hx1 : (s.extract 0 n).size = n := by rw [ByteArray.size_extract]; omega
    have hx2 : (s.extract 0 n ++ d).size = n + d.size := by rw [ByteArray.size_append, hx1]
    have hx3 : (s.extract m s.size).size ≤ s.size := by rw [ByteArray.size_extract]; omega
    have hcat1 : ∀ W' : World, (Op.stringOp .add (s.extract 0 n) d).run Tryz.prog W' = .ok (.string (s.extract 0 n ++ d)) W' := fun W' => run_string_add W' _ _ (by omega) (by omega)
    have hcat2 : ∀ W' : World, (Op.stringOp .add (s.extract 0 n ++ d) (s.extract m s.size)).run Tryz.prog W' = .ok (.string (s.extract 0 n ++ d ++ s.extract m s.size)) W' := fun W' => run_string_add W' _ _ (by omega) (by omega)
    have Hr := Lib.hid (show laidB s n d = s.extract 0 n ++ d ++ s.extract m s.size by
      have h1 := joined s d n
      rw [hm] at h1
      have h2 : (laidB s n d).data.toList = (s.extract 0 n ++ d ++ s.extract m s.size).data.toList := by
        rw [h1]
        show laidL _ _ _ = _
        unfold laidL padL
        rw [show n - s.data.toList.length = 0 by show n - s.size = 0; omega, List.replicate_zero, List.append_nil]
      exact bytesK_inj.1 h2)
    clear hx1 hx2 hx3 hm
    go_enter Tryz.func68, Tryz.ntmps68
    go_wp2_with fail
    go_region
    go_wp2_with fail
    go_ret
    exact ⟨by rw [Hr.out]; rfl, (Below.refl _ _).drew⟩
end Go.Proofs.YtgglheelhbfgiaaGreatDoor

namespace Go.Proofs.YtgglheelhbfgiaaGreatDoor
open Go Go.RowKit Go.Lib
theorem dkeyL : Go.Maps.Keyed Tryz.prog 9 := Go.Maps.string_keyed Tryz.underlying9
theorem zeroStrD (w : World) : (zeroValue 9).run Tryz.prog w = .ok (strV.val noB) w := by kernel_rfl
theorem wrong_small {d : Dk} {name : ByteArray} {n : Int} (h : wrongD d name n = 0) : d.dead = false ∧ name.size ≤ 24 ∧ 0 ≤ n ∧ n ≤ d.limit := by
  unfold wrongD at h
  split at h
  · cases h
  · split at h
    · cases h
    · rename_i h1 h2
      exact ⟨by simpa using h1, by omega, by omega, by omega⟩
set_option maxRecDepth 100000 in
theorem read_any (w : World) (db nb fb : Nat) (v : Value) (S : Nat → Prop) (d : Dk) (name : ByteArray) (h : DAt w db nb fb v S d) : Calls Tryz.prog 32 #[.pointer (some ⟨db, 0, none⟩), .string name] w fun e w' => e = .returned (.tuple #[.string (readD d name).1, .int .i64 (readD d name).2]) ∧ w' = w := by
  have c1 : w.cell? ⟨db, 1, none⟩ = some (.map (some nb)) := h.cells.2.2 1 _ rfl
  have HW := Lib.hid (wrong_any w db nb fb v S d name 0 h)
  have HM := Lib.hid h.now
  clear h
  by_cases hw : wrongD d name 0 = 0
  · have hsm := wrong_small hw
    have hlk := MapK.look (t := 94) HM.out dkeyL Tryz.underlying9 Tryz.underlying94 (zeroStrD w) (p := name) (by unfold maxLen; omega)
    rw [hw] at HW
    have Hr := Lib.hid (show readD d name = match findK d.now name with | none => (noB, 25) | some s => (s, 0) from if_neg (by rw [hw]; simp))
    clear hsm hw
    cases hf : findK d.now name with
    | none =>
      rw [hf] at Hr hlk
      clear hf
      simp only [Option.getD_none, Option.isSome_none, strV] at hlk
      go_enter Tryz.func32, Tryz.ntmps32
      go_wp2_with fail
      refine HW.out.mono ?_
      rintro e w' ⟨rfl, rfl⟩
      go_wp2_with fail
      go_ret2
      exact ⟨by rw [Hr.out]; rfl, rfl⟩
    | some s =>
      rw [hf] at Hr hlk
      clear hf
      simp only [Option.getD_some, Option.isSome_some, strV] at hlk
      go_enter Tryz.func32, Tryz.ntmps32
      go_wp2_with fail
      refine HW.out.mono ?_
      rintro e w' ⟨rfl, rfl⟩
      go_wp2_with fail
      go_ret2
      exact ⟨by rw [Hr.out]; rfl, rfl⟩
  · have Hr := Lib.hid (show readD d name = (noB, wrongD d name 0) from if_pos hw)
    generalize wrongD d name 0 = r at *
    go_enter Tryz.func32, Tryz.ntmps32
    go_wp2_with fail
    refine HW.out.mono ?_
    rintro e w' ⟨rfl, rfl⟩
    go_wp2_with fail
    go_ret2
    exact ⟨by rw [Hr.out]; rfl, rfl⟩
end Go.Proofs.YtgglheelhbfgiaaGreatDoor

namespace Go.Proofs.YtgglheelhbfgiaaGreatDoor
open Go Go.RowKit Go.Lib
set_option maxRecDepth 100000 in
theorem cutact_any (w : World) (mb kn kp : Nat) (es : Fls) (torn : Bool) (a : ActD) (hM : MapK strV Tryz.prog 9 w mb es) (hn : w.cell? ⟨kn, 0, none⟩ = some (.string a.name)) (hp : w.cell? ⟨kp, 0, none⟩ = some (.int .i64 a.n)) (hc : a.cut = true) (hsz : a.name.size ≤ 24) (hes : es.length ≤ 100000) :
    Calls Tryz.prog 87 #[.map (some mb), .bool torn, .pointer (some ⟨kn, 0, none⟩), .pointer (some ⟨kp, 0, none⟩)] w fun e w' => e = .returned (.tuple #[]) ∧ MapK strV Tryz.prog 9 w' mb (doD es a torn) ∧ w.grownBy w' (some mb) := by
  have hlk := MapK.look (t := 94) hM dkeyL Tryz.underlying9 Tryz.underlying94 (zeroStrD w) (p := a.name) (by unfold maxLen; omega)
  have Hr := Lib.hid (show doD es a torn = match findK es a.name with | none => es | some s => putK es a.name (shortB s a.n) from if_pos hc)
  have HM := Lib.hid hM
  clear hM hc
  cases hf : findK es a.name with
  | none =>
    rw [hf] at hlk Hr
    clear hf
    simp only [Option.getD_none, Option.isSome_none, strV] at hlk
    go_enter Tryz.func87, Tryz.ntmps87
    go_wp2_with fail
    go_end0
    exact ⟨rfl, by rw [Hr.out]; exact HM.out, ⟨rfl, rfl, rfl, Nat.le_refl _, fun _ _ _ => rfl⟩⟩
  | some s =>
    rw [hf] at hlk Hr
    clear hf
    simp only [Option.getD_some, Option.isSome_some, strV] at hlk
    obtain ⟨m, hm⟩ : ∃ m : Nat, min s.size a.n = m := ⟨_, rfl⟩
    have hmi : min (s.size : Int) (a.n : Int) = (m : Int) := by omega
    have hms : m ≤ s.size := by omega
    have Hm := Lib.hid hm
    obtain ⟨w2, hu, hM2, hg2⟩ := MapK.put (t := 94) (w := w.drew) HM.out dkeyL Tryz.underlying9 Tryz.underlying94 a.name (s.extract 0 m) (by unfold maxLen; omega) (by unfold maxLen; omega)
    simp only [strV] at hu
    clear hm
    go_enter Tryz.func87, Tryz.ntmps87
    go_wp2_with fail
    go_region
    go_end0
    refine ⟨rfl, ?_, ⟨hg2.os, hg2.tape, hg2.output, hg2.size, hg2.block⟩⟩
    rw [Hr.out]
    show MapK strV _ _ w2 mb (putK es a.name (s.extract 0 (min s.size a.n)))
    rw [Hm.out]
    exact hM2
end Go.Proofs.YtgglheelhbfgiaaGreatDoor

namespace Go.Proofs.YtgglheelhbfgiaaGreatDoor
open Go Go.RowKit Go.Lib
theorem half_size (d : ByteArray) : (halfB d).size ≤ d.size := by
  unfold halfB
  rw [ByteArray.size_extract]
  omega
set_option maxRecDepth 100000 in
theorem writeact_any (w : World) (mb kd kn kp : Nat) (es : Fls) (torn : Bool) (a : ActD) (hM : MapK strV Tryz.prog 9 w mb es) (hd : w.cell? ⟨kd, 0, none⟩ = some (.string a.data)) (hn : w.cell? ⟨kn, 0, none⟩ = some (.string a.name)) (hp : w.cell? ⟨kp, 0, none⟩ = some (.int .i64 a.n)) (hkn : kn < w.heap.size) (hc : a.cut = false) (hsz : a.name.size ≤ 24) (hes : es.length ≤ 100000) (h1 : (hasD es a.name).size ≤ 8000000) (h2 : a.data.size ≤ 8000) (h3 : a.n ≤ 8000000) :
    Calls Tryz.prog 67 #[.map (some mb), .bool torn, .pointer (some ⟨kd, 0, none⟩), .pointer (some ⟨kn, 0, none⟩), .pointer (some ⟨kp, 0, none⟩)] w fun e w' => e = .returned (.tuple #[]) ∧ MapK strV Tryz.prog 9 w' mb (doD es a torn) ∧ w.grownBy w' (some mb) := by
  have hlk := MapK.look1 (t := 94) hM dkeyL Tryz.underlying9 Tryz.underlying94 (zeroStrD w) (p := a.name) (by unfold maxLen; omega)
  have Hr := Lib.hid (show doD es a torn = putK es a.name (laidB (hasD es a.name) a.n (if torn then halfB a.data else a.data)) by unfold doD; rw [if_neg (by rw [hc]; decide)])
  have HM := Lib.hid hM
  have hlk2 : (Instr.lookup 94 (.map (some mb)) (.string a.name) false).run Tryz.prog w = .ok (.string (hasD es a.name)) w := hlk
  have hlk3 : (Instr.lookup 94 (.map (some mb)) (.string a.name) false).run Tryz.prog w.drew = .ok (.string (hasD es a.name)) w.drew := MapK.look1 (t := 94) (w := w.drew) HM.out dkeyL Tryz.underlying9 Tryz.underlying94 (zeroStrD w.drew) (p := a.name) (by unfold maxLen; omega)
  have HL := Lib.hid fun (d : ByteArray) W (h : d.size ≤ 8000) => laid_any (hasD es a.name) d a.n W h1 h h3
  have HP := Lib.hid fun (x : ByteArray) W (hb : Below w.heap.size w W) => MapK.put (t := 94) (w := W) (HM.out.keeps hb HM.out.lt) dkeyL Tryz.underlying9 Tryz.underlying94 a.name x (by unfold maxLen; omega) (by unfold maxLen; omega)
  have hhs := half_size a.data
  have hh2 : ((a.data.size / 2 : Nat) : Int) = (a.data.size : Int) / 2 := by omega
  clear hM hc hlk
  generalize hasD es a.name = s at *
  cases torn with
  | false =>
    go_enter Tryz.func67, Tryz.ntmps67
    go_wp2_with fail
    go_region_law (first
      | (go_simp; go_at_call 68; refine (HL.out _ _ (by omega)).mono ?_; rintro e w4 ⟨rfl, hb4⟩; obtain ⟨w5, hu, hM5, hg5⟩ := HP.out (laidB s a.n a.data) w4 ⟨hb4.os, hb4.tape, hb4.output, hb4.size, hb4.block⟩; simp only [strV] at hu; have hn4 := (hb4.cell (p := ⟨kn, 0, none⟩) hkn).trans hn))
    all_goals
      go_end0
      refine ⟨rfl, ?_, ⟨hg5.os.trans hb4.os, hg5.tape.trans hb4.tape, hg5.output.trans hb4.output, Nat.le_trans hb4.size hg5.size, fun k hk hne => (hg5.block k (Nat.lt_of_lt_of_le hk hb4.size) hne).trans (hb4.block k hk)⟩⟩
      rw [Hr.out]
      exact hM5
  | true =>
    go_enter Tryz.func67, Tryz.ntmps67
    have hsl : (a.data.extract 0 (a.data.size / 2)) = halfB a.data := rfl
    go_wp2_with fail
    go_region_law (first
      | (go_simp; go_at_call 68; refine (HL.out _ _ (by omega)).mono ?_; rintro e w4 ⟨rfl, hb4⟩; obtain ⟨w5, hu, hM5, hg5⟩ := HP.out (laidB s a.n (halfB a.data)) w4 ⟨hb4.os, hb4.tape, hb4.output, hb4.size, hb4.block⟩; simp only [strV] at hu; have hn4 := (hb4.cell (p := ⟨kn, 0, none⟩) hkn).trans hn))
    all_goals
      go_end0
      refine ⟨rfl, ?_, ⟨hg5.os.trans hb4.os, hg5.tape.trans hb4.tape, hg5.output.trans hb4.output, Nat.le_trans hb4.size hg5.size, fun k hk hne => (hg5.block k (Nat.lt_of_lt_of_le hk hb4.size) hne).trans (hb4.block k hk)⟩⟩
      rw [Hr.out]
      exact hM5
end Go.Proofs.YtgglheelhbfgiaaGreatDoor

namespace Go.Proofs.YtgglheelhbfgiaaGreatDoor
open Go Go.RowKit Go.Lib
theorem actInfo : (Tryz.prog.info? 118).map (fun i => (i.zero, i.size, i.bytes)) = some (some .nilFunc, 1, 8) := by kernel_rfl
theorem DAt.row {w : World} {db nb fb : Nat} {v : Value} {S : Nat → Prop} {d : Dk} (h : DAt w db nb fb v S d) : ∀ k, v.ownBlock = some k → db < k ∧ w.cell? ⟨nb, 0, none⟩ = none ∧ k ≠ nb ∧ k ≠ fb := by
  obtain ⟨fs, ho, _⟩ := h.acts
  intro k hk
  have hmap : ∀ b es, MapK strV Tryz.prog 9 w b es → k ≠ b := by
    rintro b es ⟨rows, clock, hb, _⟩ rfl
    rcases ho.2 with ⟨rfl, _⟩ | ⟨q, cap, cur, rfl, hq, hqq, _⟩
    · cases hk
    · simp only [Value.ownBlock, Option.some.injEq] at hk
      subst hk
      rw [hqq] at hb
      cases hb
  refine ⟨by have := (OwnRows.lt ho hk).1; omega, ?_, hmap _ _ h.now, hmap _ _ h.firm⟩
  obtain ⟨rows, clock, hb, _⟩ := h.now
  simp [World.cell?, hb]
/-- The acts' row has grown. -/
theorem DAt.grownActs {w w1 w2 : World} {db nb fb : Nat} {v v' : Value} {S : Nat → Prop} {d : Dk} {fs : List FnV} {f : FnV} {a : ActD} (h : DAt w db nb fb v S d) (hs : w.heap.size ≤ w1.heap.size) (hb1 : Below w.heap.size w w1) (hacts : ActsAt w db v S fs d.acts) (hf : ActAt w db v S f a) (hok : ActOK a)
    (ho : OwnRows actLay w2 (db + 1) 118 v' (fs ++ [f])) (hg : w1.grownBy w2 v.ownBlock) (hv : v'.ownBlock = v.ownBlock ∨ v'.ownBlock = some w1.heap.size) (S' : Nat → Prop) (hS' : ∀ k, S' k ↔ (S k ∨ (w.heap.size ≤ k ∧ k < w2.heap.size))) :
    DAt (w2.setCell ⟨db, 3, none⟩ v') db nb fb v' S' { d with acts := d.acts ++ [a] } ∧ ActAt (w2.setCell ⟨db, 3, none⟩ v') db v' S' f a := by
  have hvs := h.row
  have hn := h.nbdb
  have hf2 := h.fbdb
  have hlt := h.cells.1
  have hnl := h.now.lt
  have hfl := h.firm.lt
  have hsz := hg.size
  have hvb : ∀ k, k < w.heap.size → v.ownBlock ≠ some k → v'.ownBlock ≠ some k := fun k hk hne hv' => by
    rcases hv with e | e
    · exact hne (e ▸ hv')
    · rw [hv'] at e
      cases e
      omega
  have hblk : ∀ k, k < w.heap.size → k ≠ db → v.ownBlock ≠ some k → (w2.setCell ⟨db, 3, none⟩ v').heap[k]? = w.heap[k]? := fun k hk hne hvk =>
    (heap_other w2 v' hne).trans ((hg.block k (Nat.lt_of_lt_of_le hk hs) (fun e => hvk e.symm)).trans (hb1.block k hk))
  have hvn : v.ownBlock ≠ some nb := fun e => (hvs nb e).2.2.1 rfl
  have hvf : v.ownBlock ≠ some fb := fun e => (hvs fb e).2.2.2 rfl
  have hvd : v.ownBlock ≠ some db := fun e => by have := (hvs db e).1; omega
  have hc1 : VarAt w2 db (diskCells d nb fb v) := (h.cells.keeps hb1 hlt).grown hg (fun e => hvd e.symm)
  have hbx : ∀ x c, BoxAt w db v S x c → BoxAt (w2.setCell ⟨db, 3, none⟩ v') db v' S' x c := fun x c hb => by
    obtain ⟨k, e, h1, h2, h5, h3, h4⟩ := hb
    refine ⟨k, e, h1, by simpa using (by omega), (hS' _).2 (.inl h5), hvb k h2 h3, ?_⟩
    exact (World.cell?_of_block (hblk k h2 (by omega) h3)).trans h4
  refine ⟨⟨by simpa [diskCells] using hc1.set 3 v' (by simp [diskCells]), h.now.same (hblk nb hnl (by omega) hvn), h.firm.same (hblk fb hfl (by omega) hvf), hn, hf2, h.ne, ⟨fs ++ [f], ?_, ?_⟩, (hS' _).2 (.inl h.sdb), (hS' _).2 (.inl h.snb), (hS' _).2 (.inl h.sfb), fun k hk => ?_, fun k hk => ?_, h.ok.more hok⟩, hf.map hbx⟩
  · refine OwnRows.turned (S := fun k => k = db) ho ((Turned.refl _ _ _).set 3 v' (fun _ => rfl)) fun k hk => by omega
  · exact ActsAt.map (ActsAt.snoc hacts hf) hbx
  · rcases hv with e | e
    · exact (hS' _).2 (.inl (h.sv k (e ▸ hk)))
    · rw [hk] at e
      cases e
      have := (OwnRows.lt ho hk).2
      exact (hS' _).2 (.inr ⟨hs, this⟩)
  · rcases (hS' _).1 hk with hk | hk
    · have := h.slt k hk
      simp
      omega
    · simpa using hk.2
/-- The files that there are have turned. -/
theorem DAt.nowTurned {w w' : World} {db nb fb : Nat} {v : Value} {S : Nat → Prop} {d : Dk} {es : Fls} (h : DAt w db nb fb v S d) (hM : MapK strV Tryz.prog 9 w' nb es) (hg : w.grownBy w' (some nb)) (hes : FilesOK es) : DAt w' db nb fb v S { d with now := es } := by
  obtain ⟨fs, ho, ha⟩ := h.acts
  have hn := h.nbdb
  have hrow := h.row
  have hT : Turned (fun k => k = nb) w.heap.size w w' := Turned.of_grown hg (Nat.le_refl _) fun k e _ => by cases e; rfl
  refine ⟨h.cells.same (hT.block db h.cells.1 (by omega)) hT.size, hM, h.firm.same (hT.block fb h.firm.lt (fun e => h.ne e.symm)), hn, h.fbdb, h.ne, ⟨fs, ho.turnedOther hT fun k hk e => (hrow k hk).2.2.1 e, ha.turned hT (Nat.le_refl _) fun k c hk hlt hc => ?_⟩, h.sdb, h.snb, h.sfb, h.sv, fun k hk => Nat.lt_of_lt_of_le (h.slt k hk) hT.size, ⟨h.ok.limit, hes, h.ok.firm, h.ok.acts⟩⟩
  have e : k = nb := hk
  subst e
  obtain ⟨rows, clock, hb, _⟩ := h.now
  simp [World.cell?, hb] at hc
theorem ActsAt.len {w : World} {db : Nat} {v : Value} {S : Nat → Prop} {fs : List FnV} {xs : List ActD} (h : ActsAt w db v S fs xs) : fs.length = xs.length := by
  induction h with
  | nil => rfl
  | cons _ _ ih => rw [List.length_cons, List.length_cons, ih]
theorem ActAt.turned {w w' : World} {db : Nat} {v : Value} {S T : Nat → Prop} {B : Nat} {f : FnV} {a : ActD} (h : ActAt w db v S f a) (ht : Turned T B w w') (hB : w.heap.size ≤ B) (hS : SafeB w db v T) : ActAt w' db v S f a := h.map fun _ _ hb => hb.turned ht hB hS
theorem does_dead {d : Dk} {a : ActD} (h : (diesD { d with acts := d.acts ++ [a] }).dead = true) : doesD d a = (diesD { d with acts := d.acts ++ [a] }, 42) := if_pos h
theorem does_alive {d : Dk} {a : ActD} (h : (diesD { d with acts := d.acts ++ [a] }).dead = false) : doesD d a = ({ diesD { d with acts := d.acts ++ [a] } with now := doD (diesD { d with acts := d.acts ++ [a] }).now a false }, 0) := by
  unfold doesD
  rw [if_neg (by rw [h]; decide), (dies_same _).1]
end Go.Proofs.YtgglheelhbfgiaaGreatDoor

namespace Go.Proofs.YtgglheelhbfgiaaGreatDoor
open Go Go.RowKit Go.Lib
set_option maxRecDepth 100000 in
set_option maxHeartbeats 3200000 in
theorem does_write (w : World) (db nb fb : Nat) (v : Value) (S : Nat → Prop) (d : Dk) (ps : Array Value) (a : ActD) (h : DAt w db nb fb v S d) (hc : a.cut = false) (ha : ActAt w db v S ⟨67, ps⟩ a) (hok : ActOK a) (hl : d.now.length ≤ 100000) (hal : d.acts.length ≤ 1000000000) :
    Calls Tryz.prog 66 #[.pointer (some ⟨db, 0, none⟩), .func (.func 67) #[] ps] w fun e w' => e = .returned (.int .i64 (doesD d a).2) ∧ (∃ v', DAt w' db nb fb v' (GrowS S w w') (doesD d a).1) ∧ Turned S w.heap.size w w' := by
  obtain ⟨fs, ho, hacts⟩ := h.acts
  have hfl : fs.length = d.acts.length := hacts.len
  obtain ⟨aa, ac, hv, _, _⟩ := ho.read
  have c3 : w.cell? ⟨db, 3, none⟩ = some (.slice aa fs.length ac) := by
    rw [← hv]
    exact h.cells.2.2 3 _ rfl
  obtain ⟨pd, pn, pp, rfl, hbd, hbn, hbp⟩ : ∃ d n p, ps = #[d, n, p] ∧ BoxAt w db v S d (.string a.data) ∧ BoxAt w db v S n (.string a.name) ∧ BoxAt w db v S p (.int .i64 a.n) := by
    rcases ha with ⟨_, _, h⟩ | ⟨h, _⟩
    · exact h
    · rw [hc] at h; cases h
  obtain ⟨kd, rfl, _⟩ := hbd
  obtain ⟨kn, rfl, _⟩ := hbn
  obtain ⟨kp, rfl, _⟩ := hbp
  subst hv
  obtain ⟨i0, hi, hz, hs⟩ : ∃ i, Tryz.prog.info? 118 = some i ∧ i.zero = some .nilFunc ∧ i.size = 1 ∧ i.bytes = 8 := by
    have := actInfo
    cases e : Tryz.prog.info? 118 with
    | none => rw [e] at this; cases this
    | some i => rw [e] at this; simp only [Option.map_some, Option.some.injEq, Prod.mk.injEq] at this; exact ⟨i, rfl, this.1, this.2.1, this.2.2⟩
  have Hi := Lib.hid hi
  have Hz := Lib.hid hz
  have Hs := Lib.hid hs
  clear hi hz hs
  have HD := Lib.hid h
  have HA := Lib.hid ha
  have Hacts := Lib.hid hacts
  have Ho := Lib.hid ho
  have Hc := Lib.hid hc
  have hdb := h.cells.1
  have hmx : fs.length + 1 ≤ 1000000001 := by omega
  have hdok := h.ok
  have HS := Lib.hid (show ∀ k, k = db ∨ k = nb ∨ (Value.slice aa fs.length ac).ownBlock = some k → S k from fun k hk => by
    rcases hk with rfl | rfl | hk
    · exact h.sdb
    · exact h.snb
    · exact h.sv k hk)
  have HL := Lib.hid hl
  clear h ha hacts ho hfl hal hc hl hdok
  have H0 := Lib.hid fun v2 w2 ho2 hg2 hv2 => HD.out.grownActs (w1 := w.alloc (.cells #[.func (.func 67) #[] #[.pointer (some ⟨kd, 0, none⟩), .pointer (some ⟨kn, 0, none⟩), .pointer (some ⟨kp, 0, none⟩)]] 118)) (by simp) ((Below.refl _ _).alloc (Nat.le_refl _) _) Hacts.out HA.out hok ho2 (w2 := w2) (v' := v2) hg2 hv2 (GrowS S w w2) fun _ => Iff.rfl
  have HT0 := Lib.hid fun w2 (hg2 : (w.alloc (.cells #[.func (.func 67) #[] #[.pointer (some ⟨kd, 0, none⟩), .pointer (some ⟨kn, 0, none⟩), .pointer (some ⟨kp, 0, none⟩)]] 118)).grownBy w2 (Value.slice aa fs.length ac).ownBlock) => ((Turned.refl S w.heap.size w).alloc (Nat.le_refl _) (.cells #[.func (.func 67) #[] #[.pointer (some ⟨kd, 0, none⟩), .pointer (some ⟨kn, 0, none⟩), .pointer (some ⟨kp, 0, none⟩)]] 118)).trans (Turned.of_grown hg2 (by simp) fun k e _ => HS.out k (.inr (.inr e)))
  have HV0 := Lib.hid fun w2 (hg2 : (w.alloc (.cells #[.func (.func 67) #[] #[.pointer (some ⟨kd, 0, none⟩), .pointer (some ⟨kn, 0, none⟩), .pointer (some ⟨kp, 0, none⟩)]] 118)).grownBy w2 (Value.slice aa fs.length ac).ownBlock) => (HD.out.cells.keeps ((Below.refl _ _).alloc (Nat.le_refl _) (.cells #[.func (.func 67) #[] #[.pointer (some ⟨kd, 0, none⟩), .pointer (some ⟨kn, 0, none⟩), .pointer (some ⟨kp, 0, none⟩)]] 118)) HD.out.cells.1).grown hg2 (fun e => by have := (HD.out.row db e.symm).1; omega)
  go_enter Tryz.func66, Tryz.ntmps66
  go_wp2_with (at_builtin; refine wpList_append_rows _ rfl _ _ 95 rfl actLay (db + 1) 118 i0 .nilFunc 8 Tryz.underlying95 Hi.out Hz.out Hs.out.1 Hs.out.2 rfl (by decide) _ fs rfl (Ho.out.alloc _) ⟨w.heap.size, 0, none⟩ 1 ⟨67, #[.pointer (some ⟨kd, 0, none⟩), .pointer (some ⟨kn, 0, none⟩), .pointer (some ⟨kp, 0, none⟩)]⟩ rfl (cells_new_at w w.heap.size #[.func (.func 67) #[] #[.pointer (some ⟨kd, 0, none⟩), .pointer (some ⟨kn, 0, none⟩), .pointer (some ⟨kp, 0, none⟩)]] 118 rfl) (by unfold maxLen; omega) (by omega) (by simp; omega) ?_)
  intro v2 w2 ho2 hg2 hv2
  obtain ⟨h3, ha3⟩ := H0.out v2 w2 ho2 hg2 (by simpa using hv2)
  have hT2 := (HT0.out w2 hg2).set (b := db) 3 v2 (fun _ => HS.out db (.inl rfl))
  have hV2 := HV0.out w2 hg2
  have f3 := hV2.2.1 3
  have k3 : w2.cell? ⟨db, 3, none⟩ = some (.slice aa fs.length ac) := hV2.2.2 3 _ rfl
  obtain ⟨a2, cap2, rfl, _, _⟩ := ho2.read
  have hsz2 : (w2.setCell ⟨db, 3, none⟩ (.slice a2 (fs ++ [(⟨67, #[.pointer (some ⟨kd, 0, none⟩), .pointer (some ⟨kn, 0, none⟩), .pointer (some ⟨kp, 0, none⟩)]⟩ : FnV)]).length cap2)).heap.size = w2.heap.size := by simp
  have H3 := Lib.hid h3
  have HA3 := Lib.hid ha3
  clear hV2 ho2 hg2 hv2 H0 HT0 HV0 h3 ha3
  generalize (fs ++ [(⟨67, #[.pointer (some ⟨kd, 0, none⟩), .pointer (some ⟨kn, 0, none⟩), .pointer (some ⟨kp, 0, none⟩)]⟩ : FnV)]).length = nn at *
  obtain ⟨w3, hw3⟩ : ∃ w3, w2.setCell ⟨db, 3, none⟩ (.slice a2 nn cap2) = w3 := ⟨_, rfl⟩
  have Hw3 := Lib.hid hw3
  rw [hw3] at H3 HA3 hT2 hsz2
  clear hw3
  have Hsz2 := Lib.hid hsz2
  clear hsz2
  go_wp2_with fail
  rw [Hw3.out]
  refine (dies_any w3 db nb fb _ _ _ H3.out).mono ?_
  rintro e w4 ⟨rfl, h4, hT4⟩
  have hT24 := hT2.trans (hT4.mono hT2.size fun k _ hk => HS.out k (.inl hk))
  have HA4 := HA3.out.turned hT4 (Nat.le_refl _) fun k c hk hlt _ => by
    have : k = db := hk
    omega
  have hlt4 : w2.heap.size ≤ w4.heap.size := by rw [← Hsz2.out]; exact hT4.size
  cases hdd : (diesD { d with acts := d.acts ++ [a] }).dead with
  | true =>
    have Hr := Lib.hid (does_dead hdd)
    rw [← hdd]
    rw [hdd]
    clear hdd
    go_wp2_with fail
    go_ret
    rw [Hr.out]
    refine ⟨rfl, ⟨_, h4.mono (fun k hk => ?_) (fun k hk => ?_)⟩, hT24⟩
    · rcases hk with hk | hk
      · exact .inl hk
      · exact .inr ⟨hk.1, Nat.lt_of_lt_of_le hk.2 hlt4⟩
    · rcases hk with hk | hk
      · exact Nat.lt_of_lt_of_le (HD.out.slt k hk) hT24.size
      · exact hk.2
  | false =>
    have Hr := Lib.hid (does_alive hdd)
    have hl4 : (diesD { d with acts := d.acts ++ [a] }).now.length ≤ 100000 := by
      rw [(dies_same _).1]
      exact HL.out
    have c1 : w4.cell? ⟨db, 1, none⟩ = some (.map (some nb)) := h4.cells.2.2 1 _ rfl
    have hc := Hc.out
    have HX : ∃ Q, Hid (Q = fun w5 => MapK strV Tryz.prog 9 w5 nb (doD (diesD { d with acts := d.acts ++ [a] }).now a false) ∧ w4.grownBy w5 (some nb)) ∧ Hid (Calls Tryz.prog 67 (#[.map (some nb), .bool false] ++ #[.pointer (some ⟨kd, 0, none⟩), .pointer (some ⟨kn, 0, none⟩), .pointer (some ⟨kp, 0, none⟩)]) w4 fun e w5 => e = .returned (.tuple #[]) ∧ Q w5) := by
      rcases HA4 with ⟨_, _, d', n', p', e1, hbd, hbn, hbp⟩ | ⟨h, _⟩
      · cases e1
        obtain ⟨kd', e2, _, _, _, _, hd4⟩ := hbd
        obtain ⟨kn', e3, _, hkn4, _, _, hn4⟩ := hbn
        obtain ⟨kp', e4, _, _, _, _, hp4⟩ := hbp
        cases e2; cases e3; cases e4
        have HW := Lib.hid (writeact_any w4 nb kd kn kp (diesD { d with acts := d.acts ++ [a] }).now false a h4.now hd4 hn4 hp4 hkn4 hc hok.2.2.1 hl4 (Nat.le_trans (h4.ok.now.has a.name) (by decide)) hok.2.1 (Nat.le_trans hok.1 (by decide)))
        exact ⟨_, Lib.hid rfl, Lib.hid HW.out⟩
      · rw [hc] at h; cases h
    obtain ⟨Q, HQ, HC⟩ := HX
    have H4 := Lib.hid h4
    have hok4 := Lib.hid (doD_ok false h4.ok.now hok)
    have HT24 := Lib.hid hT24
    clear h4 HA4 hT4 hT2 hT24 hc hl4
    go_wp2_with fail
    refine HC.out.mono ?_
    rintro e w5 ⟨rfl, hq⟩
    rw [HQ.out] at hq
    obtain ⟨hM, hg⟩ := hq
    go_wp2_with fail
    go_ret
    rw [Hr.out]
    have hT5 := HT24.out.trans (Turned.of_grown hg HT24.out.size fun k e _ => by cases e; exact HS.out nb (.inr (.inl rfl)))
    refine ⟨rfl, ⟨_, (H4.out.nowTurned hM hg hok4.out).mono (fun k hk => ?_) (fun k hk => ?_)⟩, hT5⟩
    · rcases hk with hk | hk
      · exact .inl hk
      · exact .inr ⟨hk.1, Nat.lt_of_lt_of_le hk.2 (Nat.le_trans hlt4 hg.size)⟩
    · rcases hk with hk | hk
      · exact Nat.lt_of_lt_of_le (HD.out.slt k hk) hT5.size
      · exact hk.2
set_option maxRecDepth 100000 in
set_option maxHeartbeats 3200000 in
theorem does_cut (w : World) (db nb fb : Nat) (v : Value) (S : Nat → Prop) (d : Dk) (ps : Array Value) (a : ActD) (h : DAt w db nb fb v S d) (hc : a.cut = true) (ha : ActAt w db v S ⟨87, ps⟩ a) (hok : ActOK a) (hl : d.now.length ≤ 100000) (hal : d.acts.length ≤ 1000000000) :
    Calls Tryz.prog 66 #[.pointer (some ⟨db, 0, none⟩), .func (.func 87) #[] ps] w fun e w' => e = .returned (.int .i64 (doesD d a).2) ∧ (∃ v', DAt w' db nb fb v' (GrowS S w w') (doesD d a).1) ∧ Turned S w.heap.size w w' := by
  obtain ⟨fs, ho, hacts⟩ := h.acts
  have hfl : fs.length = d.acts.length := hacts.len
  obtain ⟨aa, ac, hv, _, _⟩ := ho.read
  have c3 : w.cell? ⟨db, 3, none⟩ = some (.slice aa fs.length ac) := by
    rw [← hv]
    exact h.cells.2.2 3 _ rfl
  obtain ⟨pn, pp, rfl, hbn, hbp⟩ : ∃ n p, ps = #[n, p] ∧ BoxAt w db v S n (.string a.name) ∧ BoxAt w db v S p (.int .i64 a.n) := by
    rcases ha with ⟨h, _⟩ | ⟨_, _, h⟩
    · rw [hc] at h; cases h
    · exact h
  obtain ⟨kn, rfl, _⟩ := hbn
  obtain ⟨kp, rfl, _⟩ := hbp
  subst hv
  obtain ⟨i0, hi, hz, hs⟩ : ∃ i, Tryz.prog.info? 118 = some i ∧ i.zero = some .nilFunc ∧ i.size = 1 ∧ i.bytes = 8 := by
    have := actInfo
    cases e : Tryz.prog.info? 118 with
    | none => rw [e] at this; cases this
    | some i => rw [e] at this; simp only [Option.map_some, Option.some.injEq, Prod.mk.injEq] at this; exact ⟨i, rfl, this.1, this.2.1, this.2.2⟩
  have Hi := Lib.hid hi
  have Hz := Lib.hid hz
  have Hs := Lib.hid hs
  clear hi hz hs
  have HD := Lib.hid h
  have HA := Lib.hid ha
  have Hacts := Lib.hid hacts
  have Ho := Lib.hid ho
  have Hc := Lib.hid hc
  have hdb := h.cells.1
  have hmx : fs.length + 1 ≤ 1000000001 := by omega
  have hdok := h.ok
  have HS := Lib.hid (show ∀ k, k = db ∨ k = nb ∨ (Value.slice aa fs.length ac).ownBlock = some k → S k from fun k hk => by
    rcases hk with rfl | rfl | hk
    · exact h.sdb
    · exact h.snb
    · exact h.sv k hk)
  have HL := Lib.hid hl
  clear h ha hacts ho hfl hal hc hl hdok
  have H0 := Lib.hid fun v2 w2 ho2 hg2 hv2 => HD.out.grownActs (w1 := w.alloc (.cells #[.func (.func 87) #[] #[.pointer (some ⟨kn, 0, none⟩), .pointer (some ⟨kp, 0, none⟩)]] 118)) (by simp) ((Below.refl _ _).alloc (Nat.le_refl _) _) Hacts.out HA.out hok ho2 (w2 := w2) (v' := v2) hg2 hv2 (GrowS S w w2) fun _ => Iff.rfl
  have HT0 := Lib.hid fun w2 (hg2 : (w.alloc (.cells #[.func (.func 87) #[] #[.pointer (some ⟨kn, 0, none⟩), .pointer (some ⟨kp, 0, none⟩)]] 118)).grownBy w2 (Value.slice aa fs.length ac).ownBlock) => ((Turned.refl S w.heap.size w).alloc (Nat.le_refl _) (.cells #[.func (.func 87) #[] #[.pointer (some ⟨kn, 0, none⟩), .pointer (some ⟨kp, 0, none⟩)]] 118)).trans (Turned.of_grown hg2 (by simp) fun k e _ => HS.out k (.inr (.inr e)))
  have HV0 := Lib.hid fun w2 (hg2 : (w.alloc (.cells #[.func (.func 87) #[] #[.pointer (some ⟨kn, 0, none⟩), .pointer (some ⟨kp, 0, none⟩)]] 118)).grownBy w2 (Value.slice aa fs.length ac).ownBlock) => (HD.out.cells.keeps ((Below.refl _ _).alloc (Nat.le_refl _) (.cells #[.func (.func 87) #[] #[.pointer (some ⟨kn, 0, none⟩), .pointer (some ⟨kp, 0, none⟩)]] 118)) HD.out.cells.1).grown hg2 (fun e => by have := (HD.out.row db e.symm).1; omega)
  go_enter Tryz.func66, Tryz.ntmps66
  go_wp2_with (at_builtin; refine wpList_append_rows _ rfl _ _ 95 rfl actLay (db + 1) 118 i0 .nilFunc 8 Tryz.underlying95 Hi.out Hz.out Hs.out.1 Hs.out.2 rfl (by decide) _ fs rfl (Ho.out.alloc _) ⟨w.heap.size, 0, none⟩ 1 ⟨87, #[.pointer (some ⟨kn, 0, none⟩), .pointer (some ⟨kp, 0, none⟩)]⟩ rfl (cells_new_at w w.heap.size #[.func (.func 87) #[] #[.pointer (some ⟨kn, 0, none⟩), .pointer (some ⟨kp, 0, none⟩)]] 118 rfl) (by unfold maxLen; omega) (by omega) (by simp; omega) ?_)
  intro v2 w2 ho2 hg2 hv2
  obtain ⟨h3, ha3⟩ := H0.out v2 w2 ho2 hg2 (by simpa using hv2)
  have hT2 := (HT0.out w2 hg2).set (b := db) 3 v2 (fun _ => HS.out db (.inl rfl))
  have hV2 := HV0.out w2 hg2
  have f3 := hV2.2.1 3
  have k3 : w2.cell? ⟨db, 3, none⟩ = some (.slice aa fs.length ac) := hV2.2.2 3 _ rfl
  obtain ⟨a2, cap2, rfl, _, _⟩ := ho2.read
  have hsz2 : (w2.setCell ⟨db, 3, none⟩ (.slice a2 (fs ++ [(⟨87, #[.pointer (some ⟨kn, 0, none⟩), .pointer (some ⟨kp, 0, none⟩)]⟩ : FnV)]).length cap2)).heap.size = w2.heap.size := by simp
  have H3 := Lib.hid h3
  have HA3 := Lib.hid ha3
  clear hV2 ho2 hg2 hv2 H0 HT0 HV0 h3 ha3
  generalize (fs ++ [(⟨87, #[.pointer (some ⟨kn, 0, none⟩), .pointer (some ⟨kp, 0, none⟩)]⟩ : FnV)]).length = nn at *
  obtain ⟨w3, hw3⟩ : ∃ w3, w2.setCell ⟨db, 3, none⟩ (.slice a2 nn cap2) = w3 := ⟨_, rfl⟩
  have Hw3 := Lib.hid hw3
  rw [hw3] at H3 HA3 hT2 hsz2
  clear hw3
  have Hsz2 := Lib.hid hsz2
  clear hsz2
  go_wp2_with fail
  rw [Hw3.out]
  refine (dies_any w3 db nb fb _ _ _ H3.out).mono ?_
  rintro e w4 ⟨rfl, h4, hT4⟩
  have hT24 := hT2.trans (hT4.mono hT2.size fun k _ hk => HS.out k (.inl hk))
  have HA4 := HA3.out.turned hT4 (Nat.le_refl _) fun k c hk hlt _ => by
    have : k = db := hk
    omega
  have hlt4 : w2.heap.size ≤ w4.heap.size := by rw [← Hsz2.out]; exact hT4.size
  cases hdd : (diesD { d with acts := d.acts ++ [a] }).dead with
  | true =>
    have Hr := Lib.hid (does_dead hdd)
    rw [← hdd]
    rw [hdd]
    clear hdd
    go_wp2_with fail
    go_ret
    rw [Hr.out]
    refine ⟨rfl, ⟨_, h4.mono (fun k hk => ?_) (fun k hk => ?_)⟩, hT24⟩
    · rcases hk with hk | hk
      · exact .inl hk
      · exact .inr ⟨hk.1, Nat.lt_of_lt_of_le hk.2 hlt4⟩
    · rcases hk with hk | hk
      · exact Nat.lt_of_lt_of_le (HD.out.slt k hk) hT24.size
      · exact hk.2
  | false =>
    have Hr := Lib.hid (does_alive hdd)
    have hl4 : (diesD { d with acts := d.acts ++ [a] }).now.length ≤ 100000 := by
      rw [(dies_same _).1]
      exact HL.out
    have c1 : w4.cell? ⟨db, 1, none⟩ = some (.map (some nb)) := h4.cells.2.2 1 _ rfl
    have hc := Hc.out
    have HX : ∃ Q, Hid (Q = fun w5 => MapK strV Tryz.prog 9 w5 nb (doD (diesD { d with acts := d.acts ++ [a] }).now a false) ∧ w4.grownBy w5 (some nb)) ∧ Hid (Calls Tryz.prog 87 (#[.map (some nb), .bool false] ++ #[.pointer (some ⟨kn, 0, none⟩), .pointer (some ⟨kp, 0, none⟩)]) w4 fun e w5 => e = .returned (.tuple #[]) ∧ Q w5) := by
      rcases HA4 with ⟨h, _⟩ | ⟨_, _, n', p', e1, hbn, hbp⟩
      · rw [hc] at h; cases h
      · cases e1
        obtain ⟨kn', e3, _, _, _, _, hn4⟩ := hbn
        obtain ⟨kp', e4, _, _, _, _, hp4⟩ := hbp
        cases e3; cases e4
        have HW := Lib.hid (cutact_any w4 nb kn kp (diesD { d with acts := d.acts ++ [a] }).now false a h4.now hn4 hp4 hc hok.2.2.1 hl4)
        exact ⟨_, Lib.hid rfl, Lib.hid HW.out⟩
    obtain ⟨Q, HQ, HC⟩ := HX
    have H4 := Lib.hid h4
    have hok4 := Lib.hid (doD_ok false h4.ok.now hok)
    have HT24 := Lib.hid hT24
    clear h4 HA4 hT4 hT2 hT24 hc hl4
    go_wp2_with fail
    refine HC.out.mono ?_
    rintro e w5 ⟨rfl, hq⟩
    rw [HQ.out] at hq
    obtain ⟨hM, hg⟩ := hq
    go_wp2_with fail
    go_ret
    rw [Hr.out]
    have hT5 := HT24.out.trans (Turned.of_grown hg HT24.out.size fun k e _ => by cases e; exact HS.out nb (.inr (.inl rfl)))
    refine ⟨rfl, ⟨_, (H4.out.nowTurned hM hg hok4.out).mono (fun k hk => ?_) (fun k hk => ?_)⟩, hT5⟩
    · rcases hk with hk | hk
      · exact .inl hk
      · exact .inr ⟨hk.1, Nat.lt_of_lt_of_le hk.2 (Nat.le_trans hlt4 hg.size)⟩
    · rcases hk with hk | hk
      · exact Nat.lt_of_lt_of_le (HD.out.slt k hk) hT5.size
      · exact hk.2
end Go.Proofs.YtgglheelhbfgiaaGreatDoor

namespace Go.Proofs.YtgglheelhbfgiaaGreatDoor
open Go Go.RowKit Go.Lib
def sumK (es : Fls) (all : List (List UInt8)) : Nat := (all.map fun x => (hasD es (mkB x)).size).sum
theorem sumK_snoc (es : Fls) (all : List (List UInt8)) (x : List UInt8) : sumK es (all ++ [x]) = sumK es all + (hasD es (mkB x)).size := by simp [sumK]
theorem sumK_perm {es : Fls} (hn : (es.map (·.1)).Nodup) {all : List (List UInt8)} (hp : all.Perm (es.map pK)) : sumK es all = sizeF es := by
  unfold sumK sizeF
  rw [(hp.map _).sum_nat, List.map_map]
  congr 1
  refine List.map_congr_left fun x hx => ?_
  show (hasD es (mkB (pK x))).size = x.2.size
  rw [show mkB (pK x) = x.1 from mkB_of x.1, hasD_some (findK_of hn (p := x.1) (a := x.2) hx)]
theorem sumK_le {es : Fls} (h : FilesOK es) (all : List (List UInt8)) : sumK es all ≤ all.length * 4202304 := by
  induction all with
  | nil => exact Nat.zero_le _
  | cons x r ih =>
    have h2 := h.has (mkB x)
    have e : sumK es (x :: r) = (hasD es (mkB x)).size + sumK es r := rfl
    rw [e, List.length_cons]
    omega
theorem str_found {es : Fls} {x : List UInt8} {c : ByteArray} {y : DataW Unit × List MemPlace} (hv : strV.row (Value.string c) = some y) (h : ∀ zd, (datK strV es).atKey (.string x) zd = y.1) : findK es (mkB x) = some c := by
  have h1 := h (.lit (.bool true))
  rw [show (Lit.string x) = .string (mkB x).data.toList from rfl, datK_at] at h1
  have e : y = (strV.enc c, []) := by
    have hv' : strV.row (strV.val c) = some y := hv
    rw [strV.row_val c] at hv'
    exact (Option.some.inj hv').symm
  rw [e] at h1
  cases hf : findK es (mkB x) with
  | some s =>
    rw [hf] at h1
    rw [strV.enc_inj s c h1]
  | none =>
    rw [hf] at h1
    cases h1
set_option maxRecDepth 100000 in
theorem size_any (w : World) (db nb fb : Nat) (v : Value) (S : Nat → Prop) (d : Dk) (h : DAt w db nb fb v S d) (hl : d.now.length ≤ 100000) :
    Calls Tryz.prog 29 #[.pointer (some ⟨db, 0, none⟩)] w fun e w' => e = .returned (.int .i64 (sizeF d.now)) ∧ Below w.heap.size w w' := by
  have hown : w.ownsMap Tryz.prog 9 strV.row nb d.now.length (datK strV d.now) := h.now
  have c1 : w.cell? ⟨db, 1, none⟩ = some (.map (some nb)) := h.cells.2.2 1 _ rfl
  have hbl := h.now.lt
  have hdsz := datK_size strV d.now
  have HN := Lib.hid h.ok.now.nodup
  have HO := Lib.hid h.ok.now
  clear h
  generalize d.now = es at *
  go_enter Tryz.func29, Tryz.ntmps29
  go_wp2_with (at_range; refine wpList_range_own _ rfl _ 94 rfl 9 9 dkeyL Tryz.underlying94 _ nb _ _ rfl hown ?_; intro w0 hrg0 hg0 hs0)
  go_frame
  go_loopw [3, 5] (fun bs _ wr => ∃ (left : Lit → Bool) (cnt : Nat) (all : List (List UInt8)) (m : Nat), wr.ranges Tryz.prog 9 strV.row nb w.heap.size es.length (datK strV es) left cnt ∧ all.length + cnt ≤ Go.Maps.size (datK strV es) ∧
      bs = .int .i64 (m : Int) ∧ Hid (sumK es all = m) ∧ Hid (Collected (datK strV es) left all) ∧ Below w.heap.size w wr)
    (fun _ _ wr => wr.rangeLeft nb w.heap.size)
  case atStart =>
    exact ⟨_, _, [], 0, hrg0, by simp, rfl, Lib.hid rfl, Lib.hid (Collected.start _), (Below.refl _ _).grown hg0 (Nat.le_refl _) (fun j hj => by cases hj)⟩
  case round =>
    obtain ⟨left, cnt, all, m, hrg, hcs, rfl, Hm, HC, hnx⟩ := hrel
    go_wp2_with (at_next; refine wpList_next_ranges _ rfl _ rfl 9 dkeyL strV.row Value.string Value.string (fun key kl hk => by obtain ⟨x, hx, _⟩ := Go.Maps.keyOf_str Tryz.underlying9 hk; exact ⟨mkB x, hx⟩) (fun v y hv => by obtain ⟨c, rfl, _⟩ := rowStr_inv _ _ hv; exact ⟨c, rfl⟩) nb w.heap.size es.length _ _ _ rfl hrg ?_ ?_)
    · intro hc0 hl0
      have hperm : all.Perm (es.map pK) := by
        rw [← datK_keys strV]
        exact HC.out.perm hown dkeyL Tryz.underlying9 hl0
      have hne := Lib.hid (show sizeF es = m from (sumK_perm HN.out hperm).symm.trans Hm.out)
      clear hperm
      go_wp2_with fail
      go_ret
      exact ⟨by rw [hne.out]; rfl, hnx⟩
    · intro q0 c kl yd yp w2 cnt2 hkey hlk hv hat hrg2 hlt hg2 hs2 hen
      obtain ⟨x, ex, rfl, _⟩ := Go.Maps.keyOf_str Tryz.underlying9 hkey
      obtain rfl : q0 = mkB x := Value.string.inj ex
      have hfd := str_found (y := (yd, yp)) hv hat
      have hcz := HO.out.find hfd
      have Hm2 := Lib.hid (show sumK es (all ++ [x]) = m + c.size by rw [sumK_snoc, Hm.out, hasD_some hfd])
      have hle := sumK_le HO.out (all ++ [x])
      rw [Hm2.out, List.length_append, List.length_singleton] at hle
      have hmb : m + c.size ≤ 1000000000000 := by omega
      have HC2 := Lib.hid (HC.out.step hlk hat)
      have hnx2 := hnx.grown hg2 hnx.size (fun j hj => by cases hj; exact Nat.le_refl _)
      have hen2 : (Instr.entry (.pointer (some ⟨w.heap.size, 0, none⟩))).run Tryz.prog w2 = .ok (.tuple #[.string (mkB x), .string c]) w2 := hen
      have Hcs2 := Lib.hid (show (all ++ [x]).length + cnt2 ≤ Go.Maps.size (datK strV es) by rw [List.length_append]; simp only [List.length_cons, List.length_nil]; omega)
      clear hs2 hkey ex hen hat hv hfd hle
      obtain ⟨q, hq⟩ : ∃ q, mkB x = q := ⟨_, rfl⟩
      rw [hq] at hen2
      rw [hq]
      clear hq
      go_wp2_with fail
      go_roundw
      case rel => exact ⟨_, cnt2, all ++ [x], m + c.size, hrg2, Hcs2.out, by simp, Hm2, HC2, hnx2⟩
      case measure => rw [hrg2.left_eq, hrg.left_eq]; exact hlt
end Go.Proofs.YtgglheelhbfgiaaGreatDoor

