/-
  A disk: Crash. sync.Once in one goroutine, as crc's table uses it: the lock, the two deferred calls. Several cells of one block, written one behind the other. Of no program. crc's table: its steps are laid.
-/
import Derived.Test.YtgglheelhbfgiaaGreatDoorMg18
import Derived.Test.YtgglheelhbfgiaaGreatDoorProg
import Derived.Test.YtgglheelhbfgiaaGreatDoorMg1
import Derived.Test.YtgglheelhbfgiaaGreatDoorMg11
import Derived.Test.YtgglheelhbfgiaaGreatDoorMg15
import Derived.Defers
import Derived.Laws.Pointers
import Derived.Laws.LoneSync
import Derived.RegionTactic
import Derived.RegionCalls
import Derived.ChangeAlike
import Derived.Laws.NewBlocks
import Derived.Test.YtgglheelhbfgiaaGreatDoorMg4
import Derived.Laws.BitsAllLaws
import Derived.IntWalk
namespace Go.Proofs.YtgglheelhbfgiaaGreatDoor
open Go Go.RowKit Go.Lib
theorem and_one_any (x : Int) : bits .and .i64 x 1 = x % 2 := by
  unfold bits
  dsimp only
  rw [BitVec.toNat_and, show (BitVec.ofInt IntKind.i64.bits 1).toNat = 1 from rfl, Nat.and_one_is_mod, BitVec.toNat_ofInt]
  rw [show IntKind.i64.bits = 64 from rfl]
  have e : ((x % ((2 ^ 64 : Nat) : Int)).toNat % 2 : Nat) = (x % 2).toNat := by omega
  rw [e]
  have h0 : 0 ≤ x % 2 := by omega
  have h1 : x % 2 < 2 := by omega
  rw [Int.toNat_of_nonneg h0, IntKind.wrap_i64]
  omega
theorem bit_test (keep : Int) (k : Nat) : (bits .and .i64 (keep / 2 ^ (k % 30)) 1 == 1) = bitD keep k := by
  rw [and_one_any]
  unfold bitD
  by_cases h : keep / 2 ^ (k % 30) % 2 = 1
  · rw [h, decide_eq_true rfl]
    rfl
  · rw [decide_eq_false h]
    exact beq_eq_false_iff_ne.2 h
section
variable {α : Type}
def keptA (keep : Int) : Nat → List α → List α
  | _, [] => []
  | i, a :: r => if bitD keep i then a :: keptA keep (i + 1) r else keptA keep (i + 1) r
theorem kept_eq (keep : Int) : ∀ (l : List ActD) (i : Nat), keptD keep i l = keptA keep i l
  | [], _ => rfl
  | a :: r, i => by rw [keptD, keptA, kept_eq keep r (i + 1)]
theorem keptA_append (keep : Int) : ∀ (l m : List α) (i : Nat), keptA keep i (l ++ m) = keptA keep i l ++ keptA keep (i + l.length) m
  | [], _, _ => rfl
  | a :: r, m, i => by
    rw [List.cons_append, keptA, keptA, keptA_append keep r m (i + 1), List.length_cons, show i + 1 + r.length = i + (r.length + 1) by omega]
    split <;> rfl
theorem keptA_take {l : List α} {k : Nat} {x : α} (keep : Int) (h : l[k]? = some x) : keptA keep 0 (l.take (k + 1)) = keptA keep 0 (l.take k) ++ (if bitD keep k then [x] else []) := by
  obtain ⟨hk, e⟩ := List.getElem?_eq_some_iff.1 h
  rw [List.take_succ_eq_append_getElem hk, e, keptA_append, List.length_take, Nat.min_eq_left (Nat.le_of_lt hk), Nat.zero_add]
  rfl
theorem keptA_len (keep : Int) : ∀ (l : List α) (i : Nat), (keptA keep i l).length ≤ l.length
  | [], _ => Nat.le_refl _
  | a :: r, i => by
    have := keptA_len keep r (i + 1)
    unfold keptA
    split <;> simp only [List.length_cons] <;> omega
theorem run_snoc (torn : Bool) : ∀ (l : List ActD) (a : ActD) (es : Fls), runD torn es (l ++ [a]) = doD (l.foldl (fun e x => doD e x false) es) a torn
  | [], _, _ => rfl
  | [_], _, _ => rfl
  | b :: c :: r, a, es => run_snoc torn (c :: r) a (doD es b false)
/-- The files behind the first k of some acts, the last of which may be torn. -/
def RunTo (torn : Bool) (es0 : Fls) (l : List ActD) (k : Nat) (es : Fls) : Prop := (k < l.length → es = (l.take k).foldl (fun e x => doD e x false) es0) ∧ (k = l.length → es = runD torn es0 l)
theorem runTo_start (torn : Bool) (es0 : Fls) (l : List ActD) : RunTo torn es0 l 0 es0 := ⟨fun _ => rfl, fun h => by
  have : l = [] := List.length_eq_zero_iff.1 h.symm
  rw [this]
  rfl⟩
theorem runTo_step {torn : Bool} {es0 es : Fls} {l : List ActD} {k : Nat} {a : ActD} (h : RunTo torn es0 l k es) (ha : l[k]? = some a) : RunTo torn es0 l (k + 1) (doD es a (torn && decide (k + 1 = l.length))) := by
  obtain ⟨hk, e⟩ := List.getElem?_eq_some_iff.1 ha
  have h1 := h.1 hk
  constructor
  · intro h2
    rw [decide_eq_false (by omega), Bool.and_false, List.take_succ_eq_append_getElem hk, e, List.foldl_append, ← h1]
    rfl
  · intro h2
    have e2 : l = l.take k ++ [a] := by
      have := List.take_succ_eq_append_getElem hk
      rw [e, h2, List.take_length] at this
      exact this
    rw [decide_eq_true h2, Bool.and_true, h1]
    have := run_snoc torn (l.take k) a es0
    rw [← e2] at this
    exact this.symm
end
theorem ActsAt.kept {w : World} {db : Nat} {v : Value} {S : Nat → Prop} {fs : List FnV} {xs : List ActD} (keep : Int) (h : ActsAt w db v S fs xs) : ∀ i, ActsAt w db v S (keptA keep i fs) (keptA keep i xs) := by
  induction h with
  | nil => exact fun _ => .nil
  | cons h1 _ ih =>
    intro i
    unfold keptA
    split
    · exact .cons h1 (ih _)
    · exact ih _
theorem ActsAt.at {w : World} {db : Nat} {v : Value} {S : Nat → Prop} {fs : List FnV} {xs : List ActD} (h : ActsAt w db v S fs xs) : ∀ {k : Nat} {f : FnV}, fs[k]? = some f → ∃ a, xs[k]? = some a ∧ ActAt w db v S f a := by
  induction h with
  | nil => exact fun hk => by cases hk
  | cons h1 _ ih =>
    intro k f hk
    cases k with
    | zero =>
      cases hk
      exact ⟨_, rfl, h1⟩
    | succ k => exact ih (k := k) hk
theorem fold_ok {l : List ActD} {es : Fls} (h : FilesOK es) (ha : ∀ a ∈ l, ActOK a) : FilesOK (l.foldl (fun e x => doD e x false) es) := by
  induction l generalizing es with
  | nil => exact h
  | cons a r ih => exact ih (doD_ok false h (ha a List.mem_cons_self)) fun x hx => ha x (List.mem_cons_of_mem _ hx)
theorem fold_len (l : List ActD) (es : Fls) : (l.foldl (fun e x => doD e x false) es).length ≤ es.length + l.length := by
  induction l generalizing es with
  | nil => exact Nat.le_refl _
  | cons a r ih =>
    have h1 := ih (doD es a false)
    have h2 := doD_len es a false
    simp only [List.foldl_cons, List.length_cons] at h1 ⊢
    omega
/-- The files that last have turned. -/
theorem DAt.firmTurned {w w' : World} {db nb fb : Nat} {v : Value} {S : Nat → Prop} {d : Dk} {es : Fls} (h : DAt w db nb fb v S d) (hM : MapK strV Tryz.prog 9 w' fb es) (hg : w.grownBy w' (some fb)) (hes : FilesOK es) : DAt w' db nb fb v S { d with firm := es } := by
  obtain ⟨fs, ho, ha⟩ := h.acts
  have hn := h.fbdb
  have hrow := h.row
  have hT : Turned (fun k => k = fb) w.heap.size w w' := Turned.of_grown hg (Nat.le_refl _) fun k e _ => by cases e; rfl
  refine ⟨h.cells.same (hT.block db h.cells.1 (by omega)) hT.size, h.now.same (hT.block nb h.now.lt h.ne), hM, h.nbdb, hn, h.ne, ⟨fs, ho.turnedOther hT fun k hk e => (hrow k hk).2.2.2 e, ha.turned hT (Nat.le_refl _) fun k c hk hlt hc => ?_⟩, h.sdb, h.snb, h.sfb, h.sv, fun k hk => Nat.lt_of_lt_of_le (h.slt k hk) hT.size, ⟨h.ok.limit, h.ok.now, hes, h.ok.acts⟩⟩
  have e : k = fb := hk
  subst e
  obtain ⟨rows, clock, hb, _⟩ := h.firm
  simp [World.cell?, hb] at hc
set_option maxRecDepth 100000 in
set_option maxHeartbeats 6400000 in
theorem crash_any (w : World) (db nb fb : Nat) (v : Value) (S : Nat → Prop) (d : Dk) (keep : Int) (torn : Bool) (h : DAt w db nb fb v S d) (hl : d.firm.length + d.acts.length ≤ 100000) :
    Calls Tryz.prog 23 #[.pointer (some ⟨db, 0, none⟩), .int .i64 keep, .bool torn] w fun e w' => e = .returned (.tuple #[]) ∧ DGo w db S (crashD d keep torn) w' := by
  obtain ⟨fs, ho, hacts⟩ := h.acts
  have hfl := hacts.len
  obtain ⟨aa, ac, rfl, hrows, hcap⟩ := ho.read
  have c3 : w.cell? ⟨db, 3, none⟩ = some (.slice aa fs.length ac) := h.cells.2.2 3 _ rfl
  obtain ⟨i0, hi, hz, hs⟩ : ∃ i, Tryz.prog.info? 118 = some i ∧ i.zero = some .nilFunc ∧ i.size = 1 ∧ i.bytes = 8 := by
    have := actInfo
    cases e : Tryz.prog.info? 118 with
    | none => rw [e] at this; cases this
    | some i => rw [e] at this; simp only [Option.map_some, Option.some.injEq, Prod.mk.injEq] at this; exact ⟨i, rfl, this.1, this.2.1, this.2.2⟩
  have Hi := Lib.hid hi
  have Hz := Lib.hid hz
  have Hs := Lib.hid hs
  have HD := Lib.hid h
  have Hacts := Lib.hid hacts
  have HR := Lib.hid hrows
  clear hi hz hs h hacts ho hrows
  have hfm : fs.length ≤ 100000 := by omega
  have HL := Lib.hid hl
  have Hfl := Lib.hid hfl
  clear hl hfl
  go_enter Tryz.func23, Tryz.ntmps23
  go_wp2_with fail
  go_loopw [6, 7, 8, 18] (fun q _ _ i wr => ∃ k : Nat, k ≤ fs.length ∧ i = .int .i64 k ∧ OwnRows actLay wr w.heap.size 118 q (keptA keep 0 (fs.take k)) ∧ Below w.heap.size w wr) (fun _ _ _ i _ => fs.length - (RowKit.intOf i).toNat)
  case atStart => exact ⟨0, Nat.zero_le _, rfl, OwnRows.nil _ _ _ _, Below.refl _ _⟩
  case round =>
    obtain ⟨k, hk, rfl, hq, hb⟩ := hrel
    by_cases hlt : k < fs.length
    · obtain ⟨⟨fn, ps⟩, hf⟩ := at_some hlt
      obtain ⟨bx, off, hae, hbl, hc⟩ := (HR.out.keeps hb) k _ hf
      have hc0 : wr.cell? ⟨bx, off + k, none⟩ = some (.func (.func fn) #[] ps) := by
        have := hc 0 _ rfl
        rwa [show off + k * actLay.sz + 0 = off + k by show off + k * 1 + 0 = _; omega] at this
      have hlti : (k : Int) < (fs.length : Int) := by omega
      have Htk := Lib.hid (keptA_take keep hf)
      have hbt := bit_test keep k
      have hkl : (keptA keep 0 (fs.take k)).length ≤ 100000 := by
        refine Nat.le_trans (keptA_len keep _ 0) ?_
        rw [List.length_take]
        omega
      subst hae
      clear hc hf
      cases hbd : bitD keep k with
      | true =>
        rw [hbd] at hbt Htk
        clear hbd
        generalize hacc : keptA keep 0 (fs.take k) = acc at *
        have Hq := Lib.hid hq
        clear hq hacc
        go_wp2_with (at_builtin; refine wpList_append_rows _ rfl _ _ 95 rfl actLay w.heap.size 118 i0 .nilFunc 8 Tryz.underlying95 Hi.out Hz.out Hs.out.1 Hs.out.2 rfl (by decide) _ acc rfl (Hq.out.alloc _) ⟨wr.heap.size, 0, none⟩ 1 ⟨fn, ps⟩ rfl (cells_new_at wr wr.heap.size #[.func (.func fn) #[] ps] 118 rfl) (by unfold maxLen; omega) (by omega) (by have := hb.size; simp; omega) ?_; intro va w3 hrow3 hg3 _; go_frame)
        have hb3 := (hb.alloc hb.size (.cells #[.func (.func fn) #[] ps] 118)).grown hg3 (by have := hb.size; simp; omega) (fun j ej => (Hq.out.lt ej).1)
        go_roundw
        case rel => exact ⟨k + 1, by omega, by go_num, by rw [Htk.out]; exact hrow3, hb3⟩
        case measure => simp [RowKit.intOf]; omega
      | false =>
        rw [hbd] at hbt Htk
        clear hbd
        go_wp2_with fail
        go_roundw
        case rel => exact ⟨k + 1, by omega, by go_num, by rw [Htk.out]; simpa using hq, hb⟩
        case measure => simp [RowKit.intOf]; omega
    · obtain rfl : k = fs.length := by omega
      rw [List.take_length] at hq
      have hKA := Hacts.out.kept keep 0
      have HeK := Lib.hid (kept_eq keep d.acts 0)
      have hKl := hKA.len
      have hlen := keptA_len keep fs 0
      have hKal := keptA_len keep d.acts 0
      obtain ⟨K, hK⟩ : ∃ K, keptA keep 0 fs = K := ⟨_, rfl⟩
      obtain ⟨KA, hKAe⟩ : ∃ KA, keptA keep 0 d.acts = KA := ⟨_, rfl⟩
      rw [hK] at hq hKA hKl hlen
      rw [hKAe] at hKA hKl HeK hKal
      have HokA := Lib.hid (show ∀ a ∈ KA, ActOK a from fun a ha => HD.out.ok.acts a (kept_mem (keep := keep) d.acts 0 a (by rw [HeK.out]; exact ha)))
      clear hK hKAe
      obtain ⟨qa, qc, rfl, _, _⟩ := hq.read
      have hDr := HD.out.below hb
      have hAr := hKA.map fun x c hx => hx.turned (Turned.of_below (S := fun _ => False) hb (Nat.le_refl _)) (Nat.le_refl _) (fun _ _ hf => hf.elim)
      have HLt := Lib.hid (show d.firm.length + KA.length ≤ 100000 by have := HL.out; omega)
      have hKm : K.length ≤ 100000 := by omega
      have hfbl := HD.out.firm.lt
      have Hfbl := Lib.hid hfbl
      have Hqd := Lib.hid (show ∀ j, (Value.slice qa K.length qc).ownBlock = some j → w.heap.size ≤ j from fun j hj => (hq.lt hj).1)
      have HKl := Lib.hid hKl
      clear hKA hlen hKal hfbl hKl
      obtain ⟨w1, hw1⟩ : ∃ w1, wr = w1 := ⟨_, rfl⟩
      subst hw1
      go_wp2_with fail
      go_loopw [9, 10, 36] (fun _ _ i wx => ∃ (k : Nat) (es : Fls), k ≤ K.length ∧ i = .int .i64 k ∧ DAt wx db nb fb (.slice aa fs.length ac) S { d with firm := es } ∧ Hid (RunTo torn d.firm KA k es) ∧ OwnRows actLay wx w.heap.size 118 (.slice qa K.length qc) K ∧ ActsAt wx db (.slice aa fs.length ac) S K KA ∧ Hid (es.length ≤ d.firm.length + k) ∧ Turned S w.heap.size w wx) (fun _ _ i _ => K.length - (RowKit.intOf i).toNat)
      case atStart => exact ⟨0, d.firm, Nat.zero_le _, rfl, hDr, Lib.hid (runTo_start torn _ _), hq, hAr, Lib.hid (Nat.le_refl _), Turned.of_below hb (Nat.le_refl _)⟩
      case round =>
        obtain ⟨k, es, hk, rfl, hD2, HRun, ho2, hA2, Hes, hT⟩ := hrel
        by_cases hlt : k < K.length
        · obtain ⟨⟨fn, ps⟩, hf⟩ := at_some hlt
          obtain ⟨qa', qc', hqe, hrowsK, _⟩ := ho2.read
          cases hqe
          obtain ⟨bx, off, hae, hbl, hc⟩ := hrowsK k _ hf
          have hc0 : wr.cell? ⟨bx, off + k, none⟩ = some (.func (.func fn) #[] ps) := by
            have := hc 0 _ rfl
            rwa [show off + k * actLay.sz + 0 = off + k by show off + k * 1 + 0 = _; omega] at this
          obtain ⟨a, ha, hact⟩ := hA2.at hf
          have hoka := HokA.out a (List.mem_of_getElem? ha)
          have Hoka := Lib.hid hoka
          have c2 : wr.cell? ⟨db, 2, none⟩ = some (.map (some fb)) := hD2.cells.2.2 2 _ rfl
          have hEs : es.length ≤ 100000 := by
            have h1 := HLt.out
            have h2 := HKl.out
            have h3 := Hes.out
            omega
          have hlti : (k : Int) < (K.length : Int) := by omega
          have hstep := runTo_step HRun.out ha
          subst hae
          clear hc hf ha hrowsK
          rcases hact with ⟨hcut, rfl, pd, pn, pp, rfl, hbd, hbn, hbp⟩ | ⟨hcut, rfl, pn, pp, rfl, hbn, hbp⟩
          · obtain ⟨kd, rfl, _, _, _, _, hbd2⟩ := hbd
            obtain ⟨kn, rfl, _, hkn2, _, _, hbn2⟩ := hbn
            obtain ⟨kp, rfl, _, _, _, _, hbp2⟩ := hbp
            cases torn with
            | false =>
              rw [Bool.false_and] at hstep
              have HC := Lib.hid (writeact_any wr fb kd kn kp es false a hD2.firm hbd2 hbn2 hbp2 hkn2 hcut hoka.2.2.1 hEs (Nat.le_trans (hD2.ok.firm.has a.name) (by decide)) hoka.2.1 (Nat.le_trans hoka.1 (by decide)))
              have Hstep := Lib.hid (show RunTo _ d.firm KA (k + 1) (doD es a false) from hstep)
              have HD2 := Lib.hid hD2
              have Ho2 := Lib.hid ho2
              have HA2 := Lib.hid hA2
              have HT := Lib.hid hT
              clear hD2 ho2 hA2 hT hstep hoka hEs hcut
              go_wp2_with fail
              refine HC.out.mono ?_
              rintro e w5 ⟨rfl, hM, hg⟩
              have hD3 := HD2.out.firmTurned hM hg (doD_ok _ HD2.out.ok.firm Hoka.out)
              have ho3 := Ho2.out.kept hg (.inr fun e => by have := Hqd.out fb e; have := Hfbl.out; omega)
              have hA3 := HA2.out.map fun x c hx => hx.turned (Turned.of_grown (S := fun j => j = fb) hg (Nat.le_refl _) fun j ej _ => by cases ej; rfl) (Nat.le_refl _) fun j c hj _ hjc => by
                have e : j = fb := hj
                subst e
                obtain ⟨rows, clock, hb, _⟩ := HD2.out.firm
                simp [World.cell?, hb] at hjc
              have hT3 := HT.out.trans (Turned.of_grown hg HT.out.size fun j ej _ => by cases ej; exact HD.out.sfb)
              have hl3 := doD_len es a false
              go_wp2_with fail
              go_roundw
              case rel => exact ⟨k + 1, _, by omega, by go_num, hD3, Hstep, ho3, hA3, Lib.hid (by have := Hes.out; omega), hT3⟩
              case measure => simp [RowKit.intOf]; omega
            | true =>
              rw [Bool.true_and] at hstep
              by_cases hlast : k + 1 = KA.length
              · rw [decide_eq_true hlast] at hstep
                have ht1 : ((k : Int) == (K.length : Int) - 1) = true := beq_iff_eq.2 (by have := HKl.out; omega)
                have ht2 : (k : Int) = (K.length : Int) - 1 := by have := HKl.out; omega
                clear hlast ht2
                have HC := Lib.hid (writeact_any wr fb kd kn kp es true a hD2.firm hbd2 hbn2 hbp2 hkn2 hcut hoka.2.2.1 hEs (Nat.le_trans (hD2.ok.firm.has a.name) (by decide)) hoka.2.1 (Nat.le_trans hoka.1 (by decide)))
                have Hstep := Lib.hid (show RunTo _ d.firm KA (k + 1) (doD es a true) from hstep)
                have HD2 := Lib.hid hD2
                have Ho2 := Lib.hid ho2
                have HA2 := Lib.hid hA2
                have HT := Lib.hid hT
                clear hD2 ho2 hA2 hT hstep hoka hEs hcut
                go_wp2_with fail
                refine HC.out.mono ?_
                rintro e w5 ⟨rfl, hM, hg⟩
                have hD3 := HD2.out.firmTurned hM hg (doD_ok _ HD2.out.ok.firm Hoka.out)
                have ho3 := Ho2.out.kept hg (.inr fun e => by have := Hqd.out fb e; have := Hfbl.out; omega)
                have hA3 := HA2.out.map fun x c hx => hx.turned (Turned.of_grown (S := fun j => j = fb) hg (Nat.le_refl _) fun j ej _ => by cases ej; rfl) (Nat.le_refl _) fun j c hj _ hjc => by
                  have e : j = fb := hj
                  subst e
                  obtain ⟨rows, clock, hb, _⟩ := HD2.out.firm
                  simp [World.cell?, hb] at hjc
                have hT3 := HT.out.trans (Turned.of_grown hg HT.out.size fun j ej _ => by cases ej; exact HD.out.sfb)
                have hl3 := doD_len es a true
                go_wp2_with fail
                go_roundw
                case rel => exact ⟨k + 1, _, by omega, by go_num, hD3, Hstep, ho3, hA3, Lib.hid (by have := Hes.out; omega), hT3⟩
                case measure => simp [RowKit.intOf]; omega
              · rw [decide_eq_false hlast] at hstep
                have ht1 : ((k : Int) == (K.length : Int) - 1) = false := beq_eq_false_iff_ne.2 (by have := HKl.out; omega)
                clear hlast
                have HC := Lib.hid (writeact_any wr fb kd kn kp es false a hD2.firm hbd2 hbn2 hbp2 hkn2 hcut hoka.2.2.1 hEs (Nat.le_trans (hD2.ok.firm.has a.name) (by decide)) hoka.2.1 (Nat.le_trans hoka.1 (by decide)))
                have Hstep := Lib.hid (show RunTo _ d.firm KA (k + 1) (doD es a false) from hstep)
                have HD2 := Lib.hid hD2
                have Ho2 := Lib.hid ho2
                have HA2 := Lib.hid hA2
                have HT := Lib.hid hT
                clear hD2 ho2 hA2 hT hstep hoka hEs hcut
                go_wp2_with fail
                refine HC.out.mono ?_
                rintro e w5 ⟨rfl, hM, hg⟩
                have hD3 := HD2.out.firmTurned hM hg (doD_ok _ HD2.out.ok.firm Hoka.out)
                have ho3 := Ho2.out.kept hg (.inr fun e => by have := Hqd.out fb e; have := Hfbl.out; omega)
                have hA3 := HA2.out.map fun x c hx => hx.turned (Turned.of_grown (S := fun j => j = fb) hg (Nat.le_refl _) fun j ej _ => by cases ej; rfl) (Nat.le_refl _) fun j c hj _ hjc => by
                  have e : j = fb := hj
                  subst e
                  obtain ⟨rows, clock, hb, _⟩ := HD2.out.firm
                  simp [World.cell?, hb] at hjc
                have hT3 := HT.out.trans (Turned.of_grown hg HT.out.size fun j ej _ => by cases ej; exact HD.out.sfb)
                have hl3 := doD_len es a false
                go_wp2_with fail
                go_roundw
                case rel => exact ⟨k + 1, _, by omega, by go_num, hD3, Hstep, ho3, hA3, Lib.hid (by have := Hes.out; omega), hT3⟩
                case measure => simp [RowKit.intOf]; omega
          · obtain ⟨kn, rfl, _, _, _, _, hbn2⟩ := hbn
            obtain ⟨kp, rfl, _, _, _, _, hbp2⟩ := hbp
            cases torn with
            | false =>
              rw [Bool.false_and] at hstep
              have HC := Lib.hid (cutact_any wr fb kn kp es false a hD2.firm hbn2 hbp2 hcut hoka.2.2.1 hEs)
              have Hstep := Lib.hid (show RunTo _ d.firm KA (k + 1) (doD es a false) from hstep)
              have HD2 := Lib.hid hD2
              have Ho2 := Lib.hid ho2
              have HA2 := Lib.hid hA2
              have HT := Lib.hid hT
              clear hD2 ho2 hA2 hT hstep hoka hEs hcut
              go_wp2_with fail
              refine HC.out.mono ?_
              rintro e w5 ⟨rfl, hM, hg⟩
              have hD3 := HD2.out.firmTurned hM hg (doD_ok _ HD2.out.ok.firm Hoka.out)
              have ho3 := Ho2.out.kept hg (.inr fun e => by have := Hqd.out fb e; have := Hfbl.out; omega)
              have hA3 := HA2.out.map fun x c hx => hx.turned (Turned.of_grown (S := fun j => j = fb) hg (Nat.le_refl _) fun j ej _ => by cases ej; rfl) (Nat.le_refl _) fun j c hj _ hjc => by
                have e : j = fb := hj
                subst e
                obtain ⟨rows, clock, hb, _⟩ := HD2.out.firm
                simp [World.cell?, hb] at hjc
              have hT3 := HT.out.trans (Turned.of_grown hg HT.out.size fun j ej _ => by cases ej; exact HD.out.sfb)
              have hl3 := doD_len es a false
              go_wp2_with fail
              go_roundw
              case rel => exact ⟨k + 1, _, by omega, by go_num, hD3, Hstep, ho3, hA3, Lib.hid (by have := Hes.out; omega), hT3⟩
              case measure => simp [RowKit.intOf]; omega
            | true =>
              rw [Bool.true_and] at hstep
              by_cases hlast : k + 1 = KA.length
              · rw [decide_eq_true hlast] at hstep
                have ht1 : ((k : Int) == (K.length : Int) - 1) = true := beq_iff_eq.2 (by have := HKl.out; omega)
                have ht2 : (k : Int) = (K.length : Int) - 1 := by have := HKl.out; omega
                clear hlast ht2
                have HC := Lib.hid (cutact_any wr fb kn kp es true a hD2.firm hbn2 hbp2 hcut hoka.2.2.1 hEs)
                have Hstep := Lib.hid (show RunTo _ d.firm KA (k + 1) (doD es a true) from hstep)
                have HD2 := Lib.hid hD2
                have Ho2 := Lib.hid ho2
                have HA2 := Lib.hid hA2
                have HT := Lib.hid hT
                clear hD2 ho2 hA2 hT hstep hoka hEs hcut
                go_wp2_with fail
                refine HC.out.mono ?_
                rintro e w5 ⟨rfl, hM, hg⟩
                have hD3 := HD2.out.firmTurned hM hg (doD_ok _ HD2.out.ok.firm Hoka.out)
                have ho3 := Ho2.out.kept hg (.inr fun e => by have := Hqd.out fb e; have := Hfbl.out; omega)
                have hA3 := HA2.out.map fun x c hx => hx.turned (Turned.of_grown (S := fun j => j = fb) hg (Nat.le_refl _) fun j ej _ => by cases ej; rfl) (Nat.le_refl _) fun j c hj _ hjc => by
                  have e : j = fb := hj
                  subst e
                  obtain ⟨rows, clock, hb, _⟩ := HD2.out.firm
                  simp [World.cell?, hb] at hjc
                have hT3 := HT.out.trans (Turned.of_grown hg HT.out.size fun j ej _ => by cases ej; exact HD.out.sfb)
                have hl3 := doD_len es a true
                go_wp2_with fail
                go_roundw
                case rel => exact ⟨k + 1, _, by omega, by go_num, hD3, Hstep, ho3, hA3, Lib.hid (by have := Hes.out; omega), hT3⟩
                case measure => simp [RowKit.intOf]; omega
              · rw [decide_eq_false hlast] at hstep
                have ht1 : ((k : Int) == (K.length : Int) - 1) = false := beq_eq_false_iff_ne.2 (by have := HKl.out; omega)
                clear hlast
                have HC := Lib.hid (cutact_any wr fb kn kp es false a hD2.firm hbn2 hbp2 hcut hoka.2.2.1 hEs)
                have Hstep := Lib.hid (show RunTo _ d.firm KA (k + 1) (doD es a false) from hstep)
                have HD2 := Lib.hid hD2
                have Ho2 := Lib.hid ho2
                have HA2 := Lib.hid hA2
                have HT := Lib.hid hT
                clear hD2 ho2 hA2 hT hstep hoka hEs hcut
                go_wp2_with fail
                refine HC.out.mono ?_
                rintro e w5 ⟨rfl, hM, hg⟩
                have hD3 := HD2.out.firmTurned hM hg (doD_ok _ HD2.out.ok.firm Hoka.out)
                have ho3 := Ho2.out.kept hg (.inr fun e => by have := Hqd.out fb e; have := Hfbl.out; omega)
                have hA3 := HA2.out.map fun x c hx => hx.turned (Turned.of_grown (S := fun j => j = fb) hg (Nat.le_refl _) fun j ej _ => by cases ej; rfl) (Nat.le_refl _) fun j c hj _ hjc => by
                  have e : j = fb := hj
                  subst e
                  obtain ⟨rows, clock, hb, _⟩ := HD2.out.firm
                  simp [World.cell?, hb] at hjc
                have hT3 := HT.out.trans (Turned.of_grown hg HT.out.size fun j ej _ => by cases ej; exact HD.out.sfb)
                have hl3 := doD_len es a false
                go_wp2_with fail
                go_roundw
                case rel => exact ⟨k + 1, _, by omega, by go_num, hD3, Hstep, ho3, hA3, Lib.hid (by have := Hes.out; omega), hT3⟩
                case measure => simp [RowKit.intOf]; omega
        · obtain rfl : k = K.length := by omega
          have Hrun := Lib.hid (HRun.out.2 HKl.out)
          have hCr := Lib.hid (show crashD d keep torn = { d with firm := es, now := es, acts := [], armed := 0, dead := false } by
            unfold crashD
            rw [HeK.out, ← Hrun.out])
          have H1 := Lib.hid hD2
          have HT1 := Lib.hid hT
          have k1 : wr.cell? ⟨db, 1, none⟩ = some (.map (some nb)) := hD2.cells.2.2 1 _ rfl
          have k2 : wr.cell? ⟨db, 2, none⟩ = some (.map (some fb)) := hD2.cells.2.2 2 _ rfl
          have k3 : wr.cell? ⟨db, 3, none⟩ = some (.slice aa fs.length ac) := hD2.cells.2.2 3 _ rfl
          have k4 : wr.cell? ⟨db, 4, none⟩ = some (.int .i64 d.armed) := hD2.cells.2.2 4 _ rfl
          have k5 : wr.cell? ⟨db, 5, none⟩ = some (.bool d.dead) := hD2.cells.2.2 5 _ rfl
          have f1 := hD2.cells.2.1 1
          have f3 := hD2.cells.2.1 3
          have f4 := hD2.cells.2.1 4
          have f5 := hD2.cells.2.1 5
          have hdb1 := hD2.cells.1
          obtain ⟨rows, clock, hbc, hcopy⟩ := hD2.firm.copy
          have Hcopy := Lib.hid hcopy
          clear hD2 hT hcopy ho2 hA2
          go_wp2_with fail
          refine (dclone_any fb rows clock wr hbc).mono ?_
          rintro e w2 ⟨rfl, rfl⟩
          go_wp2_with fail
          go_end0
          rw [hCr.out]
          have hh1 := H1.out
          have hs2 : ((((wr.setCell ⟨db, 1, none⟩ (.map (some wr.heap.size))).setCell ⟨db, 3, none⟩ (.slice none 0 0)).setCell ⟨db, 5, none⟩ (.bool false)).setCell ⟨db, 4, none⟩ (.int .i64 0)).heap.size = wr.heap.size := by simp
          have hblk : ∀ j, j < wr.heap.size → j ≠ db → (((((wr.setCell ⟨db, 1, none⟩ (.map (some wr.heap.size))).setCell ⟨db, 3, none⟩ (.slice none 0 0)).setCell ⟨db, 5, none⟩ (.bool false)).setCell ⟨db, 4, none⟩ (.int .i64 0)).alloc (.map rows clock)).heap[j]? = wr.heap[j]? := fun j hj hne =>
            (Below.heap_alloc _ _ j (by rw [hs2]; exact hj)).trans ((heap_other _ _ hne).trans ((heap_other _ _ hne).trans ((heap_other _ _ hne).trans (heap_other _ _ hne))))
          have hnew : (((((wr.setCell ⟨db, 1, none⟩ (.map (some wr.heap.size))).setCell ⟨db, 3, none⟩ (.slice none 0 0)).setCell ⟨db, 5, none⟩ (.bool false)).setCell ⟨db, 4, none⟩ (.int .i64 0)).alloc (.map rows clock)).heap[wr.heap.size]? = some (.map rows clock) := by
            have := (MapKept.heap_alloc ((((wr.setCell ⟨db, 1, none⟩ (.map (some wr.heap.size))).setCell ⟨db, 3, none⟩ (.slice none 0 0)).setCell ⟨db, 5, none⟩ (.bool false)).setCell ⟨db, 4, none⟩ (.int .i64 0)) (.map rows clock)).1
            rw [hs2] at this
            exact this
          have hsz : (((((wr.setCell ⟨db, 1, none⟩ (.map (some wr.heap.size))).setCell ⟨db, 3, none⟩ (.slice none 0 0)).setCell ⟨db, 5, none⟩ (.bool false)).setCell ⟨db, 4, none⟩ (.int .i64 0)).alloc (.map rows clock)).heap.size = wr.heap.size + 1 := by simp
          have hT2 : Turned S w.heap.size w (((((wr.setCell ⟨db, 1, none⟩ (.map (some wr.heap.size))).setCell ⟨db, 3, none⟩ (.slice none 0 0)).setCell ⟨db, 5, none⟩ (.bool false)).setCell ⟨db, 4, none⟩ (.int .i64 0)).alloc (.map rows clock)) := ((((HT1.out.set 1 _ fun _ => HD.out.sdb).set 3 _ fun _ => HD.out.sdb).set 5 _ fun _ => HD.out.sdb).set 4 _ fun _ => HD.out.sdb).alloc (by rw [hs2]; exact HT1.out.size) _
          have hV2 : VarAt (((((wr.setCell ⟨db, 1, none⟩ (.map (some wr.heap.size))).setCell ⟨db, 3, none⟩ (.slice none 0 0)).setCell ⟨db, 5, none⟩ (.bool false)).setCell ⟨db, 4, none⟩ (.int .i64 0)).alloc (.map rows clock)) db (((((diskCells { d with firm := es } nb fb (.slice aa fs.length ac)).set 1 (.map (some wr.heap.size))).set 3 (.slice none 0 0)).set 5 (.bool false)).set 4 (.int .i64 0)) := ((((hh1.cells.set 1 (.map (some wr.heap.size)) (by simp [diskCells])).set 3 (.slice none 0 0) (by simp [diskCells])).set 5 (.bool false) (by simp [diskCells])).set 4 (.int .i64 0) (by simp [diskCells])).keeps ((Below.refl _ _).alloc (Nat.le_refl _) _) (by rw [hs2]; exact hdb1)
          have hnow := Hcopy.out _ _ hnew
          have hns := hh1.fbdb
          have hslt := hh1.slt
          have hfb := hh1.firm.lt
          have hfo := hh1.ok.firm
          refine ⟨rfl, ⟨wr.heap.size, fb, .slice none 0 0, ?_⟩, hT2⟩
          refine ⟨hV2, hnow, hh1.firm.same (hblk fb hfb (by omega)), by omega, hns, by omega, ⟨[], OwnRows.nil _ _ _ _, .nil⟩, .inl hh1.sdb, .inr ⟨HT1.out.size, by omega⟩, .inl hh1.sfb, fun j hj => (by cases hj), fun j hj => ?_, ⟨hh1.ok.limit, hfo, hfo, fun x hx => (by cases hx)⟩⟩
          rcases hj with hj | hj
          · have := hslt j hj
            omega
          · exact hj.2
theorem dcrash_any {w : World} {db : Nat} {S : Nat → Prop} {d : Dk} (h : DOk w db S d) (keep : Int) (torn : Bool) (hl : d.firm.length + d.acts.length ≤ 100000) : Calls Tryz.prog 23 #[.pointer (some ⟨db, 0, none⟩), .int .i64 keep, .bool torn] w fun e w' => e = .returned (.tuple #[]) ∧ DGo w db S (crashD d keep torn) w' := by
  obtain ⟨nb, fb, v, h⟩ := h
  exact crash_any w db nb fb v S d keep torn h hl
end Go.Proofs.YtgglheelhbfgiaaGreatDoor

namespace Go.Proofs.YtgglheelhbfgiaaGreatDoor
open Go Go.RowKit Go.Lib
theorem race_disable (w : World) : (callFunc 215 #[]).run Tryz.prog w = .ok (.value (.tuple #[])) w := run_call_mark0 Tryz.func215 (by kernel_rfl) (by kernel_rfl) (by kernel_rfl) .disable (by kernel_rfl) w
theorem race_enable (w : World) : (callFunc 217 #[]).run Tryz.prog w = .ok (.value (.tuple #[])) w := run_call_mark0 Tryz.func217 (by kernel_rfl) (by kernel_rfl) (by kernel_rfl) .enable (by kernel_rfl) w
theorem race_acquire (a : Addr) (w : World) : (callFunc 218 #[.pointer (some a)]).run Tryz.prog w = .ok (.value (.tuple #[])) w := run_call_marked Tryz.func218 (by kernel_rfl) (by kernel_rfl) (by kernel_rfl) .acquire (by kernel_rfl) a w
theorem race_release (a : Addr) (w : World) : (callFunc 220 #[.pointer (some a)]).run Tryz.prog w = .ok (.value (.tuple #[])) w := run_call_marked Tryz.func220 (by kernel_rfl) (by kernel_rfl) (by kernel_rfl) .releaseMerge (by kernel_rfl) a w
/-- '(*sync/atomic.Bool).Store(true)', entered as a deferred call. -/
theorem once_store (a : Addr) (x : Value) (u : FrameMode) (w : World) (hc : w.cell? a = some x) (hz : w.frozen? a = false) :
    CallsD Tryz.prog 208 #[.pointer (some a), .bool true] u w fun e u' w' => u' = u ∧ (e = .returned (.tuple #[]) ∧ w' = w.drew.setCell a (.int .u32 1)) := by
  have hc' : w.drew.cell? a = some x := by go_simp
  have hz' : w.drew.frozen? a = false := by go_simp
  have hst := run_call_store (P := Tryz.prog) Tryz.func212 (by kernel_rfl) (by kernel_rfl) (by kernel_rfl) (by kernel_rfl) (k := .u32) (y := 1) hc' hz'
  go_enter_d Tryz.func208, Tryz.ntmps208
  go_wp2
  go_region_calls
  all_goals (go_end0; exact ⟨rfl, rfl⟩)
set_option maxRecDepth 100000 in
set_option maxHeartbeats 1600000 in
/-- '(*sync.Mutex).Unlock', entered as a deferred call, the lock held and nobody waiting. -/
theorem once_unlock (a : Addr) (u : FrameMode) (w : World) (hc : w.cell? a = some (.int .i32 1)) (hz : w.frozen? a = false) :
    CallsD Tryz.prog 207 #[.pointer (some a)] u w fun e u' w' => u' = u ∧ (e = .returned (.tuple #[]) ∧ w' = w.setCell a (.int .i32 0)) := by
  have hd := race_disable
  have he := race_enable
  have hr := race_release
  have hadd := run_call_add (P := Tryz.prog) Tryz.func221 (by kernel_rfl) (by kernel_rfl) (by kernel_rfl) .i32 (by kernel_rfl) (y := -1) (s := 0) hc hz (by simp [go_sem]; rfl)
  have hcv := run_convert_to_unsafe (P := Tryz.prog) (src := 276) (dst := 243) Tryz.underlying276 Tryz.underlying243 (by kernel_rfl) hc
  go_enter_d Tryz.func207, Tryz.ntmps207
  go_wp2
  go_end0
  go_wp2
  go_end0
  exact ⟨rfl, rfl⟩
set_option maxRecDepth 100000 in
set_option maxHeartbeats 1600000 in
/-- '(*sync.Mutex).Lock', the lock free. -/
theorem once_lock (a : Addr) (w : World) (hc : w.cell? a = some (.int .i32 0)) (hz : w.frozen? a = false) :
    Calls Tryz.prog 206 #[.pointer (some a)] w fun e w' => e = .returned (.tuple #[]) ∧ w' = w.setCell a (.int .i32 1) := by
  have hd := race_disable
  have he := race_enable
  have ha := race_acquire
  have hcas := run_call_cas_hit (P := Tryz.prog) Tryz.func216 (by kernel_rfl) (by kernel_rfl) (by kernel_rfl) .i32 (by kernel_rfl) (y := 1) hc hz
  have hc' : (w.setCell a (.int .i32 1)).cell? a = some (.int .i32 1) := World.cell?_setCell_same w a _ hc
  have hcv := run_convert_to_unsafe (P := Tryz.prog) (src := 276) (dst := 243) Tryz.underlying276 Tryz.underlying243 (by kernel_rfl) hc'
  go_enter Tryz.func206, Tryz.ntmps206
  go_wp2
  first | go_end0 | (simp only [Exit.inBlock, Exit.then]; refine bodyPost_ret (results_none rfl _ _ _) rfl ?_) | refine bodyPost_ret (results_none rfl _ _ _) rfl ?_
  go_wp2
  go_end0
  exact ⟨rfl, rfl⟩
end Go.Proofs.YtgglheelhbfgiaaGreatDoor

namespace Go.Proofs.YtgglheelhbfgiaaGreatDoor
open Go Go.RowKit

def putRow (W : World) (b : Nat) : Nat → List Value → World
  | _, [] => W
  | i, v :: vs => putRow (W.setCell ⟨b, i, none⟩ v) b (i + 1) vs
theorem putRow_block {b k : Nat} (h : k ≠ b) : ∀ (vs : List Value) (i : Nat) (W : World), (putRow W b i vs).heap[k]? = W.heap[k]?
  | [], _, _ => rfl
  | v :: vs, i, W => (putRow_block h vs (i + 1) _).trans (heap_other W v h)
theorem putRow_size {b : Nat} : ∀ (vs : List Value) (i : Nat) (W : World), (putRow W b i vs).heap.size = W.heap.size
  | [], _, _ => rfl
  | v :: vs, i, W => (putRow_size vs (i + 1) _).trans (by simp)
theorem VarAt.putFrom {b : Nat} : ∀ (vs : List Value) (i : Nat) (W : World) (cs : List Value), VarAt W b cs → cs.length = i + vs.length → VarAt (putRow W b i vs) b (cs.take i ++ vs)
  | [], i, W, cs, h, hl => by
    rw [List.append_nil, List.take_of_length_le (by simp at hl; omega)]
    exact h
  | v :: vs, i, W, cs, h, hl => by
    have hi : i < cs.length := by simp at hl; omega
    have := VarAt.putFrom vs (i + 1) _ _ (h.set i v hi) (by simp at hl ⊢; omega)
    rw [List.take_succ_eq_append_getElem (by simpa using hi), List.getElem_set_self, List.take_set_of_le (Nat.le_refl _), List.append_assoc] at this
    exact this
theorem VarAt.put {b : Nat} {W : World} {cs : List Value} (h : VarAt W b cs) (vs : List Value) (hl : cs.length = vs.length) : VarAt (putRow W b 0 vs) b vs := by
  have := VarAt.putFrom vs 0 W cs h (by omega)
  simpa using this
theorem VarAt.putOther {b k : Nat} {W : World} {cs : List Value} (h : VarAt W k cs) (vs : List Value) (i : Nat) (hne : k ≠ b) : VarAt (putRow W b i vs) k cs :=
  h.same (putRow_block hne vs i W) (Nat.le_of_eq (putRow_size vs i W).symm)
theorem Turned.put {S : Nat → Prop} {B b : Nat} {W W' : World} (h : Turned S B W W') (vs : List Value) (i : Nat) (hb : b < B → S b) : Turned S B W (putRow W' b i vs) := by
  induction vs generalizing W' i with
  | nil => exact h
  | cons v vs ih => exact ih (h.set i v hb) (i + 1)
theorem belowPut {B b : Nat} {W W' : World} (h : Below B W W') (vs : List Value) (i : Nat) (hb : B ≤ b) : Below B W (putRow W' b i vs) := by
  induction vs generalizing W' i with
  | nil => exact h
  | cons v vs ih => exact ih (h.setCell (p := ⟨b, i, none⟩) hb v) (i + 1)
end Go.Proofs.YtgglheelhbfgiaaGreatDoor

namespace Go.Proofs.YtgglheelhbfgiaaGreatDoor
open Go Go.RowKit Go.Lib
def iterC : Nat → Nat → Nat
  | 0, x => x
  | n + 1, x => stepC (iterC n x)
theorem iterC_8 (x : Nat) : iterC 8 x = tabC x := rfl
theorem stepC_lt {x : Nat} (h : x < 4294967296) : stepC x < 4294967296 := by
  unfold stepC
  have h1 : x / 2 < 2 ^ 32 := by omega
  have h2 : x % 2 * 3988292384 < 2 ^ 32 := by
    have : x % 2 < 2 := Nat.mod_lt _ (by decide)
    omega
  exact Nat.xor_lt_two_pow h1 h2
theorem iterC_lt {x : Nat} (h : x < 4294967296) : ∀ n, iterC n x < 4294967296
  | 0 => h
  | n + 1 => stepC_lt (iterC_lt h n)
theorem step_val {x : Nat} (hx : x < 4294967296) : bits .xor .u32 ((x : Int) / 2) (bits .and .u32 (x : Int) 1 * 3988292384 % 4294967296) = ((stepC x : Nat) : Int) := by
  have h1 : bits .and .u32 (x : Int) 1 = ((x % 2 : Nat) : Int) := by
    have := u32_and_nat x 1 hx (by decide)
    rw [Nat.and_one_is_mod] at this
    exact this
  have h2 : x % 2 < 2 := Nat.mod_lt _ (by decide)
  rw [h1, show ((x % 2 : Nat) : Int) * 3988292384 % 4294967296 = ((x % 2 * 3988292384 : Nat) : Int) by omega, show (x : Int) / 2 = ((x / 2 : Nat) : Int) by omega, u32_xor_nat _ _ (by omega) (by omega)]
  rfl
/-- A table of which so many steps are laid. -/
structure StepsW (w : World) (b k : Nat) (c0 c1 c2 : Value) : Prop where
  lt : b < w.heap.size
  fz : ∀ i, w.frozen? ⟨b, i, none⟩ = false
  h0 : w.cell? ⟨b, 0, none⟩ = some c0
  h1 : w.cell? ⟨b, 1, none⟩ = some c1
  h2 : w.cell? ⟨b, 2, none⟩ = some c2
  st : ∀ i, i < 256 → ∃ v, w.cell? ⟨b, 3 + i, none⟩ = some v ∧ (i < k → v = .int .u32 (tabC i))
set_option maxRecDepth 100000 in
set_option maxHeartbeats 1600000 in
theorem fill_any (b : Nat) (pl : Addr) (hpb : pl.block ≠ b) (c0 c1 c2 : Value) (w : World) (hp : w.cell? pl = some (.pointer (some ⟨b, 0, none⟩))) (h : StepsW w b 0 c0 c1 c2) :
    Calls Tryz.prog 188 #[.pointer (some pl)] w fun e w' => e = .returned (.tuple #[]) ∧ StepsW w' b 256 c0 c1 c2 ∧ Turned (fun j => j = b) w.heap.size w w' := by
  go_enter Tryz.func188, Tryz.ntmps188
  go_wp2_with fail
  go_loopw [3] (fun i wr => ∃ k : Nat, k ≤ 256 ∧ i = .int .i64 k ∧ StepsW wr b k c0 c1 c2 ∧ Turned (fun j => j = b) w.heap.size w wr ∧ wr.cell? pl = some (.pointer (some ⟨b, 0, none⟩))) (fun i _ => 256 - (RowKit.intOf i).toNat)
  case atStart => exact ⟨0, by omega, rfl, h, Turned.refl _ _ _, hp⟩
  case round =>
    obtain ⟨k, hk, rfl, hs, ht, hp⟩ := hrel
    by_cases hlt : k < 256
    · have hk32 : IntKind.u32.wrap (k : Int) = (k : Int) := IntWalk.u32_in _ ⟨by omega, by omega⟩
      go_wp2_with fail
      go_loop [2, 8] (fun x j => ∃ n : Nat, n ≤ 8 ∧ j = .int .i64 n ∧ x = .int .u32 (iterC n k)) (fun _ j => 8 - (RowKit.intOf j).toNat)
      case atStart => exact ⟨0, by omega, rfl, rfl⟩
      case round =>
        obtain ⟨n, hn, rfl, rfl⟩ := hrel
        by_cases hn8 : n < 8
        · have hx := iterC_lt (show k < 4294967296 by omega) n
          have Hst := Lib.hid (show iterC (n + 1) k = stepC (iterC n k) from rfl)
          generalize iterC n k = x at *
          have hsv := step_val hx
          go_wp2_with fail
          go_round
          case rel => exact ⟨n + 1, by omega, by go_num, by rw [Hst.out]⟩
          case measure => simp [RowKit.intOf]; omega
        · obtain rfl : n = 8 := by omega
          rw [iterC_8]
          obtain ⟨v, hv, _⟩ := hs.st k hlt
          have hf := hs.fz (3 + k)
          have hki : (k : Int) < 256 := by omega
          generalize hg : tabC k = t at *
          go_wp2_with fail
          have hne : ∀ j, j ≠ 3 + k → ∀ v, wr.cell? ⟨b, j, none⟩ = some v → (wr.setCell ⟨b, 3 + k, none⟩ (.int .u32 (t : Int))).cell? ⟨b, j, none⟩ = some v := fun j hj v hv => by
            rw [World.cell?_setCell_other _ _ _ _ (fun e => hj (by simpa using e.symm))]
            exact hv
          go_roundw
          case rel =>
            refine ⟨k + 1, by omega, by go_num, ⟨?_, fun i => ?_, hne 0 (by omega) _ hs.h0, hne 1 (by omega) _ hs.h1, hne 2 (by omega) _ hs.h2, fun i hi => ?_⟩, ht.set (3 + k) _ (fun _ => rfl), ?_⟩
            · simpa using hs.lt
            · simpa using hs.fz i
            · by_cases hik : i = k
              · subst hik
                exact ⟨_, World.cell?_setCell_same _ _ _ hv, fun _ => by rw [hg]⟩
              · obtain ⟨v', e1, e2⟩ := hs.st i hi
                exact ⟨v', hne _ (by omega) _ e1, fun h => e2 (by omega)⟩
            · rw [World.cell?_setCell_other _ _ _ _ (fun e => hpb (by rw [← e]))]
              exact hp
          case measure => simp [RowKit.intOf]; omega
    · obtain rfl : k = 256 := by omega
      go_wp2_with fail
      go_end0
      exact ⟨rfl, hs, ht⟩
end Go.Proofs.YtgglheelhbfgiaaGreatDoor

