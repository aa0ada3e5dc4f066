/-
  A disk: Crash. Keys and zero values of this program's small types.
-/
import Derived.Test.YtgglheelhbfgiaaGreatDoorMg9
import Derived.Test.YtgglheelhbfgiaaGreatDoorMg2
import Derived.Test.YtgglheelhbfgiaaGreatDoorShelf
import Derived.Test.YtgglheelhbfgiaaGreatDoorMg1
import Derived.WalkSpells
import Derived.IntWalk
namespace Go.Proofs.YtgglheelhbfgiaaGreatDoor
open Go Go.RowKit Go.Lib
theorem and_one_any (x : Int) : bits .and .i64 x 1 = x % 2 := by
  unfold bits
  dsimp only
  rw [BitVec.toNat_and, show (BitVec.ofInt IntKind.i64.bits 1).toNat = 1 from rfl, Nat.and_one_is_mod, BitVec.toNat_ofInt]
  rw [show IntKind.i64.bits = 64 from rfl]
  have e : ((x % ((2 ^ 64 : Nat) : Int)).toNat % 2 : Nat) = (x % 2).toNat := by omega
  rw [e]
  have h0 : 0 ≤ x % 2 := by omega
  have h1 : x % 2 < 2 := by omega
  rw [Int.toNat_of_nonneg h0, IntKind.wrap_i64]
  omega
theorem bit_test (keep : Int) (k : Nat) : (bits .and .i64 (keep / 2 ^ (k % 30)) 1 == 1) = bitD keep k := by
  rw [and_one_any]
  unfold bitD
  by_cases h : keep / 2 ^ (k % 30) % 2 = 1
  · rw [h, decide_eq_true rfl]
    rfl
  · rw [decide_eq_false h]
    exact beq_eq_false_iff_ne.2 h
section
variable {α : Type}
def keptA (keep : Int) : Nat → List α → List α
  | _, [] => []
  | i, a :: r => if bitD keep i then a :: keptA keep (i + 1) r else keptA keep (i + 1) r
theorem kept_eq (keep : Int) : ∀ (l : List ActD) (i : Nat), keptD keep i l = keptA keep i l
  | [], _ => rfl
  | a :: r, i => by rw [keptD, keptA, kept_eq keep r (i + 1)]
theorem keptA_append (keep : Int) : ∀ (l m : List α) (i : Nat), keptA keep i (l ++ m) = keptA keep i l ++ keptA keep (i + l.length) m
  | [], _, _ => rfl
  | a :: r, m, i => by
    rw [List.cons_append, keptA, keptA, keptA_append keep r m (i + 1), List.length_cons, show i + 1 + r.length = i + (r.length + 1) by omega]
    split <;> rfl
theorem keptA_take {l : List α} {k : Nat} {x : α} (keep : Int) (h : l[k]? = some x) : keptA keep 0 (l.take (k + 1)) = keptA keep 0 (l.take k) ++ (if bitD keep k then [x] else []) := by
  obtain ⟨hk, e⟩ := List.getElem?_eq_some_iff.1 h
  rw [List.take_succ_eq_append_getElem hk, e, keptA_append, List.length_take, Nat.min_eq_left (Nat.le_of_lt hk), Nat.zero_add]
  rfl
theorem keptA_len (keep : Int) : ∀ (l : List α) (i : Nat), (keptA keep i l).length ≤ l.length
  | [], _ => Nat.le_refl _
  | a :: r, i => by
    have := keptA_len keep r (i + 1)
    unfold keptA
    split <;> simp only [List.length_cons] <;> omega
theorem run_snoc (torn : Bool) : ∀ (l : List ActD) (a : ActD) (es : Fls), runD torn es (l ++ [a]) = doD (l.foldl (fun e x => doD e x false) es) a torn
  | [], _, _ => rfl
  | [_], _, _ => rfl
  | b :: c :: r, a, es => run_snoc torn (c :: r) a (doD es b false)
/-- The files behind the first k of some acts, the last of which may be torn. -/
def RunTo (torn : Bool) (es0 : Fls) (l : List ActD) (k : Nat) (es : Fls) : Prop := (k < l.length → es = (l.take k).foldl (fun e x => doD e x false) es0) ∧ (k = l.length → es = runD torn es0 l)
theorem runTo_start (torn : Bool) (es0 : Fls) (l : List ActD) : RunTo torn es0 l 0 es0 := ⟨fun _ => rfl, fun h => by
  have : l = [] := List.length_eq_zero_iff.1 h.symm
  rw [this]
  rfl⟩
theorem runTo_step {torn : Bool} {es0 es : Fls} {l : List ActD} {k : Nat} {a : ActD} (h : RunTo torn es0 l k es) (ha : l[k]? = some a) : RunTo torn es0 l (k + 1) (doD es a (torn && decide (k + 1 = l.length))) := by
  obtain ⟨hk, e⟩ := List.getElem?_eq_some_iff.1 ha
  have h1 := h.1 hk
  constructor
  · intro h2
    rw [decide_eq_false (by omega), Bool.and_false, List.take_succ_eq_append_getElem hk, e, List.foldl_append, ← h1]
    rfl
  · intro h2
    have e2 : l = l.take k ++ [a] := by
      have := List.take_succ_eq_append_getElem hk
      rw [e, h2, List.take_length] at this
      exact this
    rw [decide_eq_true h2, Bool.and_true, h1]
    have := run_snoc torn (l.take k) a es0
    rw [← e2] at this
    exact this.symm
end
theorem ActsAt.kept {w : World} {db : Nat} {v : Value} {S : Nat → Prop} {fs : List FnV} {xs : List ActD} (keep : Int) (h : ActsAt w db v S fs xs) : ∀ i, ActsAt w db v S (keptA keep i fs) (keptA keep i xs) := by
  induction h with
  | nil => exact fun _ => .nil
  | cons h1 _ ih =>
    intro i
    unfold keptA
    split
    · exact .cons h1 (ih _)
    · exact ih _
theorem ActsAt.at {w : World} {db : Nat} {v : Value} {S : Nat → Prop} {fs : List FnV} {xs : List ActD} (h : ActsAt w db v S fs xs) : ∀ {k : Nat} {f : FnV}, fs[k]? = some f → ∃ a, xs[k]? = some a ∧ ActAt w db v S f a := by
  induction h with
  | nil => exact fun hk => by cases hk
  | cons h1 _ ih =>
    intro k f hk
    cases k with
    | zero =>
      cases hk
      exact ⟨_, rfl, h1⟩
    | succ k => exact ih (k := k) hk
theorem fold_ok {l : List ActD} {es : Fls} (h : FilesOK es) (ha : ∀ a ∈ l, ActOK a) : FilesOK (l.foldl (fun e x => doD e x false) es) := by
  induction l generalizing es with
  | nil => exact h
  | cons a r ih => exact ih (doD_ok false h (ha a List.mem_cons_self)) fun x hx => ha x (List.mem_cons_of_mem _ hx)
theorem fold_len (l : List ActD) (es : Fls) : (l.foldl (fun e x => doD e x false) es).length ≤ es.length + l.length := by
  induction l generalizing es with
  | nil => exact Nat.le_refl _
  | cons a r ih =>
    have h1 := ih (doD es a false)
    have h2 := doD_len es a false
    simp only [List.foldl_cons, List.length_cons] at h1 ⊢
    omega
/-- The files that last have turned. -/
theorem DAt.firmTurned {w w' : World} {db nb fb : Nat} {v : Value} {S : Nat → Prop} {d : Dk} {es : Fls} (h : DAt w db nb fb v S d) (hM : MapK strV Tryz.prog 9 w' fb es) (hg : w.grownBy w' (some fb)) (hes : FilesOK es) : DAt w' db nb fb v S { d with firm := es } := by
  obtain ⟨fs, ho, ha⟩ := h.acts
  have hn := h.fbdb
  have hrow := h.row
  have hT : Turned (fun k => k = fb) w.heap.size w w' := Turned.of_grown hg (Nat.le_refl _) fun k e _ => by cases e; rfl
  refine ⟨h.cells.same (hT.block db h.cells.1 (by omega)) hT.size, h.now.same (hT.block nb h.now.lt h.ne), hM, h.nbdb, hn, h.ne, ⟨fs, ho.turnedOther hT fun k hk e => (hrow k hk).2.2.2 e, ha.turned hT (Nat.le_refl _) fun k c hk hlt hc => ?_⟩, h.sdb, h.snb, h.sfb, h.sv, fun k hk => Nat.lt_of_lt_of_le (h.slt k hk) hT.size, ⟨h.ok.limit, h.ok.now, hes, h.ok.acts⟩⟩
  have e : k = fb := hk
  subst e
  obtain ⟨rows, clock, hb, _⟩ := h.firm
  simp [World.cell?, hb] at hc
set_option maxRecDepth 100000 in
set_option maxHeartbeats 6400000 in
theorem crash_any (w : World) (db nb fb : Nat) (v : Value) (S : Nat → Prop) (d : Dk) (keep : Int) (torn : Bool) (h : DAt w db nb fb v S d) (hl : d.firm.length + d.acts.length ≤ 100000) :
    Calls Tryz.prog 23 #[.pointer (some ⟨db, 0, none⟩), .int .i64 keep, .bool torn] w fun e w' => e = .returned (.tuple #[]) ∧ DGo w db S (crashD d keep torn) w' := by
  obtain ⟨fs, ho, hacts⟩ := h.acts
  have hfl := hacts.len
  obtain ⟨aa, ac, rfl, hrows, hcap⟩ := ho.read
  have c3 : w.cell? ⟨db, 3, none⟩ = some (.slice aa fs.length ac) := h.cells.2.2 3 _ rfl
  obtain ⟨i0, hi, hz, hs⟩ : ∃ i, Tryz.prog.info? 118 = some i ∧ i.zero = some .nilFunc ∧ i.size = 1 ∧ i.bytes = 8 := by
    have := actInfo
    cases e : Tryz.prog.info? 118 with
    | none => rw [e] at this; cases this
    | some i => rw [e] at this; simp only [Option.map_some, Option.some.injEq, Prod.mk.injEq] at this; exact ⟨i, rfl, this.1, this.2.1, this.2.2⟩
  have Hi := Lib.hid hi
  have Hz := Lib.hid hz
  have Hs := Lib.hid hs
  have HD := Lib.hid h
  have Hacts := Lib.hid hacts
  have HR := Lib.hid hrows
  clear hi hz hs h hacts ho hrows
  have hfm : fs.length ≤ 100000 := by omega
  have HL := Lib.hid hl
  have Hfl := Lib.hid hfl
  clear hl hfl
  go_enter Tryz.func23, Tryz.ntmps23
  go_wp2_with fail
  go_loopw [6, 7, 8, 18] (fun q _ _ i wr => ∃ k : Nat, k ≤ fs.length ∧ i = .int .i64 k ∧ OwnRows actLay wr w.heap.size 118 q (keptA keep 0 (fs.take k)) ∧ Below w.heap.size w wr) (fun _ _ _ i _ => fs.length - (RowKit.intOf i).toNat)
  case atStart => exact ⟨0, Nat.zero_le _, rfl, OwnRows.nil _ _ _ _, Below.refl _ _⟩
  case round =>
    obtain ⟨k, hk, rfl, hq, hb⟩ := hrel
    by_cases hlt : k < fs.length
    · obtain ⟨⟨fn, ps⟩, hf⟩ := at_some hlt
      obtain ⟨bx, off, hae, hbl, hc⟩ := (HR.out.keeps hb) k _ hf
      have hc0 : wr.cell? ⟨bx, off + k, none⟩ = some (.func (.func fn) #[] ps) := by
        have := hc 0 _ rfl
        rwa [show off + k * actLay.sz + 0 = off + k by show off + k * 1 + 0 = _; omega] at this
      have hlti : (k : Int) < (fs.length : Int) := by omega
      have Htk := Lib.hid (keptA_take keep hf)
      have hbt := bit_test keep k
      have hkl : (keptA keep 0 (fs.take k)).length ≤ 100000 := by
        refine Nat.le_trans (keptA_len keep _ 0) ?_
        rw [List.length_take]
        omega
      subst hae
      clear hc hf
      cases hbd : bitD keep k with
      | true =>
        rw [hbd] at hbt Htk
        clear hbd
        generalize hacc : keptA keep 0 (fs.take k) = acc at *
        have Hq := Lib.hid hq
        clear hq hacc
        go_wp2_with (at_builtin; refine wpList_append_rows _ rfl _ _ 95 rfl actLay w.heap.size 118 i0 .nilFunc 8 Tryz.underlying95 Hi.out Hz.out Hs.out.1 Hs.out.2 rfl (by decide) _ acc rfl (Hq.out.alloc _) ⟨wr.heap.size, 0, none⟩ 1 ⟨fn, ps⟩ rfl (cells_new_at wr wr.heap.size #[.func (.func fn) #[] ps] 118 rfl) (by unfold maxLen; omega) (by omega) (by have := hb.size; simp; omega) ?_; intro va w3 hrow3 hg3 _; go_frame)
        have hb3 := (hb.alloc hb.size (.cells #[.func (.func fn) #[] ps] 118)).grown hg3 (by have := hb.size; simp; omega) (fun j ej => (Hq.out.lt ej).1)
        go_roundw
        case rel => exact ⟨k + 1, by omega, by go_num, by rw [Htk.out]; exact hrow3, hb3⟩
        case measure => simp [RowKit.intOf]; omega
      | false =>
        rw [hbd] at hbt Htk
        clear hbd
        go_wp2_with fail
        go_roundw
        case rel => exact ⟨k + 1, by omega, by go_num, by rw [Htk.out]; simpa using hq, hb⟩
        case measure => simp [RowKit.intOf]; omega
    · obtain rfl : k = fs.length := by omega
      rw [List.take_length] at hq
      have hKA := Hacts.out.kept keep 0
      have HeK := Lib.hid (kept_eq keep d.acts 0)
      have hKl := hKA.len
      have hlen := keptA_len keep fs 0
      have hKal := keptA_len keep d.acts 0
      obtain ⟨K, hK⟩ : ∃ K, keptA keep 0 fs = K := ⟨_, rfl⟩
      obtain ⟨KA, hKAe⟩ : ∃ KA, keptA keep 0 d.acts = KA := ⟨_, rfl⟩
      rw [hK] at hq hKA hKl hlen
      rw [hKAe] at hKA hKl HeK hKal
      have HokA := Lib.hid (show ∀ a ∈ KA, ActOK a from fun a ha => HD.out.ok.acts a (kept_mem (keep := keep) d.acts 0 a (by rw [HeK.out]; exact ha)))
      clear hK hKAe
      obtain ⟨qa, qc, rfl, _, _⟩ := hq.read
      have hDr := HD.out.below hb
      have hAr := hKA.map fun x c hx => hx.turned (Turned.of_below (S := fun _ => False) hb (Nat.le_refl _)) (Nat.le_refl _) (fun _ _ hf => hf.elim)
      have HLt := Lib.hid (show d.firm.length + KA.length ≤ 100000 by have := HL.out; omega)
      have hKm : K.length ≤ 100000 := by omega
      have hfbl := HD.out.firm.lt
      have Hfbl := Lib.hid hfbl
      have Hqd := Lib.hid (show ∀ j, (Value.slice qa K.length qc).ownBlock = some j → w.heap.size ≤ j from fun j hj => (hq.lt hj).1)
      have HKl := Lib.hid hKl
      clear hKA hlen hKal hfbl hKl
      obtain ⟨w1, hw1⟩ : ∃ w1, wr = w1 := ⟨_, rfl⟩
      subst hw1
      go_wp2_with fail
      go_loopw [9, 10, 36] (fun _ _ i wx => ∃ (k : Nat) (es : Fls), k ≤ K.length ∧ i = .int .i64 k ∧ DAt wx db nb fb (.slice aa fs.length ac) S { d with firm := es } ∧ Hid (RunTo torn d.firm KA k es) ∧ OwnRows actLay wx w.heap.size 118 (.slice qa K.length qc) K ∧ ActsAt wx db (.slice aa fs.length ac) S K KA ∧ Hid (es.length ≤ d.firm.length + k) ∧ Turned S w.heap.size w wx) (fun _ _ i _ => K.length - (RowKit.intOf i).toNat)
      case atStart => exact ⟨0, d.firm, Nat.zero_le _, rfl, hDr, Lib.hid (runTo_start torn _ _), hq, hAr, Lib.hid (Nat.le_refl _), Turned.of_below hb (Nat.le_refl _)⟩
      case round =>
        obtain ⟨k, es, hk, rfl, hD2, HRun, ho2, hA2, Hes, hT⟩ := hrel
        by_cases hlt : k < K.length
        · obtain ⟨⟨fn, ps⟩, hf⟩ := at_some hlt
          obtain ⟨qa', qc', hqe, hrowsK, _⟩ := ho2.read
          cases hqe
          obtain ⟨bx, off, hae, hbl, hc⟩ := hrowsK k _ hf
          have hc0 : wr.cell? ⟨bx, off + k, none⟩ = some (.func (.func fn) #[] ps) := by
            have := hc 0 _ rfl
            rwa [show off + k * actLay.sz + 0 = off + k by show off + k * 1 + 0 = _; omega] at this
          obtain ⟨a, ha, hact⟩ := hA2.at hf
          have hoka := HokA.out a (List.mem_of_getElem? ha)
          have Hoka := Lib.hid hoka
          have c2 : wr.cell? ⟨db, 2, none⟩ = some (.map (some fb)) := hD2.cells.2.2 2 _ rfl
          have hEs : es.length ≤ 100000 := by
            have h1 := HLt.out
            have h2 := HKl.out
            have h3 := Hes.out
            omega
          have hlti : (k : Int) < (K.length : Int) := by omega
          have hstep := runTo_step HRun.out ha
          subst hae
          clear hc hf ha hrowsK
          rcases hact with ⟨hcut, rfl, pd, pn, pp, rfl, hbd, hbn, hbp⟩ | ⟨hcut, rfl, pn, pp, rfl, hbn, hbp⟩
          · obtain ⟨kd, rfl, _, _, _, _, hbd2⟩ := hbd
            obtain ⟨kn, rfl, _, hkn2, _, _, hbn2⟩ := hbn
            obtain ⟨kp, rfl, _, _, _, _, hbp2⟩ := hbp
            cases torn with
            | false =>
              rw [Bool.false_and] at hstep
              have HC := Lib.hid (writeact_any wr fb kd kn kp es false a hD2.firm hbd2 hbn2 hbp2 hkn2 hcut hoka.2.2.1 hEs (Nat.le_trans (hD2.ok.firm.has a.name) (by decide)) hoka.2.1 (Nat.le_trans hoka.1 (by decide)))
              have Hstep := Lib.hid (show RunTo _ d.firm KA (k + 1) (doD es a false) from hstep)
              have HD2 := Lib.hid hD2
              have Ho2 := Lib.hid ho2
              have HA2 := Lib.hid hA2
              have HT := Lib.hid hT
              clear hD2 ho2 hA2 hT hstep hoka hEs hcut
              go_wp2_with fail
              refine HC.out.mono ?_
              rintro e w5 ⟨rfl, hM, hg⟩
              have hD3 := HD2.out.firmTurned hM hg (doD_ok _ HD2.out.ok.firm Hoka.out)
              have ho3 := Ho2.out.kept hg (.inr fun e => by have := Hqd.out fb e; have := Hfbl.out; omega)
              have hA3 := HA2.out.map fun x c hx => hx.turned (Turned.of_grown (S := fun j => j = fb) hg (Nat.le_refl _) fun j ej _ => by cases ej; rfl) (Nat.le_refl _) fun j c hj _ hjc => by
                have e : j = fb := hj
                subst e
                obtain ⟨rows, clock, hb, _⟩ := HD2.out.firm
                simp [World.cell?, hb] at hjc
              have hT3 := HT.out.trans (Turned.of_grown hg HT.out.size fun j ej _ => by cases ej; exact HD.out.sfb)
              have hl3 := doD_len es a false
              go_wp2_with fail
              go_roundw
              case rel => exact ⟨k + 1, _, by omega, by go_num, hD3, Hstep, ho3, hA3, Lib.hid (by have := Hes.out; omega), hT3⟩
              case measure => simp [RowKit.intOf]; omega
            | true =>
              rw [Bool.true_and] at hstep
              by_cases hlast : k + 1 = KA.length
              · rw [decide_eq_true hlast] at hstep
                have ht1 : ((k : Int) == (K.length : Int) - 1) = true := beq_iff_eq.2 (by have := HKl.out; omega)
                have ht2 : (k : Int) = (K.length : Int) - 1 := by have := HKl.out; omega
                clear hlast ht2
                have HC := Lib.hid (writeact_any wr fb kd kn kp es true a hD2.firm hbd2 hbn2 hbp2 hkn2 hcut hoka.2.2.1 hEs (Nat.le_trans (hD2.ok.firm.has a.name) (by decide)) hoka.2.1 (Nat.le_trans hoka.1 (by decide)))
                have Hstep := Lib.hid (show RunTo _ d.firm KA (k + 1) (doD es a true) from hstep)
                have HD2 := Lib.hid hD2
                have Ho2 := Lib.hid ho2
                have HA2 := Lib.hid hA2
                have HT := Lib.hid hT
                clear hD2 ho2 hA2 hT hstep hoka hEs hcut
                go_wp2_with fail
                refine HC.out.mono ?_
                rintro e w5 ⟨rfl, hM, hg⟩
                have hD3 := HD2.out.firmTurned hM hg (doD_ok _ HD2.out.ok.firm Hoka.out)
                have ho3 := Ho2.out.kept hg (.inr fun e => by have := Hqd.out fb e; have := Hfbl.out; omega)
                have hA3 := HA2.out.map fun x c hx => hx.turned (Turned.of_grown (S := fun j => j = fb) hg (Nat.le_refl _) fun j ej _ => by cases ej; rfl) (Nat.le_refl _) fun j c hj _ hjc => by
                  have e : j = fb := hj
                  subst e
                  obtain ⟨rows, clock, hb, _⟩ := HD2.out.firm
                  simp [World.cell?, hb] at hjc
                have hT3 := HT.out.trans (Turned.of_grown hg HT.out.size fun j ej _ => by cases ej; exact HD.out.sfb)
                have hl3 := doD_len es a true
                go_wp2_with fail
                go_roundw
                case rel => exact ⟨k + 1, _, by omega, by go_num, hD3, Hstep, ho3, hA3, Lib.hid (by have := Hes.out; omega), hT3⟩
                case measure => simp [RowKit.intOf]; omega
              · rw [decide_eq_false hlast] at hstep
                have ht1 : ((k : Int) == (K.length : Int) - 1) = false := beq_eq_false_iff_ne.2 (by have := HKl.out; omega)
                clear hlast
                have HC := Lib.hid (writeact_any wr fb kd kn kp es false a hD2.firm hbd2 hbn2 hbp2 hkn2 hcut hoka.2.2.1 hEs (Nat.le_trans (hD2.ok.firm.has a.name) (by decide)) hoka.2.1 (Nat.le_trans hoka.1 (by decide)))
                have Hstep := Lib.hid (show RunTo _ d.firm KA (k + 1) (doD es a false) from hstep)
                have HD2 := Lib.hid hD2
                have Ho2 := Lib.hid ho2
                have HA2 := Lib.hid hA2
                have HT := Lib.hid hT
                clear hD2 ho2 hA2 hT hstep hoka hEs hcut
                go_wp2_with fail
                refine HC.out.mono ?_
                rintro e w5 ⟨rfl, hM, hg⟩
                have hD3 := HD2.out.firmTurned hM hg (doD_ok _ HD2.out.ok.firm Hoka.out)
                have ho3 := Ho2.out.kept hg (.inr fun e => by have := Hqd.out fb e; have := Hfbl.out; omega)
                have hA3 := HA2.out.map fun x c hx => hx.turned (Turned.of_grown (S := fun j => j = fb) hg (Nat.le_refl _) fun j ej _ => by cases ej; rfl) (Nat.le_refl _) fun j c hj _ hjc => by
                  have e : j = fb := hj
                  subst e
                  obtain ⟨rows, clock, hb, _⟩ := HD2.out.firm
                  simp [World.cell?, hb] at hjc
                have hT3 := HT.out.trans (Turned.of_grown hg HT.out.size fun j ej _ => by cases ej; exact HD.out.sfb)
                have hl3 := doD_len es a false
                go_wp2_with fail
                go_roundw
                case rel => exact ⟨k + 1, _, by omega, by go_num, hD3, Hstep, ho3, hA3, Lib.hid (by have := Hes.out; omega), hT3⟩
                case measure => simp [RowKit.intOf]; omega
          · obtain ⟨kn, rfl, _, _, _, _, hbn2⟩ := hbn
            obtain ⟨kp, rfl, _, _, _, _, hbp2⟩ := hbp
            cases torn with
            | false =>
              rw [Bool.false_and] at hstep
              have HC := Lib.hid (cutact_any wr fb kn kp es false a hD2.firm hbn2 hbp2 hcut hoka.2.2.1 hEs)
              have Hstep := Lib.hid (show RunTo _ d.firm KA (k + 1) (doD es a false) from hstep)
              have HD2 := Lib.hid hD2
              have Ho2 := Lib.hid ho2
              have HA2 := Lib.hid hA2
              have HT := Lib.hid hT
              clear hD2 ho2 hA2 hT hstep hoka hEs hcut
              go_wp2_with fail
              refine HC.out.mono ?_
              rintro e w5 ⟨rfl, hM, hg⟩
              have hD3 := HD2.out.firmTurned hM hg (doD_ok _ HD2.out.ok.firm Hoka.out)
              have ho3 := Ho2.out.kept hg (.inr fun e => by have := Hqd.out fb e; have := Hfbl.out; omega)
              have hA3 := HA2.out.map fun x c hx => hx.turned (Turned.of_grown (S := fun j => j = fb) hg (Nat.le_refl _) fun j ej _ => by cases ej; rfl) (Nat.le_refl _) fun j c hj _ hjc => by
                have e : j = fb := hj
                subst e
                obtain ⟨rows, clock, hb, _⟩ := HD2.out.firm
                simp [World.cell?, hb] at hjc
              have hT3 := HT.out.trans (Turned.of_grown hg HT.out.size fun j ej _ => by cases ej; exact HD.out.sfb)
              have hl3 := doD_len es a false
              go_wp2_with fail
              go_roundw
              case rel => exact ⟨k + 1, _, by omega, by go_num, hD3, Hstep, ho3, hA3, Lib.hid (by have := Hes.out; omega), hT3⟩
              case measure => simp [RowKit.intOf]; omega
            | true =>
              rw [Bool.true_and] at hstep
              by_cases hlast : k + 1 = KA.length
              · rw [decide_eq_true hlast] at hstep
                have ht1 : ((k : Int) == (K.length : Int) - 1) = true := beq_iff_eq.2 (by have := HKl.out; omega)
                have ht2 : (k : Int) = (K.length : Int) - 1 := by have := HKl.out; omega
                clear hlast ht2
                have HC := Lib.hid (cutact_any wr fb kn kp es true a hD2.firm hbn2 hbp2 hcut hoka.2.2.1 hEs)
                have Hstep := Lib.hid (show RunTo _ d.firm KA (k + 1) (doD es a true) from hstep)
                have HD2 := Lib.hid hD2
                have Ho2 := Lib.hid ho2
                have HA2 := Lib.hid hA2
                have HT := Lib.hid hT
                clear hD2 ho2 hA2 hT hstep hoka hEs hcut
                go_wp2_with fail
                refine HC.out.mono ?_
                rintro e w5 ⟨rfl, hM, hg⟩
                have hD3 := HD2.out.firmTurned hM hg (doD_ok _ HD2.out.ok.firm Hoka.out)
                have ho3 := Ho2.out.kept hg (.inr fun e => by have := Hqd.out fb e; have := Hfbl.out; omega)
                have hA3 := HA2.out.map fun x c hx => hx.turned (Turned.of_grown (S := fun j => j = fb) hg (Nat.le_refl _) fun j ej _ => by cases ej; rfl) (Nat.le_refl _) fun j c hj _ hjc => by
                  have e : j = fb := hj
                  subst e
                  obtain ⟨rows, clock, hb, _⟩ := HD2.out.firm
                  simp [World.cell?, hb] at hjc
                have hT3 := HT.out.trans (Turned.of_grown hg HT.out.size fun j ej _ => by cases ej; exact HD.out.sfb)
                have hl3 := doD_len es a true
                go_wp2_with fail
                go_roundw
                case rel => exact ⟨k + 1, _, by omega, by go_num, hD3, Hstep, ho3, hA3, Lib.hid (by have := Hes.out; omega), hT3⟩
                case measure => simp [RowKit.intOf]; omega
              · rw [decide_eq_false hlast] at hstep
                have ht1 : ((k : Int) == (K.length : Int) - 1) = false := beq_eq_false_iff_ne.2 (by have := HKl.out; omega)
                clear hlast
                have HC := Lib.hid (cutact_any wr fb kn kp es false a hD2.firm hbn2 hbp2 hcut hoka.2.2.1 hEs)
                have Hstep := Lib.hid (show RunTo _ d.firm KA (k + 1) (doD es a false) from hstep)
                have HD2 := Lib.hid hD2
                have Ho2 := Lib.hid ho2
                have HA2 := Lib.hid hA2
                have HT := Lib.hid hT
                clear hD2 ho2 hA2 hT hstep hoka hEs hcut
                go_wp2_with fail
                refine HC.out.mono ?_
                rintro e w5 ⟨rfl, hM, hg⟩
                have hD3 := HD2.out.firmTurned hM hg (doD_ok _ HD2.out.ok.firm Hoka.out)
                have ho3 := Ho2.out.kept hg (.inr fun e => by have := Hqd.out fb e; have := Hfbl.out; omega)
                have hA3 := HA2.out.map fun x c hx => hx.turned (Turned.of_grown (S := fun j => j = fb) hg (Nat.le_refl _) fun j ej _ => by cases ej; rfl) (Nat.le_refl _) fun j c hj _ hjc => by
                  have e : j = fb := hj
                  subst e
                  obtain ⟨rows, clock, hb, _⟩ := HD2.out.firm
                  simp [World.cell?, hb] at hjc
                have hT3 := HT.out.trans (Turned.of_grown hg HT.out.size fun j ej _ => by cases ej; exact HD.out.sfb)
                have hl3 := doD_len es a false
                go_wp2_with fail
                go_roundw
                case rel => exact ⟨k + 1, _, by omega, by go_num, hD3, Hstep, ho3, hA3, Lib.hid (by have := Hes.out; omega), hT3⟩
                case measure => simp [RowKit.intOf]; omega
        · obtain rfl : k = K.length := by omega
          have Hrun := Lib.hid (HRun.out.2 HKl.out)
          have hCr := Lib.hid (show crashD d keep torn = { d with firm := es, now := es, acts := [], armed := 0, dead := false } by
            unfold crashD
            rw [HeK.out, ← Hrun.out])
          have H1 := Lib.hid hD2
          have HT1 := Lib.hid hT
          have k1 : wr.cell? ⟨db, 1, none⟩ = some (.map (some nb)) := hD2.cells.2.2 1 _ rfl
          have k2 : wr.cell? ⟨db, 2, none⟩ = some (.map (some fb)) := hD2.cells.2.2 2 _ rfl
          have k3 : wr.cell? ⟨db, 3, none⟩ = some (.slice aa fs.length ac) := hD2.cells.2.2 3 _ rfl
          have k4 : wr.cell? ⟨db, 4, none⟩ = some (.int .i64 d.armed) := hD2.cells.2.2 4 _ rfl
          have k5 : wr.cell? ⟨db, 5, none⟩ = some (.bool d.dead) := hD2.cells.2.2 5 _ rfl
          have f1 := hD2.cells.2.1 1
          have f3 := hD2.cells.2.1 3
          have f4 := hD2.cells.2.1 4
          have f5 := hD2.cells.2.1 5
          have hdb1 := hD2.cells.1
          obtain ⟨rows, clock, hbc, hcopy⟩ := hD2.firm.copy
          have Hcopy := Lib.hid hcopy
          clear hD2 hT hcopy ho2 hA2
          go_wp2_with fail
          refine (dclone_any fb rows clock wr hbc).mono ?_
          rintro e w2 ⟨rfl, rfl⟩
          go_wp2_with fail
          go_end0
          rw [hCr.out]
          have hh1 := H1.out
          have hs2 : ((((wr.setCell ⟨db, 1, none⟩ (.map (some wr.heap.size))).setCell ⟨db, 3, none⟩ (.slice none 0 0)).setCell ⟨db, 5, none⟩ (.bool false)).setCell ⟨db, 4, none⟩ (.int .i64 0)).heap.size = wr.heap.size := by simp
          have hblk : ∀ j, j < wr.heap.size → j ≠ db → (((((wr.setCell ⟨db, 1, none⟩ (.map (some wr.heap.size))).setCell ⟨db, 3, none⟩ (.slice none 0 0)).setCell ⟨db, 5, none⟩ (.bool false)).setCell ⟨db, 4, none⟩ (.int .i64 0)).alloc (.map rows clock)).heap[j]? = wr.heap[j]? := fun j hj hne =>
            (Below.heap_alloc _ _ j (by rw [hs2]; exact hj)).trans ((heap_other _ _ hne).trans ((heap_other _ _ hne).trans ((heap_other _ _ hne).trans (heap_other _ _ hne))))
          have hnew : (((((wr.setCell ⟨db, 1, none⟩ (.map (some wr.heap.size))).setCell ⟨db, 3, none⟩ (.slice none 0 0)).setCell ⟨db, 5, none⟩ (.bool false)).setCell ⟨db, 4, none⟩ (.int .i64 0)).alloc (.map rows clock)).heap[wr.heap.size]? = some (.map rows clock) := by
            have := (MapKept.heap_alloc ((((wr.setCell ⟨db, 1, none⟩ (.map (some wr.heap.size))).setCell ⟨db, 3, none⟩ (.slice none 0 0)).setCell ⟨db, 5, none⟩ (.bool false)).setCell ⟨db, 4, none⟩ (.int .i64 0)) (.map rows clock)).1
            rw [hs2] at this
            exact this
          have hsz : (((((wr.setCell ⟨db, 1, none⟩ (.map (some wr.heap.size))).setCell ⟨db, 3, none⟩ (.slice none 0 0)).setCell ⟨db, 5, none⟩ (.bool false)).setCell ⟨db, 4, none⟩ (.int .i64 0)).alloc (.map rows clock)).heap.size = wr.heap.size + 1 := by simp
          have hT2 : Turned S w.heap.size w (((((wr.setCell ⟨db, 1, none⟩ (.map (some wr.heap.size))).setCell ⟨db, 3, none⟩ (.slice none 0 0)).setCell ⟨db, 5, none⟩ (.bool false)).setCell ⟨db, 4, none⟩ (.int .i64 0)).alloc (.map rows clock)) := ((((HT1.out.set 1 _ fun _ => HD.out.sdb).set 3 _ fun _ => HD.out.sdb).set 5 _ fun _ => HD.out.sdb).set 4 _ fun _ => HD.out.sdb).alloc (by rw [hs2]; exact HT1.out.size) _
          have hV2 : VarAt (((((wr.setCell ⟨db, 1, none⟩ (.map (some wr.heap.size))).setCell ⟨db, 3, none⟩ (.slice none 0 0)).setCell ⟨db, 5, none⟩ (.bool false)).setCell ⟨db, 4, none⟩ (.int .i64 0)).alloc (.map rows clock)) db (((((diskCells { d with firm := es } nb fb (.slice aa fs.length ac)).set 1 (.map (some wr.heap.size))).set 3 (.slice none 0 0)).set 5 (.bool false)).set 4 (.int .i64 0)) := ((((hh1.cells.set 1 (.map (some wr.heap.size)) (by simp [diskCells])).set 3 (.slice none 0 0) (by simp [diskCells])).set 5 (.bool false) (by simp [diskCells])).set 4 (.int .i64 0) (by simp [diskCells])).keeps ((Below.refl _ _).alloc (Nat.le_refl _) _) (by rw [hs2]; exact hdb1)
          have hnow := Hcopy.out _ _ hnew
          have hns := hh1.fbdb
          have hslt := hh1.slt
          have hfb := hh1.firm.lt
          have hfo := hh1.ok.firm
          refine ⟨rfl, ⟨wr.heap.size, fb, .slice none 0 0, ?_⟩, hT2⟩
          refine ⟨hV2, hnow, hh1.firm.same (hblk fb hfb (by omega)), by omega, hns, by omega, ⟨[], OwnRows.nil _ _ _ _, .nil⟩, .inl hh1.sdb, .inr ⟨HT1.out.size, by omega⟩, .inl hh1.sfb, fun j hj => (by cases hj), fun j hj => ?_, ⟨hh1.ok.limit, hfo, hfo, fun x hx => (by cases hx)⟩⟩
          rcases hj with hj | hj
          · have := hslt j hj
            omega
          · exact hj.2
theorem dcrash_any {w : World} {db : Nat} {S : Nat → Prop} {d : Dk} (h : DOk w db S d) (keep : Int) (torn : Bool) (hl : d.firm.length + d.acts.length ≤ 100000) : Calls Tryz.prog 23 #[.pointer (some ⟨db, 0, none⟩), .int .i64 keep, .bool torn] w fun e w' => e = .returned (.tuple #[]) ∧ DGo w db S (crashD d keep torn) w' := by
  obtain ⟨nb, fb, v, h⟩ := h
  exact crash_any w db nb fb v S d keep torn h hl
end Go.Proofs.YtgglheelhbfgiaaGreatDoor

namespace Go.Proofs.YtgglheelhbfgiaaGreatDoor
open Go Go.RowKit Go.Lib

theorem strInfo : (Tryz.prog.info? 9).map (fun i => (i.zero, i.size, i.bytes)) = some (some (.string ⟨#[]⟩), 1, 16) := by kernel_rfl
theorem mapK : KeyOps Tryz.prog 9 Value.string := keyOps_string Tryz.underlying9
theorem intK : KeyOps Tryz.prog 3 (Value.int .i64) := keyOps_int Tryz.underlying3
theorem zeroInt (w : World) : (zeroValue 3).run Tryz.prog w = .ok (.int .i64 0) w := by kernel_rfl
theorem zeroBool (w : World) : (zeroValue 4).run Tryz.prog w = .ok (.bool false) w := by kernel_rfl
theorem zeroStr (w : World) : (zeroValue 9).run Tryz.prog w = .ok (.string ⟨#[]⟩) w := by kernel_rfl
end Go.Proofs.YtgglheelhbfgiaaGreatDoor

namespace Go.Proofs.YtgglheelhbfgiaaGreatDoor
open Go Go.RowKit Go.Lib

/-- codec.Reader's cells. -/
def RdCells (W : World) (b : Nat) (d : ByteArray) (p : Nat) (e : Int) : Prop := W.cell? ⟨b, 0, none⟩ = some (.string d) ∧ W.cell? ⟨b, 1, none⟩ = some (.int .i64 p) ∧ W.cell? ⟨b, 2, none⟩ = some (.int .i64 e) ∧ (∀ i, W.frozen? ⟨b, i, none⟩ = false) ∧ b < W.heap.size
theorem RdCells.keeps {W W' : World} {b : Nat} {d : ByteArray} {p : Nat} {e : Int} (h : RdCells W b d p e) {B : Nat} (hb : Below B W W') (hlt : b < B) : RdCells W' b d p e := by
  obtain ⟨h0, h1, h2, hf, hl⟩ := h
  exact ⟨(hb.cell (p := ⟨b, 0, none⟩) hlt).trans h0, (hb.cell (p := ⟨b, 1, none⟩) hlt).trans h1, (hb.cell (p := ⟨b, 2, none⟩) hlt).trans h2, fun i => (hb.frozen (p := ⟨b, i, none⟩) hlt).trans (hf i), Nat.lt_of_lt_of_le hl hb.size⟩
theorem RdCells.setErr {W : World} {b : Nat} {d : ByteArray} {p : Nat} {e : Int} (h : RdCells W b d p e) (e' : Int) : RdCells (W.setCell ⟨b, 2, none⟩ (.int .i64 e')) b d p e' := by
  obtain ⟨h0, h1, h2, hf, hl⟩ := h
  refine ⟨?_, ?_, World.cell?_setCell_same _ _ _ h2, fun i => by simpa using hf i, by simpa using hl⟩
  · rw [World.cell?_setCell_other _ _ _ _ (by simp)]; exact h0
  · rw [World.cell?_setCell_other _ _ _ _ (by simp)]; exact h1
theorem RdCells.setPos {W : World} {b : Nat} {d : ByteArray} {p : Nat} {e : Int} (h : RdCells W b d p e) (p' : Nat) : RdCells (W.setCell ⟨b, 1, none⟩ (.int .i64 p')) b d p' e := by
  obtain ⟨h0, h1, h2, hf, hl⟩ := h
  refine ⟨?_, World.cell?_setCell_same _ _ _ h1, ?_, fun i => by simpa using hf i, by simpa using hl⟩
  · rw [World.cell?_setCell_other _ _ _ _ (by simp)]; exact h0
  · rw [World.cell?_setCell_other _ _ _ _ (by simp)]; exact h2
theorem RdCells.drewN {W : World} {b : Nat} {d : ByteArray} {p : Nat} {e : Int} (h : RdCells W b d p e) (n : Nat) : RdCells (W.drewN n) b d p e := h
/-- codec.Reader, as it lies in memory. -/
def RdAt (W : World) (b : Nat) (r : Rd) : Prop := ∃ (d : ByteArray) (p : Nat), RdCells W b d p r.err ∧ p ≤ d.size ∧ d.size ≤ 100000000 ∧ (r.err = 0 → r.rest = d.data.toList.drop p)
theorem RdAt.keeps {W W' : World} {b : Nat} {r : Rd} (h : RdAt W b r) {B : Nat} (hb : Below B W W') (hlt : b < B) : RdAt W' b r := by
  obtain ⟨d, p, hc, r⟩ := h
  exact ⟨d, p, hc.keeps hb hlt, r⟩
theorem RdAt.drewN {W : World} {b : Nat} {r : Rd} (h : RdAt W b r) (n : Nat) : RdAt (W.drewN n) b r := h
theorem RdAt.lt {W : World} {b : Nat} {r : Rd} (h : RdAt W b r) : b < W.heap.size := by
  obtain ⟨d, p, hc, _⟩ := h
  exact hc.2.2.2.2
def takeR (r : Rd) (n : Nat) : List UInt8 × Rd := if r.rest.length < n then ([], ⟨10, []⟩) else (r.rest.take n, ⟨0, r.rest.drop n⟩)
theorem grown_cell (w : World) (b i : Nat) (v : Value) : w.grownBy (w.setCell ⟨b, i, none⟩ v) (some b) :=
  ⟨rfl, rfl, rfl, by simp, fun k _ hne => Below.heap_setCell w _ v k (fun e => hne (by rw [e]))⟩
theorem grown_drewN (w : World) (n : Nat) (row : Option Nat) : w.grownBy (w.drewN n) row := ⟨rfl, rfl, rfl, Nat.le_refl _, fun _ _ _ => rfl⟩
theorem extract_drop (d : ByteArray) (p n : Nat) : (d.extract p (p + n)).data.toList = (d.data.toList.drop p).take n := by
  rw [ByteArray.data_extract, Array.toList_extract, List.extract_eq_take_drop]
  congr 1
  omega
theorem ret_text {d : ByteArray} {p n : Nat} {l : List UInt8} (h : l = (d.data.toList.drop p).take n) : Ending.returned (.string (d.extract p (p + n))) = .returned (.string ⟨l.toArray⟩) := by
  subst h
  congr 2
  apply ba_ext
  rw [extract_drop]

set_option maxRecDepth 100000 in
set_option maxHeartbeats 800000 in
theorem take_any (b : Nat) (r : Rd) (n : Nat) (hn : n < 18446744073709551616) (w : World) (h0 : r.err = 0) (h : RdAt w b r) :
    Calls Tryz.prog 142 #[.pointer (some ⟨b, 0, none⟩), .int .u64 n] w fun e w' => e = .returned (.string ⟨(takeR r n).1.toArray⟩) ∧ RdAt w' b (takeR r n).2 ∧ w.grownBy w' (some b) := by
  obtain ⟨d, p, hcs, hp, hd, hr⟩ := h
  have hr := hr h0
  have hlen : r.rest.length = d.size - p := by rw [hr, List.length_drop, ← size_eq]
  rw [h0] at hcs
  have hcs' := hcs
  obtain ⟨c0, c1, c2, hf, hl⟩ := hcs'
  by_cases hlt : d.size - p < n
  · have hT := Lib.hid (show takeR r n = ([], ⟨10, []⟩) by unfold takeR; rw [hlen, if_pos hlt])
    clear hr hlen h0
    go_enter Tryz.func142, Tryz.ntmps142
    go_wp2_with fail
    go_quiet (fail)
    go_wp2_with fail
    go_ret
    rw [hT.out]
    exact ⟨rfl, ⟨d, p, (hcs.drewN nq).setErr 10, hp, hd, fun h => by cases h⟩, World.grownBy.trans (grown_drewN w nq _) (grown_cell _ b 2 _)⟩
  · have hT := Lib.hid (show takeR r n = (r.rest.take n, ⟨0, r.rest.drop n⟩) by unfold takeR; rw [hlen, if_neg hlt])
    have HR := Lib.hid hr
    have hlt1 : ¬ ((d.size : Int) - p < n) := by omega
    clear hr hlen h0
    go_enter Tryz.func142, Tryz.ntmps142
    go_wp2_with fail
    go_quiet (fail)
    go_wp2_with fail
    go_quiet (fail)
    go_wp2_with fail
    go_ret
    rw [hT.out]
    exact ⟨ret_text (by rw [HR.out]), ⟨d, p + n, (hcs.drewN _).setPos (p + n), by omega, hd, fun _ => by rw [HR.out, List.drop_drop]⟩, World.grownBy.trans (grown_drewN w _ _) (grown_cell _ b 1 _)⟩
end Go.Proofs.YtgglheelhbfgiaaGreatDoor

