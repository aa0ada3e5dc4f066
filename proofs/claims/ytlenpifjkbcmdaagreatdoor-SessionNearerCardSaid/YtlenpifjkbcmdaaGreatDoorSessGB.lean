/-
  session.taken: as many things as bytes say, no more than most. session.Decode$1: one operation that is taken. session.taken at operations. session.Decode: the plain parts.
-/
import Derived.Test.YtlenpifjkbcmdaaGreatDoorSessGA
import Derived.Test.YtlenpifjkbcmdaaGreatDoorNums
import Derived.Test.YtlenpifjkbcmdaaGreatDoorCells
import Derived.Test.YtlenpifjkbcmdaaGreatDoorAppends
import Derived.Test.YtlenpifjkbcmdaaGreatDoorOpsGA
import Derived.Test.YtlenpifjkbcmdaaGreatDoorOpsGB
import Derived.Deep.Cut
namespace Go.Proofs.YtlenpifjkbcmdaaGreatDoor
open Go Go.RowKit Go.Lib

/-- session's reader: the codec's one lies in block rb, this one in block bs. -/
def SRd (W : World) (bs rb : Nat) (r : Rd) : Prop := ∃ (odd : Bool) (rc : Rd), VarAt W bs [.pointer (some ⟨rb, 0, none⟩), .bool odd] ∧ RdAt W rb rc ∧ bs ≠ rb ∧ (odd = false → rc = r) ∧ (odd = true → r = ⟨11, []⟩)
theorem numInfo0 : (Tryz.prog.info? 3).map (fun i => (i.zero, i.size, i.bytes)) = some (some (.int .i64 0), 1, 8) := by kernel_rfl
theorem strInfo0 : (Tryz.prog.info? 9).map (fun i => (i.zero, i.size, i.bytes)) = some (some (.string ⟨#[]⟩), 1, 16) := by kernel_rfl
theorem raw_zero_err {r : Rd} (h : r.raw.2.err ≠ 0) : r.raw.1 = 0 := by
  unfold Rd.raw at h ⊢
  split
  · rfl
  · rename_i h0
    rw [if_neg h0] at h
    split
    · rfl
    · rename_i hr
      rw [hr] at h
      simp only at h
      split
      · rfl
      · rename_i h1
        rw [if_neg h1] at h
        split
        · rfl
        · rename_i h2
          rw [if_neg h2] at h
          split
          · rfl
          · rename_i h3
            rw [if_neg h3] at h
            exact absurd rfl h
theorem num_zero_err {r : Rd} (h : r.num.2.err ≠ 0) : r.num.1 = 0 := by
  have := raw_zero_err (r := r) h
  unfold Rd.num
  simp only
  rw [this]
  decide
theorem str_err0 {r : Rd} (h : r.err ≠ 0) : r.str.2 = r := str_err h
theorem num_err0 {r : Rd} (h : r.err ≠ 0) : r.num.2 = r := by rw [num_err h]
theorem many_no {r : Rd} {most : Int} (h : r.num.2.err ≠ 0) : manyR r most = (0, r.num.2) := by unfold manyR; rw [if_pos h]
theorem many_odd {r : Rd} {most : Int} (h : r.num.2.err = 0) (h2 : r.num.1 < 0 ∨ most < r.num.1) : manyR r most = (0, ⟨11, []⟩) := by unfold manyR; rw [if_neg (fun e => e h), if_pos h2]
theorem many_yes {r : Rd} {most : Int} (h : r.num.2.err = 0) (h2 : ¬ (r.num.1 < 0 ∨ most < r.num.1)) : manyR r most = (r.num.1.toNat, r.num.2) := by unfold manyR; rw [if_neg (fun e => e h), if_neg h2]
theorem takeN_stop {α : Type} {f : Rd → α × Rd} (hf : ∀ r : Rd, r.err ≠ 0 → (f r).2 = r) {k n : Nat} {r : Rd} (hk : k ≤ n) (h : (takeN f k r).2.err ≠ 0) : (takeN f n r).2 = (takeN f k r).2 := by
  induction n with
  | zero =>
    obtain rfl : k = 0 := by omega
    rfl
  | succ n ih =>
    by_cases e : k = n + 1
    · rw [e]
    · have h1 := ih (by omega)
      rw [takeN_succ]
      show (f (takeN f n r).2).2 = _
      rw [h1]
      exact hf _ h
/-- What taken leaves. -/
def Took {α β : Type} (f : Rd → α × Rd) (pr : α → β) (L : Lay β) (T : TypeId) (S : Nat → Prop) (bs rb : Nat) (r : Rd) (most : Int) (w : World) (e : Ending) (w' : World) : Prop :=
  ∃ (v : Value) (xs : List α), e = .returned v ∧ OwnRows L w' w.heap.size T v (xs.map pr) ∧ SRd w' bs rb (listR f r most).2 ∧ Turned S w.heap.size w w' ∧ ((listR f r most).2.err = 0 → xs = (listR f r most).1)
theorem rdSet {W : World} {bs rb : Nat} {r : Rd} (h : RdAt W rb r) (i : Nat) (v : Value) (hne : bs ≠ rb) : RdAt (W.setCell ⟨bs, i, none⟩ v) rb r := by
  obtain ⟨d, p, ⟨h0, h1, h2, hf, hl⟩, rest⟩ := h
  have e := heap_other W (b := bs) (k := rb) (i := i) v (Ne.symm hne)
  exact ⟨d, p, ⟨(cell_same e 0).trans h0, (cell_same e 1).trans h1, (cell_same e 2).trans h2, fun j => (frozen_same e j).trans (hf j), by simpa using hl⟩, rest⟩
theorem rd_turned {W W' : World} {rb bs : Nat} {cs : List Value} (hg : W.grownBy W' (some rb)) (h : VarAt W bs cs) (hne : bs ≠ rb) : VarAt W' bs cs := h.grown hg (by simpa using hne)

/-! ### int -/
set_option maxRecDepth 100000 in
set_option maxHeartbeats 6400000 in
theorem taken_int (bs rb : Nat) (r : Rd) (most : Nat) (w : World) (hm : most ≤ 1000) (h : SRd w bs rb r) :
    Calls Tryz.prog 38 #[.pointer (some ⟨bs, 0, none⟩), .int .i64 most, .func (.func 37) #[.pointer (some ⟨rb, 0, none⟩)] #[]] w (Took Rd.num id numLay 3 (fun k => k = rb ∨ k = bs) bs rb r most w) := by
  obtain ⟨i0, hi, hz0, hz1, hz2⟩ := info_parts numInfo0
  have Hi := Lib.hid hi
  have Hz0 := Lib.hid hz0
  have Hz1 := Lib.hid hz1
  have Hz2 := Lib.hid hz2
  clear hi hz0 hz1 hz2
  obtain ⟨odd, rc, hv, hrd, hne, hf, ht⟩ := h
  have hbs := hv.1
  have hrb := hrd.lt
  cases odd with
  | true =>
    obtain rfl := ht rfl
    have c0 := hv.2.2 0 _ rfl
    have c1 := hv.2.2 1 _ rfl
    have hrc : RdAt w rb rc := hrd
    have HT : Hid (Took Rd.num id numLay 3 (fun k => k = rb ∨ k = bs) bs rb ⟨11, []⟩ most w (.returned (.slice none 0 0)) w) := Lib.hid ⟨_, [], rfl, OwnRows.nil _ _ _ _, by rw [list_err (by decide)]; exact ⟨true, rc, hv, hrc, hne, (fun e => by cases e), fun _ => rfl⟩, Turned.refl _ _ _, fun _ => by rw [list_err (by decide)]⟩
    clear hf ht
    generalize Took _ _ _ _ _ _ _ _ _ _ = Q at *
    go_enter Tryz.func38, Tryz.ntmps38
    go_wp2_with fail
    exact HT.out
  | false =>
    obtain rfl := hf rfl
    clear hf ht
    have c0 := hv.2.2 0 _ rfl
    have c1 := hv.2.2 1 _ rfl
    have HE := Lib.hid (Err_any rb rc w hrd)
    by_cases h0 : ¬ rc.err = 0
    · have d0 : (rc.err != 0) = true := by rw [bne_iff_ne]; exact h0
      have HT : Hid (Took Rd.num id numLay 3 (fun k => k = rb ∨ k = bs) bs rb rc most w (.returned (.slice none 0 0)) w) := Lib.hid ⟨_, [], rfl, OwnRows.nil _ _ _ _, by rw [list_err h0]; exact ⟨false, rc, hv, hrd, hne, fun _ => rfl, (fun e => by cases e)⟩, Turned.refl _ _ _, fun _ => by rw [list_err h0]⟩
      clear h0
      generalize Took _ _ _ _ _ _ _ _ _ _ = Q at *
      generalize rc.err = er at *
      go_enter Tryz.func38, Tryz.ntmps38
      go_wp2_with fail
      refine HE.out.mono ?_
      rintro e w1 ⟨rfl, rfl⟩
      go_wp2_with fail
      exact HT.out
    replace h0 := Decidable.not_not.1 h0
    have HN := Lib.hid (Num_any rb rc w hrd)
    rw [h0] at HE
    have Hlist := Lib.hid (show listR Rd.num rc most = takeN Rd.num (manyR rc most).1 (manyR rc most).2 from rfl)
    by_cases h1 : ¬ rc.num.2.err = 0
    · have hmm := many_no (most := (most : Int)) h1
      have hn0 := num_zero_err h1
      have d1 : (rc.num.2.err == 0) = false := by rw [beq_eq_false_iff_ne]; exact h1
      have HT : ∀ W, RdAt W rb rc.num.2 → VarAt W bs [.pointer (some ⟨rb, 0, none⟩), .bool false] → Turned (fun k => k = rb ∨ k = bs) w.heap.size w W → Hid (Took Rd.num id numLay 3 (fun k => k = rb ∨ k = bs) bs rb rc most w (.returned (.slice none 0 0)) W) := fun W hr hV hT => Lib.hid ⟨_, [], rfl, OwnRows.nil _ _ _ _, by rw [Hlist.out, hmm]; exact ⟨false, _, hV, hr, hne, fun _ => rfl, (fun e => by cases e)⟩, hT, fun _ => by rw [Hlist.out, hmm]; rfl⟩
      have HTT := Lib.hid HT
      have HE1 := Lib.hid fun W (h : RdAt W rb rc.num.2) => Err_any rb rc.num.2 W h
      rw [hn0] at HN
      clear HT hmm h1 h0 hn0
      generalize Took _ _ _ _ _ _ _ _ _ _ = Q at *
      generalize rc.num.2 = r1 at *
      generalize r1.err = er at *
      go_enter Tryz.func38, Tryz.ntmps38
      go_wp2_with fail
      refine HE.out.mono ?_
      rintro e w1 ⟨rfl, rfl⟩
      go_wp2_with fail
      refine HN.out.mono ?_
      rintro e w2 ⟨rfl, hr2, hg2⟩
      have hV2 := rd_turned hg2 hv hne
      have hT2 : Turned (fun k => k = rb ∨ k = bs) w1.heap.size w1 w2 := Turned.of_grown hg2 (Nat.le_refl _) (fun k e _ => by cases e; exact .inl rfl)
      clear c0 c1
      have c0 := hV2.2.2 0 _ rfl
      have c1 := hV2.2.2 1 _ rfl
      go_wp2_with fail
      refine (HE1.out _ hr2).mono ?_
      rintro e w3 ⟨rfl, rfl⟩
      go_wp2_with fail
      go_loop [8, 9] (fun v i => v = .slice none 0 0 ∧ i = .int .i64 0) (fun _ _ => 0)
      case atStart => exact ⟨rfl, rfl⟩
      case round =>
        obtain ⟨rfl, rfl⟩ := hrel
        go_wp2_with fail
        exact (HTT.out _ hr2 hV2 hT2).out
    · replace h1 := Decidable.not_not.1 h1
      have d1 : (rc.num.2.err == 0) = true := by rw [h1]; rfl
      have HE1 := Lib.hid fun W (h : RdAt W rb rc.num.2) => Err_any rb rc.num.2 W h
      rw [h1] at HE1
      by_cases h2 : rc.num.1 < 0 ∨ (most : Int) < rc.num.1
      · have hmm := many_odd h1 h2
        have HT : ∀ W, RdAt W rb rc.num.2 → VarAt W bs [.pointer (some ⟨rb, 0, none⟩), .bool true] → Turned (fun k => k = rb ∨ k = bs) w.heap.size w W → Hid (Took Rd.num id numLay 3 (fun k => k = rb ∨ k = bs) bs rb rc most w (.returned (.slice none 0 0)) W) := fun W hr hV hT => Lib.hid ⟨_, [], rfl, OwnRows.nil _ _ _ _, by rw [Hlist.out, hmm]; exact ⟨true, _, hV, hr, hne, (fun e => by cases e), fun _ => rfl⟩, hT, fun _ => by rw [Hlist.out, hmm]; rfl⟩
        have HTT := Lib.hid HT
        clear HT hmm h1 h0
        generalize Took _ _ _ _ _ _ _ _ _ _ = Q at *
        generalize rc.num.2 = r1 at *
        generalize rc.num.1 = n at *
        rcases (show n < 0 ∨ (0 ≤ n ∧ (most : Int) < n) by omega) with h2 | ⟨h2, h3⟩
        · have d2 : decide (n < 0) = true := by simpa using h2
          go_enter Tryz.func38, Tryz.ntmps38
          go_wp2_with fail
          refine HE.out.mono ?_
          rintro e w1 ⟨rfl, rfl⟩
          go_wp2_with fail
          refine HN.out.mono ?_
          rintro e w2 ⟨rfl, hr2, hg2⟩
          have hV2 := rd_turned hg2 hv hne
          have hT2 : Turned (fun k => k = rb ∨ k = bs) w1.heap.size w1 w2 := Turned.of_grown hg2 (Nat.le_refl _) (fun k e _ => by cases e; exact .inl rfl)
          clear c0 c1
          have c0 := hV2.2.2 0 _ rfl
          have c1 := hV2.2.2 1 _ rfl
          have hfz := hV2.2.1 1
          go_wp2_with fail
          refine (HE1.out _ hr2).mono ?_
          rintro e w3 ⟨rfl, rfl⟩
          go_wp2_with fail
          exact (HTT.out _ (rdSet hr2 1 _ hne) (hV2.set 1 (.bool true) (by simp)) (hT2.set 1 (.bool true) (fun _ => .inr rfl))).out
        · have d2 : decide (n < 0) = false := by simpa using h2
          have d3 : decide ((most : Int) < n) = true := by simpa using h3
          go_enter Tryz.func38, Tryz.ntmps38
          go_wp2_with fail
          refine HE.out.mono ?_
          rintro e w1 ⟨rfl, rfl⟩
          go_wp2_with fail
          refine HN.out.mono ?_
          rintro e w2 ⟨rfl, hr2, hg2⟩
          have hV2 := rd_turned hg2 hv hne
          have hT2 : Turned (fun k => k = rb ∨ k = bs) w1.heap.size w1 w2 := Turned.of_grown hg2 (Nat.le_refl _) (fun k e _ => by cases e; exact .inl rfl)
          clear c0 c1
          have c0 := hV2.2.2 0 _ rfl
          have c1 := hV2.2.2 1 _ rfl
          have hfz := hV2.2.1 1
          go_wp2_with fail
          refine (HE1.out _ hr2).mono ?_
          rintro e w3 ⟨rfl, rfl⟩
          go_wp2_with fail
          exact (HTT.out _ (rdSet hr2 1 _ hne) (hV2.set 1 (.bool true) (by simp)) (hT2.set 1 (.bool true) (fun _ => .inr rfl))).out
      · have hmm := many_yes h1 h2
        obtain ⟨N, hN⟩ : ∃ N : Nat, rc.num.1 = (N : Int) := ⟨rc.num.1.toNat, by omega⟩
        rw [hN] at hmm HN h2
        rw [Int.toNat_natCast] at hmm
        have d2 : decide ((N : Int) < 0) = false := by simp
        have d3 : decide (most < N) = false := by simp; omega
        have hNm : N ≤ 1000 := by omega
        have HT : ∀ W k v, RdAt W rb (takeN Rd.num k rc.num.2).2 → VarAt W bs [.pointer (some ⟨rb, 0, none⟩), .bool false] → Turned (fun k => k = rb ∨ k = bs) w.heap.size w W → OwnRows numLay W w.heap.size 3 v (takeN Rd.num k rc.num.2).1 → k ≤ N → (k = N ∨ (takeN Rd.num k rc.num.2).2.err ≠ 0) → Took Rd.num id numLay 3 (fun k => k = rb ∨ k = bs) bs rb rc most w (.returned v) W := fun W k v hr hV hT ho hkN hk => by
          have e2 : (takeN Rd.num N rc.num.2).2 = (takeN Rd.num k rc.num.2).2 := by
            rcases hk with rfl | hk
            · rfl
            · exact takeN_stop (fun r hr => num_err0 hr) hkN hk
          refine ⟨v, (takeN Rd.num k rc.num.2).1, rfl, by rw [List.map_id]; exact ho, ?_, hT, ?_⟩
          · rw [Hlist.out, hmm]
            show SRd W bs rb (takeN Rd.num N rc.num.2).2
            rw [e2]
            exact ⟨false, _, hV, hr, hne, fun _ => rfl, (fun e => by cases e)⟩
          · rw [Hlist.out, hmm]
            intro he
            rcases hk with rfl | hk
            · rfl
            · exact absurd (by rw [← e2]; exact he) hk
        have HTT := Lib.hid HT
        clear HT hmm h1 h0 h2 hN Hlist
        generalize Took _ _ _ _ _ _ _ _ _ _ = Q at *
        generalize rc.num.2 = r1 at *
        go_enter Tryz.func38, Tryz.ntmps38
        go_wp2_with fail
        refine HE.out.mono ?_
        rintro e w1 ⟨rfl, rfl⟩
        go_wp2_with fail
        refine HN.out.mono ?_
        rintro e w2 ⟨rfl, hr2, hg2⟩
        have hV2 := rd_turned hg2 hv hne
        have hT2 : Turned (fun k => k = rb ∨ k = bs) w1.heap.size w1 w2 := Turned.of_grown hg2 (Nat.le_refl _) (fun k e _ => by cases e; exact .inl rfl)
        clear c0 c1
        have c0 := hV2.2.2 0 _ rfl
        have c1 := hV2.2.2 1 _ rfl
        go_wp2_with fail
        refine (HE1.out _ hr2).mono ?_
        rintro e w3 ⟨rfl, rfl⟩
        clear c0 c1
        go_wp2_with fail
        go_loopw [8, 9] (fun v i wr => ∃ k : Nat, k ≤ N ∧ i = .int .i64 k ∧ RdAt wr rb (takeN Rd.num k r1).2 ∧ VarAt wr bs [.pointer (some ⟨rb, 0, none⟩), .bool false] ∧ Turned (fun k => k = rb ∨ k = bs) w1.heap.size w1 wr ∧ OwnRows numLay wr w1.heap.size 3 v (takeN Rd.num k r1).1) (fun _ i _ => N - (RowKit.intOf i).toNat)
        case atStart => exact ⟨0, Nat.zero_le _, rfl, hr2, hV2, hT2, OwnRows.nil _ _ _ _⟩
        case round =>
          obtain ⟨k, hk, rfl, hr, hV, hT, ho⟩ := hrel
          have c0 := hV.2.2 0 _ rfl
          by_cases hlt : k < N
          · have HEk := Lib.hid (Err_any rb (takeN Rd.num k r1).2 wr hr)
            by_cases he : (takeN Rd.num k r1).2.err = 0
            · have HNk := Lib.hid (Num_any rb (takeN Rd.num k r1).2 wr hr)
              rw [he] at HEk
              have Hsucc := Lib.hid (takeN_succ Rd.num k r1)
              have hlen := takeN_len Rd.num k r1
              have Hy := Lib.hid (show (takeN Rd.num k r1).2.num.1 = (takeN Rd.num k r1).2.num.1 from rfl)
              clear he
              go_wp2_with fail
              refine HEk.out.mono ?_
              rintro e w4 ⟨rfl, rfl⟩
              go_wp2_with fail
              refine HNk.out.mono ?_
              rintro e w5 ⟨rfl, hr5, hg5⟩
              have hV5 := rd_turned hg5 hV hne
              have hT45 : Turned (fun k => k = rb ∨ k = bs) w4.heap.size w4 w5 := Turned.of_grown hg5 (Nat.le_refl _) (fun k e _ => by cases e; exact .inl rfl)
              have hT5 := hT.trans (hT45.mono hT.size (fun _ _ h => h))
              have ho5 := ho.turned hT45 (fun k hk => by have := hbs; have := hrb; omega)
              generalize hyy : (takeN Rd.num k r1).2.num.1 = y at *
              have Hyy := Lib.hid hyy
              clear hyy
              go_wp2_with (at_builtin; refine wpList_append_rows _ rfl _ _ 34 rfl numLay w1.heap.size 3 i0 (.int .i64 0) 8 Tryz.underlying34 Hi.out Hz0.out Hz1.out Hz2.out rfl (by decide) _ _ rfl (ho5.alloc _) ⟨w5.heap.size, 0, none⟩ 1 y rfl (cells_new_at _ w5.heap.size #[.int .i64 y] 3 rfl) (by unfold maxLen; omega) (by omega) (by have := hT5.size; simp; omega) ?_)
              intro v6 w6 ho6 hg6 _
              have hb56 : Below w1.heap.size w5 w6 := ((Below.refl w1.heap.size w5).alloc hT5.size _).grown hg6 (by have := hT5.size; simp; omega) (fun j ej => (ho5.lt ej).1)
              have hT6 : Turned (fun k => k = rb ∨ k = bs) w1.heap.size w1 w6 := hT5.trans (Turned.of_below hb56 (Nat.le_refl _))
              have hr6 := hr5.keeps hb56 hrb
              have hV6 := hV5.keeps hb56 hbs
              clear hg6 ho5 ho hr5 hV5 hr hV c0 hT hT5 hT45 hb56
              go_wp2_with fail
              go_roundw
              case rel =>
                refine ⟨k + 1, by omega, by go_num, ?_, hV6, hT6, ?_⟩
                · rw [Hsucc.out]
                  exact hr6
                · rw [Hsucc.out]
                  first
                    | exact ho6
                    | (show OwnRows numLay w6 w1.heap.size 3 v6 ((takeN Rd.num k r1).1 ++ [(takeN Rd.num k r1).2.num.1])
                       rw [show (takeN Rd.num k r1).2.num.1 = y from Hyy.out]
                       exact ho6)
              case measure => simp [RowKit.intOf]; omega
            · obtain ⟨er, her⟩ : ∃ er, (takeN Rd.num k r1).2.err = er := ⟨_, rfl⟩
              rw [her] at HEk he
              have d5 : (er == 0) = false := by rw [beq_eq_false_iff_ne]; exact he
              have Hen := Lib.hid (show (takeN Rd.num k r1).2.err ≠ 0 by rw [her]; exact he)
              clear her he
              go_wp2_with fail
              refine HEk.out.mono ?_
              rintro e w4 ⟨rfl, rfl⟩
              go_wp2_with fail
              exact HTT.out _ k _ hr hV hT ho hk (.inr Hen.out)
          · obtain rfl : k = N := by omega
            go_wp2_with fail
            exact HTT.out _ k _ hr hV hT ho (Nat.le_refl _) (.inl rfl)

/-! ### string -/
set_option maxRecDepth 100000 in
set_option maxHeartbeats 6400000 in
theorem taken_str (bs rb : Nat) (r : Rd) (most : Nat) (w : World) (hm : most ≤ 1000) (h : SRd w bs rb r) :
    Calls Tryz.prog 39 #[.pointer (some ⟨bs, 0, none⟩), .int .i64 most, .func (.func 40) #[.pointer (some ⟨rb, 0, none⟩)] #[]] w (Took Rd.str id strLay 9 (fun k => k = rb ∨ k = bs) bs rb r most w) := by
  obtain ⟨i0, hi, hz0, hz1, hz2⟩ := info_parts strInfo0
  have Hi := Lib.hid hi
  have Hz0 := Lib.hid hz0
  have Hz1 := Lib.hid hz1
  have Hz2 := Lib.hid hz2
  clear hi hz0 hz1 hz2
  obtain ⟨odd, rc, hv, hrd, hne, hf, ht⟩ := h
  have hbs := hv.1
  have hrb := hrd.lt
  cases odd with
  | true =>
    obtain rfl := ht rfl
    have c0 := hv.2.2 0 _ rfl
    have c1 := hv.2.2 1 _ rfl
    have hrc : RdAt w rb rc := hrd
    have HT : Hid (Took Rd.str id strLay 9 (fun k => k = rb ∨ k = bs) bs rb ⟨11, []⟩ most w (.returned (.slice none 0 0)) w) := Lib.hid ⟨_, [], rfl, OwnRows.nil _ _ _ _, by rw [list_err (by decide)]; exact ⟨true, rc, hv, hrc, hne, (fun e => by cases e), fun _ => rfl⟩, Turned.refl _ _ _, fun _ => by rw [list_err (by decide)]⟩
    clear hf ht
    generalize Took _ _ _ _ _ _ _ _ _ _ = Q at *
    go_enter Tryz.func39, Tryz.ntmps39
    go_wp2_with fail
    exact HT.out
  | false =>
    obtain rfl := hf rfl
    clear hf ht
    have c0 := hv.2.2 0 _ rfl
    have c1 := hv.2.2 1 _ rfl
    have HE := Lib.hid (Err_any rb rc w hrd)
    by_cases h0 : ¬ rc.err = 0
    · have d0 : (rc.err != 0) = true := by rw [bne_iff_ne]; exact h0
      have HT : Hid (Took Rd.str id strLay 9 (fun k => k = rb ∨ k = bs) bs rb rc most w (.returned (.slice none 0 0)) w) := Lib.hid ⟨_, [], rfl, OwnRows.nil _ _ _ _, by rw [list_err h0]; exact ⟨false, rc, hv, hrd, hne, fun _ => rfl, (fun e => by cases e)⟩, Turned.refl _ _ _, fun _ => by rw [list_err h0]⟩
      clear h0
      generalize Took _ _ _ _ _ _ _ _ _ _ = Q at *
      generalize rc.err = er at *
      go_enter Tryz.func39, Tryz.ntmps39
      go_wp2_with fail
      refine HE.out.mono ?_
      rintro e w1 ⟨rfl, rfl⟩
      go_wp2_with fail
      exact HT.out
    replace h0 := Decidable.not_not.1 h0
    have HN := Lib.hid (Num_any rb rc w hrd)
    rw [h0] at HE
    have Hlist := Lib.hid (show listR Rd.str rc most = takeN Rd.str (manyR rc most).1 (manyR rc most).2 from rfl)
    by_cases h1 : ¬ rc.num.2.err = 0
    · have hmm := many_no (most := (most : Int)) h1
      have hn0 := num_zero_err h1
      have d1 : (rc.num.2.err == 0) = false := by rw [beq_eq_false_iff_ne]; exact h1
      have HT : ∀ W, RdAt W rb rc.num.2 → VarAt W bs [.pointer (some ⟨rb, 0, none⟩), .bool false] → Turned (fun k => k = rb ∨ k = bs) w.heap.size w W → Hid (Took Rd.str id strLay 9 (fun k => k = rb ∨ k = bs) bs rb rc most w (.returned (.slice none 0 0)) W) := fun W hr hV hT => Lib.hid ⟨_, [], rfl, OwnRows.nil _ _ _ _, by rw [Hlist.out, hmm]; exact ⟨false, _, hV, hr, hne, fun _ => rfl, (fun e => by cases e)⟩, hT, fun _ => by rw [Hlist.out, hmm]; rfl⟩
      have HTT := Lib.hid HT
      have HE1 := Lib.hid fun W (h : RdAt W rb rc.num.2) => Err_any rb rc.num.2 W h
      rw [hn0] at HN
      clear HT hmm h1 h0 hn0
      generalize Took _ _ _ _ _ _ _ _ _ _ = Q at *
      generalize rc.num.2 = r1 at *
      generalize r1.err = er at *
      go_enter Tryz.func39, Tryz.ntmps39
      go_wp2_with fail
      refine HE.out.mono ?_
      rintro e w1 ⟨rfl, rfl⟩
      go_wp2_with fail
      refine HN.out.mono ?_
      rintro e w2 ⟨rfl, hr2, hg2⟩
      have hV2 := rd_turned hg2 hv hne
      have hT2 : Turned (fun k => k = rb ∨ k = bs) w1.heap.size w1 w2 := Turned.of_grown hg2 (Nat.le_refl _) (fun k e _ => by cases e; exact .inl rfl)
      clear c0 c1
      have c0 := hV2.2.2 0 _ rfl
      have c1 := hV2.2.2 1 _ rfl
      go_wp2_with fail
      refine (HE1.out _ hr2).mono ?_
      rintro e w3 ⟨rfl, rfl⟩
      go_wp2_with fail
      go_loop [8, 9] (fun v i => v = .slice none 0 0 ∧ i = .int .i64 0) (fun _ _ => 0)
      case atStart => exact ⟨rfl, rfl⟩
      case round =>
        obtain ⟨rfl, rfl⟩ := hrel
        go_wp2_with fail
        exact (HTT.out _ hr2 hV2 hT2).out
    · replace h1 := Decidable.not_not.1 h1
      have d1 : (rc.num.2.err == 0) = true := by rw [h1]; rfl
      have HE1 := Lib.hid fun W (h : RdAt W rb rc.num.2) => Err_any rb rc.num.2 W h
      rw [h1] at HE1
      by_cases h2 : rc.num.1 < 0 ∨ (most : Int) < rc.num.1
      · have hmm := many_odd h1 h2
        have HT : ∀ W, RdAt W rb rc.num.2 → VarAt W bs [.pointer (some ⟨rb, 0, none⟩), .bool true] → Turned (fun k => k = rb ∨ k = bs) w.heap.size w W → Hid (Took Rd.str id strLay 9 (fun k => k = rb ∨ k = bs) bs rb rc most w (.returned (.slice none 0 0)) W) := fun W hr hV hT => Lib.hid ⟨_, [], rfl, OwnRows.nil _ _ _ _, by rw [Hlist.out, hmm]; exact ⟨true, _, hV, hr, hne, (fun e => by cases e), fun _ => rfl⟩, hT, fun _ => by rw [Hlist.out, hmm]; rfl⟩
        have HTT := Lib.hid HT
        clear HT hmm h1 h0
        generalize Took _ _ _ _ _ _ _ _ _ _ = Q at *
        generalize rc.num.2 = r1 at *
        generalize rc.num.1 = n at *
        rcases (show n < 0 ∨ (0 ≤ n ∧ (most : Int) < n) by omega) with h2 | ⟨h2, h3⟩
        · have d2 : decide (n < 0) = true := by simpa using h2
          go_enter Tryz.func39, Tryz.ntmps39
          go_wp2_with fail
          refine HE.out.mono ?_
          rintro e w1 ⟨rfl, rfl⟩
          go_wp2_with fail
          refine HN.out.mono ?_
          rintro e w2 ⟨rfl, hr2, hg2⟩
          have hV2 := rd_turned hg2 hv hne
          have hT2 : Turned (fun k => k = rb ∨ k = bs) w1.heap.size w1 w2 := Turned.of_grown hg2 (Nat.le_refl _) (fun k e _ => by cases e; exact .inl rfl)
          clear c0 c1
          have c0 := hV2.2.2 0 _ rfl
          have c1 := hV2.2.2 1 _ rfl
          have hfz := hV2.2.1 1
          go_wp2_with fail
          refine (HE1.out _ hr2).mono ?_
          rintro e w3 ⟨rfl, rfl⟩
          go_wp2_with fail
          exact (HTT.out _ (rdSet hr2 1 _ hne) (hV2.set 1 (.bool true) (by simp)) (hT2.set 1 (.bool true) (fun _ => .inr rfl))).out
        · have d2 : decide (n < 0) = false := by simpa using h2
          have d3 : decide ((most : Int) < n) = true := by simpa using h3
          go_enter Tryz.func39, Tryz.ntmps39
          go_wp2_with fail
          refine HE.out.mono ?_
          rintro e w1 ⟨rfl, rfl⟩
          go_wp2_with fail
          refine HN.out.mono ?_
          rintro e w2 ⟨rfl, hr2, hg2⟩
          have hV2 := rd_turned hg2 hv hne
          have hT2 : Turned (fun k => k = rb ∨ k = bs) w1.heap.size w1 w2 := Turned.of_grown hg2 (Nat.le_refl _) (fun k e _ => by cases e; exact .inl rfl)
          clear c0 c1
          have c0 := hV2.2.2 0 _ rfl
          have c1 := hV2.2.2 1 _ rfl
          have hfz := hV2.2.1 1
          go_wp2_with fail
          refine (HE1.out _ hr2).mono ?_
          rintro e w3 ⟨rfl, rfl⟩
          go_wp2_with fail
          exact (HTT.out _ (rdSet hr2 1 _ hne) (hV2.set 1 (.bool true) (by simp)) (hT2.set 1 (.bool true) (fun _ => .inr rfl))).out
      · have hmm := many_yes h1 h2
        obtain ⟨N, hN⟩ : ∃ N : Nat, rc.num.1 = (N : Int) := ⟨rc.num.1.toNat, by omega⟩
        rw [hN] at hmm HN h2
        rw [Int.toNat_natCast] at hmm
        have d2 : decide ((N : Int) < 0) = false := by simp
        have d3 : decide (most < N) = false := by simp; omega
        have hNm : N ≤ 1000 := by omega
        have HT : ∀ W k v, RdAt W rb (takeN Rd.str k rc.num.2).2 → VarAt W bs [.pointer (some ⟨rb, 0, none⟩), .bool false] → Turned (fun k => k = rb ∨ k = bs) w.heap.size w W → OwnRows strLay W w.heap.size 9 v (takeN Rd.str k rc.num.2).1 → k ≤ N → (k = N ∨ (takeN Rd.str k rc.num.2).2.err ≠ 0) → Took Rd.str id strLay 9 (fun k => k = rb ∨ k = bs) bs rb rc most w (.returned v) W := fun W k v hr hV hT ho hkN hk => by
          have e2 : (takeN Rd.str N rc.num.2).2 = (takeN Rd.str k rc.num.2).2 := by
            rcases hk with rfl | hk
            · rfl
            · exact takeN_stop (fun r hr => str_err0 hr) hkN hk
          refine ⟨v, (takeN Rd.str k rc.num.2).1, rfl, by rw [List.map_id]; exact ho, ?_, hT, ?_⟩
          · rw [Hlist.out, hmm]
            show SRd W bs rb (takeN Rd.str N rc.num.2).2
            rw [e2]
            exact ⟨false, _, hV, hr, hne, fun _ => rfl, (fun e => by cases e)⟩
          · rw [Hlist.out, hmm]
            intro he
            rcases hk with rfl | hk
            · rfl
            · exact absurd (by rw [← e2]; exact he) hk
        have HTT := Lib.hid HT
        clear HT hmm h1 h0 h2 hN Hlist
        generalize Took _ _ _ _ _ _ _ _ _ _ = Q at *
        generalize rc.num.2 = r1 at *
        go_enter Tryz.func39, Tryz.ntmps39
        go_wp2_with fail
        refine HE.out.mono ?_
        rintro e w1 ⟨rfl, rfl⟩
        go_wp2_with fail
        refine HN.out.mono ?_
        rintro e w2 ⟨rfl, hr2, hg2⟩
        have hV2 := rd_turned hg2 hv hne
        have hT2 : Turned (fun k => k = rb ∨ k = bs) w1.heap.size w1 w2 := Turned.of_grown hg2 (Nat.le_refl _) (fun k e _ => by cases e; exact .inl rfl)
        clear c0 c1
        have c0 := hV2.2.2 0 _ rfl
        have c1 := hV2.2.2 1 _ rfl
        go_wp2_with fail
        refine (HE1.out _ hr2).mono ?_
        rintro e w3 ⟨rfl, rfl⟩
        clear c0 c1
        go_wp2_with fail
        go_loopw [8, 9] (fun v i wr => ∃ k : Nat, k ≤ N ∧ i = .int .i64 k ∧ RdAt wr rb (takeN Rd.str k r1).2 ∧ VarAt wr bs [.pointer (some ⟨rb, 0, none⟩), .bool false] ∧ Turned (fun k => k = rb ∨ k = bs) w1.heap.size w1 wr ∧ OwnRows strLay wr w1.heap.size 9 v (takeN Rd.str k r1).1) (fun _ i _ => N - (RowKit.intOf i).toNat)
        case atStart => exact ⟨0, Nat.zero_le _, rfl, hr2, hV2, hT2, OwnRows.nil _ _ _ _⟩
        case round =>
          obtain ⟨k, hk, rfl, hr, hV, hT, ho⟩ := hrel
          have c0 := hV.2.2 0 _ rfl
          by_cases hlt : k < N
          · have HEk := Lib.hid (Err_any rb (takeN Rd.str k r1).2 wr hr)
            by_cases he : (takeN Rd.str k r1).2.err = 0
            · have HNk := Lib.hid (Text_any rb (takeN Rd.str k r1).2 wr hr)
              rw [he] at HEk
              have Hsucc := Lib.hid (takeN_succ Rd.str k r1)
              have hlen := takeN_len Rd.str k r1
              have Hy := Lib.hid (show (takeN Rd.str k r1).2.str.1 = (takeN Rd.str k r1).2.str.1 from rfl)
              clear he
              go_wp2_with fail
              refine HEk.out.mono ?_
              rintro e w4 ⟨rfl, rfl⟩
              go_wp2_with fail
              refine HNk.out.mono ?_
              rintro e w5 ⟨rfl, hr5, hg5⟩
              have hV5 := rd_turned hg5 hV hne
              have hT45 : Turned (fun k => k = rb ∨ k = bs) w4.heap.size w4 w5 := Turned.of_grown hg5 (Nat.le_refl _) (fun k e _ => by cases e; exact .inl rfl)
              have hT5 := hT.trans (hT45.mono hT.size (fun _ _ h => h))
              have ho5 := ho.turned hT45 (fun k hk => by have := hbs; have := hrb; omega)
              generalize hyy : (⟨(takeN Rd.str k r1).2.text.1.toArray⟩ : ByteArray) = y at *
              have Hyy := Lib.hid hyy
              clear hyy
              go_wp2_with (at_builtin; refine wpList_append_rows _ rfl _ _ 36 rfl strLay w1.heap.size 9 i0 (.string ⟨#[]⟩) 16 Tryz.underlying36 Hi.out Hz0.out Hz1.out Hz2.out rfl (by decide) _ _ rfl (ho5.alloc _) ⟨w5.heap.size, 0, none⟩ 1 y rfl (cells_new_at _ w5.heap.size #[.string y] 9 rfl) (by unfold maxLen; omega) (by omega) (by have := hT5.size; simp; omega) ?_)
              intro v6 w6 ho6 hg6 _
              have hb56 : Below w1.heap.size w5 w6 := ((Below.refl w1.heap.size w5).alloc hT5.size _).grown hg6 (by have := hT5.size; simp; omega) (fun j ej => (ho5.lt ej).1)
              have hT6 : Turned (fun k => k = rb ∨ k = bs) w1.heap.size w1 w6 := hT5.trans (Turned.of_below hb56 (Nat.le_refl _))
              have hr6 := hr5.keeps hb56 hrb
              have hV6 := hV5.keeps hb56 hbs
              clear hg6 ho5 ho hr5 hV5 hr hV c0 hT hT5 hT45 hb56
              go_wp2_with fail
              go_roundw
              case rel =>
                refine ⟨k + 1, by omega, by go_num, ?_, hV6, hT6, ?_⟩
                · rw [Hsucc.out]
                  exact hr6
                · rw [Hsucc.out]
                  first
                    | exact ho6
                    | (show OwnRows strLay w6 w1.heap.size 9 v6 ((takeN Rd.str k r1).1 ++ [(takeN Rd.str k r1).2.str.1])
                       rw [show (takeN Rd.str k r1).2.str.1 = y from Hyy.out]
                       exact ho6)
              case measure => simp [RowKit.intOf]; omega
            · obtain ⟨er, her⟩ : ∃ er, (takeN Rd.str k r1).2.err = er := ⟨_, rfl⟩
              rw [her] at HEk he
              have d5 : (er == 0) = false := by rw [beq_eq_false_iff_ne]; exact he
              have Hen := Lib.hid (show (takeN Rd.str k r1).2.err ≠ 0 by rw [her]; exact he)
              clear her he
              go_wp2_with fail
              refine HEk.out.mono ?_
              rintro e w4 ⟨rfl, rfl⟩
              go_wp2_with fail
              exact HTT.out _ k _ hr hV hT ho hk (.inr Hen.out)
          · obtain rfl : k = N := by omega
            go_wp2_with fail
            exact HTT.out _ k _ hr hV hT ho (Nat.le_refl _) (.inl rfl)
end Go.Proofs.YtlenpifjkbcmdaaGreatDoor

namespace Go.Proofs.YtlenpifjkbcmdaaGreatDoor
open Go Go.RowKit Go.Lib

set_option maxRecDepth 100000 in
set_option maxHeartbeats 3200000 in
theorem dec1_any (vr vb bs rb : Nat) (bad odd : Bool) (r : Rd) (w : World) (hlen : r.rest.length ≤ 100000) (hR : VarAt w vr [.pointer (some ⟨bs, 0, none⟩)]) (hV : VarAt w vb [.bool bad]) (hS : VarAt w bs [.pointer (some ⟨rb, 0, none⟩), .bool odd]) (hr : RdAt w rb r) (hvb : vb ≠ rb) :
    Calls Tryz.prog 42 #[.pointer (some ⟨vr, 0, none⟩), .pointer (some ⟨vb, 0, none⟩)] w fun e w' => e = .returned (.agg #[.int .i64 (decO r.text.1).1.cnt, .int .i64 (decO r.text.1).1.who, .int .i64 (decO r.text.1).1.seq, .int .i64 (decO r.text.1).1.kind, .int .i64 (decO r.text.1).1.nc, .int .i64 (decO r.text.1).1.nw, .bool (decO r.text.1).1.dir, .int .i64 (decO r.text.1).1.pc, .int .i64 (decO r.text.1).1.pw, .string (decO r.text.1).1.name, .string (decO r.text.1).1.man]) ∧ RdAt w' rb r.text.2 ∧ VarAt w' vb [.bool (bad || (decO r.text.1).2 != 0)] ∧ Turned (fun k => k = rb ∨ k = vb) w.heap.size w w' := by
  have htl := text_rest r
  have HD := Lib.hid fun W => decode_any ⟨r.text.1.toArray⟩ W (by rw [size_eq]; exact Nat.le_trans htl.1 hlen)
  rw [show (⟨r.text.1.toArray⟩ : ByteArray).data.toList = r.text.1 from rfl] at HD
  obtain ⟨y, er, hd⟩ := pair_of (decO r.text.1)
  rw [hd] at HD ⊢
  dsimp only at HD ⊢
  clear hd htl
  obtain ⟨bq, hbq⟩ : ∃ bq, (er != 0) = bq := ⟨_, rfl⟩
  rw [hbq]
  obtain ⟨bf, hbf⟩ : ∃ bf, (bad || bq) = bf := ⟨_, rfl⟩
  rw [hbf]
  have Hbf := Lib.hid hbf
  clear hbf
  have hb0 := (Below.refl w.heap.size w).alloc (Nat.le_refl _) (.cells #[.int .i64 0, .int .i64 0, .int .i64 0, .int .i64 0, .int .i64 0, .int .i64 0, .bool false, .int .i64 0, .int .i64 0, .string ⟨#[]⟩, .string ⟨#[]⟩] 28)
  have hR0 := VarAt.new w #[.int .i64 0, .int .i64 0, .int .i64 0, .int .i64 0, .int .i64 0, .int .i64 0, .bool false, .int .i64 0, .int .i64 0, .string ⟨#[]⟩, .string ⟨#[]⟩] 28
  have hr0 := hr.keeps hb0 hr.lt
  have hW0 := hR.keeps hb0 hR.1
  have hV0 := hV.keeps hb0 hV.1
  have hS0 := hS.keeps hb0 hS.1
  have hlr := hr.lt
  have hlv := hV.1
  have hT0 : Turned (fun k => k = rb ∨ k = vb) w.heap.size w _ := Turned.of_below hb0 (Nat.le_refl _)
  have HT := Lib.hid (Text_any rb r _ hr0)
  have c0 := hW0.2.2 0 _ rfl
  have c1 := hS0.2.2 0 _ rfl
  generalize hq : (⟨r.text.1.toArray⟩ : ByteArray) = q at *
  clear hq
  clear hR hV hS hr hr0 hb0
  generalize r.text.2 = r2 at *
  go_enter Tryz.func42, Tryz.ntmps42
  go_wp2_with fail
  refine HT.out.mono ?_
  rintro e w2 ⟨rfl, hr2, hg2⟩
  have hR2 := hR0.grown hg2 (by simp; omega)
  have hV2 := hV0.grown hg2 (by simpa using hvb)
  have hT2 := hT0.trans (Turned.of_grown (S := fun k => k = rb ∨ k = vb) (B := w.heap.size) hg2 hT0.size (fun k e _ => by cases e; exact .inl rfl))
  clear c0 c1 hR0 hV0 hS0 hW0 hT0 hg2
  go_wp2_with fail
  refine (HD.out _).mono ?_
  rintro e w3 ⟨rfl, hb3⟩
  have hR3 := hR2.keeps hb3 hR2.1
  have hV3 := hV2.keeps hb3 hV2.1
  have hr3 := hr2.keeps hb3 hr2.lt
  have hT3 := hT2.trans (Turned.of_below hb3 hT2.size)
  clear hR2 hV2 hr2 hT2 hb3
  have hlt3 := hT3.size
  have hltR := hR3.1
  have hltV := hV3.1
  have v0 := hV3.2.2 0 _ rfl
  have vf := hV3.2.1
  have n1 : vb ≠ w3.heap.size := by omega
  have n2 : w.heap.size ≠ w3.heap.size := by omega
  have n3 : w.heap.size ≠ vb := by omega
  cases bad with
  | true =>
    have hb4 := (Below.refl _ (w3.setCell ⟨vb, 0, none⟩ (.bool true))).alloc (Nat.le_refl _) (.cells #[.int .i64 y.cnt, .int .i64 y.who, .int .i64 y.seq, .int .i64 y.kind, .int .i64 y.nc, .int .i64 y.nw, .bool y.dir, .int .i64 y.pc, .int .i64 y.pw, .string y.name, .string y.man] 28)
    have hR4 := (hR3.other (k := vb) (i := 0) (.bool true) n3).keeps hb4 (by simpa using hltR)
    have hV4 := (hV3.set 0 (.bool true) (by simp)).keeps hb4 (by simpa using hltV)
    have hr4 := (hr3.other (k := vb) (i := 0) (.bool true) (Ne.symm hvb)).keeps hb4 (by simpa using hr3.lt)
    have hT4 := (hT3.set (b := vb) 0 (.bool true) (fun _ => .inr rfl)).trans (Turned.of_below hb4 (by simpa using hT3.size))
    have hX := box_VarAt (w3.setCell ⟨vb, 0, none⟩ (.bool true)) y
    rw [show (w3.setCell ⟨vb, 0, none⟩ (.bool true)).heap.size = w3.heap.size by simp] at hX
    go_upto_region 3 with (fail)
    generalize (w3.setCell ⟨vb, 0, none⟩ (.bool true)).alloc (.cells #[.int .i64 y.cnt, .int .i64 y.who, .int .i64 y.seq, .int .i64 y.kind, .int .i64 y.nc, .int .i64 y.nw, .bool y.dir, .int .i64 y.pc, .int .i64 y.pw, .string y.name, .string y.man] 28) = W5 at *
    obtain ⟨xb, hxb⟩ : ∃ xb, xb = w3.heap.size := ⟨_, rfl⟩
    rw [← hxb]
    rw [← hxb] at hX n1 n2
    clear hxb hR3 hV3 hr3 hT3 hb4 v0 vf hlt3 hltR hltV
    have hX : VarAt W5 xb [.int .i64 y.cnt, .int .i64 y.who, .int .i64 y.seq, .int .i64 y.kind, .int .i64 y.nc, .int .i64 y.nw, .bool y.dir, .int .i64 y.pc, .int .i64 y.pw, .string y.name, .string y.man] := hX
    have sf := hR4.2.1
    have s0 := hR4.2.2 0 _ rfl
    have s1 := hR4.2.2 1 _ rfl
    have s2 := hR4.2.2 2 _ rfl
    have s3 := hR4.2.2 3 _ rfl
    have s4 := hR4.2.2 4 _ rfl
    have s5 := hR4.2.2 5 _ rfl
    have s6 := hR4.2.2 6 _ rfl
    have s7 := hR4.2.2 7 _ rfl
    have s8 := hR4.2.2 8 _ rfl
    have s9 := hR4.2.2 9 _ rfl
    have s10 := hR4.2.2 10 _ rfl
    have z0 := hX.2.2 0 _ rfl
    have z1 := hX.2.2 1 _ rfl
    have z2 := hX.2.2 2 _ rfl
    have z3 := hX.2.2 3 _ rfl
    have z4 := hX.2.2 4 _ rfl
    have z5 := hX.2.2 5 _ rfl
    have z6 := hX.2.2 6 _ rfl
    have z7 := hX.2.2 7 _ rfl
    have z8 := hX.2.2 8 _ rfl
    have z9 := hX.2.2 9 _ rfl
    have z10 := hX.2.2 10 _ rfl
    go_wp2_with fail
    dsimp only [List.set] at hV4
    have hR5 := (hR4.put [.int .i64 y.cnt, .int .i64 y.who, .int .i64 y.seq, .int .i64 y.kind, .int .i64 y.nc, .int .i64 y.nw, .bool y.dir, .int .i64 y.pc, .int .i64 y.pw, .string y.name, .string y.man] rfl)
    have hT5 := hT4.put (b := w.heap.size) [.int .i64 y.cnt, .int .i64 y.who, .int .i64 y.seq, .int .i64 y.kind, .int .i64 y.nc, .int .i64 y.nw, .bool y.dir, .int .i64 y.pc, .int .i64 y.pw, .string y.name, .string y.man] 0 (fun h => absurd h (Nat.lt_irrefl _))
    have hV5 := hV4.putOther (b := w.heap.size) [.int .i64 y.cnt, .int .i64 y.who, .int .i64 y.seq, .int .i64 y.kind, .int .i64 y.nc, .int .i64 y.nw, .bool y.dir, .int .i64 y.pc, .int .i64 y.pw, .string y.name, .string y.man] 0 (by omega)
    have hr5 := hr4.same (putRow_block (b := w.heap.size) (k := rb) (by omega) [.int .i64 y.cnt, .int .i64 y.who, .int .i64 y.seq, .int .i64 y.kind, .int .i64 y.nc, .int .i64 y.nw, .bool y.dir, .int .i64 y.pc, .int .i64 y.pw, .string y.name, .string y.man] 0 _) (Nat.le_of_eq (putRow_size _ 0 _).symm)
    simp only [putRow, Nat.zero_add, Nat.reduceAdd] at hR5 hT5 hV5 hr5
    have e0 := hR5.2.2 0 _ rfl
    have e1 := hR5.2.2 1 _ rfl
    have e2 := hR5.2.2 2 _ rfl
    have e3 := hR5.2.2 3 _ rfl
    have e4 := hR5.2.2 4 _ rfl
    have e5 := hR5.2.2 5 _ rfl
    have e6 := hR5.2.2 6 _ rfl
    have e7 := hR5.2.2 7 _ rfl
    have e8 := hR5.2.2 8 _ rfl
    have e9 := hR5.2.2 9 _ rfl
    have e10 := hR5.2.2 10 _ rfl
    refine bodyPost_ret (v := .agg #[.int .i64 y.cnt, .int .i64 y.who, .int .i64 y.seq, .int .i64 y.kind, .int .i64 y.nc, .int .i64 y.nw, .bool y.dir, .int .i64 y.pc, .int .i64 y.pw, .string y.name, .string y.man]) (by simp [results, Tryz.results42, go_sem, e0, e1, e2, e3, e4, e5, e6, e7, e8, e9, e10]) rfl ⟨rfl, hr5, by rw [← Hbf.out]; simpa using hV5, hT5⟩
  | false =>
    have hb4 := (Below.refl _ (w3.setCell ⟨vb, 0, none⟩ (.bool bq))).alloc (Nat.le_refl _) (.cells #[.int .i64 y.cnt, .int .i64 y.who, .int .i64 y.seq, .int .i64 y.kind, .int .i64 y.nc, .int .i64 y.nw, .bool y.dir, .int .i64 y.pc, .int .i64 y.pw, .string y.name, .string y.man] 28)
    have hR4 := (hR3.other (k := vb) (i := 0) (.bool bq) n3).keeps hb4 (by simpa using hltR)
    have hV4 := (hV3.set 0 (.bool bq) (by simp)).keeps hb4 (by simpa using hltV)
    have hr4 := (hr3.other (k := vb) (i := 0) (.bool bq) (Ne.symm hvb)).keeps hb4 (by simpa using hr3.lt)
    have hT4 := (hT3.set (b := vb) 0 (.bool bq) (fun _ => .inr rfl)).trans (Turned.of_below hb4 (by simpa using hT3.size))
    have hX := box_VarAt (w3.setCell ⟨vb, 0, none⟩ (.bool bq)) y
    rw [show (w3.setCell ⟨vb, 0, none⟩ (.bool bq)).heap.size = w3.heap.size by simp] at hX
    go_upto_region 3 with (fail)
    generalize (w3.setCell ⟨vb, 0, none⟩ (.bool bq)).alloc (.cells #[.int .i64 y.cnt, .int .i64 y.who, .int .i64 y.seq, .int .i64 y.kind, .int .i64 y.nc, .int .i64 y.nw, .bool y.dir, .int .i64 y.pc, .int .i64 y.pw, .string y.name, .string y.man] 28) = W5 at *
    obtain ⟨xb, hxb⟩ : ∃ xb, xb = w3.heap.size := ⟨_, rfl⟩
    rw [← hxb]
    rw [← hxb] at hX n1 n2
    clear hxb hR3 hV3 hr3 hT3 hb4 v0 vf hlt3 hltR hltV
    have hX : VarAt W5 xb [.int .i64 y.cnt, .int .i64 y.who, .int .i64 y.seq, .int .i64 y.kind, .int .i64 y.nc, .int .i64 y.nw, .bool y.dir, .int .i64 y.pc, .int .i64 y.pw, .string y.name, .string y.man] := hX
    have sf := hR4.2.1
    have s0 := hR4.2.2 0 _ rfl
    have s1 := hR4.2.2 1 _ rfl
    have s2 := hR4.2.2 2 _ rfl
    have s3 := hR4.2.2 3 _ rfl
    have s4 := hR4.2.2 4 _ rfl
    have s5 := hR4.2.2 5 _ rfl
    have s6 := hR4.2.2 6 _ rfl
    have s7 := hR4.2.2 7 _ rfl
    have s8 := hR4.2.2 8 _ rfl
    have s9 := hR4.2.2 9 _ rfl
    have s10 := hR4.2.2 10 _ rfl
    have z0 := hX.2.2 0 _ rfl
    have z1 := hX.2.2 1 _ rfl
    have z2 := hX.2.2 2 _ rfl
    have z3 := hX.2.2 3 _ rfl
    have z4 := hX.2.2 4 _ rfl
    have z5 := hX.2.2 5 _ rfl
    have z6 := hX.2.2 6 _ rfl
    have z7 := hX.2.2 7 _ rfl
    have z8 := hX.2.2 8 _ rfl
    have z9 := hX.2.2 9 _ rfl
    have z10 := hX.2.2 10 _ rfl
    go_wp2_with fail
    dsimp only [List.set] at hV4
    have hR5 := (hR4.put [.int .i64 y.cnt, .int .i64 y.who, .int .i64 y.seq, .int .i64 y.kind, .int .i64 y.nc, .int .i64 y.nw, .bool y.dir, .int .i64 y.pc, .int .i64 y.pw, .string y.name, .string y.man] rfl)
    have hT5 := hT4.put (b := w.heap.size) [.int .i64 y.cnt, .int .i64 y.who, .int .i64 y.seq, .int .i64 y.kind, .int .i64 y.nc, .int .i64 y.nw, .bool y.dir, .int .i64 y.pc, .int .i64 y.pw, .string y.name, .string y.man] 0 (fun h => absurd h (Nat.lt_irrefl _))
    have hV5 := hV4.putOther (b := w.heap.size) [.int .i64 y.cnt, .int .i64 y.who, .int .i64 y.seq, .int .i64 y.kind, .int .i64 y.nc, .int .i64 y.nw, .bool y.dir, .int .i64 y.pc, .int .i64 y.pw, .string y.name, .string y.man] 0 (by omega)
    have hr5 := hr4.same (putRow_block (b := w.heap.size) (k := rb) (by omega) [.int .i64 y.cnt, .int .i64 y.who, .int .i64 y.seq, .int .i64 y.kind, .int .i64 y.nc, .int .i64 y.nw, .bool y.dir, .int .i64 y.pc, .int .i64 y.pw, .string y.name, .string y.man] 0 _) (Nat.le_of_eq (putRow_size _ 0 _).symm)
    simp only [putRow, Nat.zero_add, Nat.reduceAdd] at hR5 hT5 hV5 hr5
    have e0 := hR5.2.2 0 _ rfl
    have e1 := hR5.2.2 1 _ rfl
    have e2 := hR5.2.2 2 _ rfl
    have e3 := hR5.2.2 3 _ rfl
    have e4 := hR5.2.2 4 _ rfl
    have e5 := hR5.2.2 5 _ rfl
    have e6 := hR5.2.2 6 _ rfl
    have e7 := hR5.2.2 7 _ rfl
    have e8 := hR5.2.2 8 _ rfl
    have e9 := hR5.2.2 9 _ rfl
    have e10 := hR5.2.2 10 _ rfl
    refine bodyPost_ret (v := .agg #[.int .i64 y.cnt, .int .i64 y.who, .int .i64 y.seq, .int .i64 y.kind, .int .i64 y.nc, .int .i64 y.nw, .bool y.dir, .int .i64 y.pc, .int .i64 y.pw, .string y.name, .string y.man]) (by simp [results, Tryz.results42, go_sem, e0, e1, e2, e3, e4, e5, e6, e7, e8, e9, e10]) rfl ⟨rfl, hr5, by rw [← Hbf.out]; simpa using hV5, hT5⟩
end Go.Proofs.YtlenpifjkbcmdaaGreatDoor

namespace Go.Proofs.YtlenpifjkbcmdaaGreatDoor
open Go Go.RowKit Go.Lib

theorem VarAt.turned {W W' : World} {S : Nat → Prop} {B b : Nat} {cs : List Value} (h : VarAt W b cs) (ht : Turned S B W W') (hlt : b < B) (hs : ¬ S b) : VarAt W' b cs := h.same (ht.block b hlt hs) ht.size
theorem takeN_rest (k : Nat) (r : Rd) : (takeN Rd.str k r).2.rest.length ≤ r.rest.length := by
  induction k generalizing r with
  | zero => exact Nat.le_refl _
  | succ k ih => exact Nat.le_trans (ih _) (text_rest r).2
def opOf (t : ByteArray) : Opr := (decO t.data.toList).1
def badOf (t : ByteArray) : Bool := (decO t.data.toList).2 != 0
/-- What taken leaves. -/
def TookO (bad : Bool) (vb bs rb : Nat) (r : Rd) (most : Int) (w : World) (e : Ending) (w' : World) : Prop :=
  ∃ (v : Value) (xs : List ByteArray) (bq : Bool), e = .returned v ∧ OwnRows oprLay w' w.heap.size 28 v (xs.map opOf) ∧ SRd w' bs rb (listR Rd.str r most).2 ∧ VarAt w' vb [.bool bq] ∧ Turned (fun k => k = rb ∨ k = bs ∨ k = vb) w.heap.size w w' ∧ ((listR Rd.str r most).2.err = 0 → xs = (listR Rd.str r most).1 ∧ bq = (bad || xs.any badOf))

theorem oprInfo0 : (Tryz.prog.info? 28).map (fun i => (i.zero, i.size, i.bytes)) = some (some (.agg #[.int .i64 0, .int .i64 0, .int .i64 0, .int .i64 0, .int .i64 0, .int .i64 0, .bool false, .int .i64 0, .int .i64 0, .string ⟨#[]⟩, .string ⟨#[]⟩]), 11, 104) := by kernel_rfl
set_option maxRecDepth 100000 in
set_option maxHeartbeats 6400000 in
theorem taken_op (vr vb bs rb : Nat) (bad : Bool) (r : Rd) (most : Nat) (w : World) (hm : most ≤ 1000) (hlen : r.rest.length ≤ 100000) (h : SRd w bs rb r) (hvr : VarAt w vr [.pointer (some ⟨bs, 0, none⟩)]) (hvb : VarAt w vb [.bool bad]) (n1 : vr ≠ rb) (n2 : vb ≠ rb) (n3 : vb ≠ bs) (n4 : vr ≠ bs) (n5 : vr ≠ vb) :
    Calls Tryz.prog 41 #[.pointer (some ⟨bs, 0, none⟩), .int .i64 most, .func (.func 42) #[] #[.pointer (some ⟨vr, 0, none⟩), .pointer (some ⟨vb, 0, none⟩)]] w (TookO bad vb bs rb r most w) := by
  obtain ⟨i0, hi, hz0, hz1, hz2⟩ := info_parts oprInfo0
  have Hi := Lib.hid hi
  have Hz0 := Lib.hid hz0
  have Hz1 := Lib.hid hz1
  have Hz2 := Lib.hid hz2
  clear hi hz0 hz1 hz2
  obtain ⟨odd, rc, hv, hrd, hne, hf, ht⟩ := h
  have hbs := hv.1
  have hrb := hrd.lt
  have hlr := hvr.1
  have hlb := hvb.1
  cases odd with
  | true =>
    obtain rfl := ht rfl
    have c0 := hv.2.2 0 _ rfl
    have c1 := hv.2.2 1 _ rfl
    have HT : Hid (TookO bad vb bs rb ⟨11, []⟩ most w (.returned (.slice none 0 0)) w) := Lib.hid ⟨_, [], bad, rfl, OwnRows.nil _ _ _ _, by rw [list_err (by decide)]; exact ⟨true, rc, hv, hrd, hne, (fun e => by cases e), fun _ => rfl⟩, hvb, Turned.refl _ _ _, fun _ => by rw [list_err (by decide)]; exact ⟨rfl, by simp⟩⟩
    clear hf ht
    generalize TookO _ _ _ _ _ _ _ = Q at *
    clear hvr hvb hrd
    go_enter Tryz.func41, Tryz.ntmps41
    go_wp2_with fail
    exact HT.out
  | false =>
    obtain rfl := hf rfl
    clear hf ht
    have c0 := hv.2.2 0 _ rfl
    have c1 := hv.2.2 1 _ rfl
    have HE := Lib.hid (Err_any rb rc w hrd)
    by_cases h0 : ¬ rc.err = 0
    · have d0 : (rc.err != 0) = true := by rw [bne_iff_ne]; exact h0
      have HT : Hid (TookO bad vb bs rb rc most w (.returned (.slice none 0 0)) w) := Lib.hid ⟨_, [], bad, rfl, OwnRows.nil _ _ _ _, by rw [list_err h0]; exact ⟨false, rc, hv, hrd, hne, fun _ => rfl, (fun e => by cases e)⟩, hvb, Turned.refl _ _ _, fun _ => by rw [list_err h0]; exact ⟨rfl, by simp⟩⟩
      clear h0
      generalize TookO _ _ _ _ _ _ _ = Q at *
      generalize rc.err = er at *
      clear hvr hvb
      go_enter Tryz.func41, Tryz.ntmps41
      go_wp2_with fail
      refine HE.out.mono ?_
      rintro e w1 ⟨rfl, rfl⟩
      go_wp2_with fail
      exact HT.out
    replace h0 := Decidable.not_not.1 h0
    have HN := Lib.hid (Num_any rb rc w hrd)
    rw [h0] at HE
    have Hlist := Lib.hid (show listR Rd.str rc most = takeN Rd.str (manyR rc most).1 (manyR rc most).2 from rfl)
    by_cases h1 : ¬ rc.num.2.err = 0
    · have hmm := many_no (most := (most : Int)) h1
      have hn0 := num_zero_err h1
      have d1 : (rc.num.2.err == 0) = false := by rw [beq_eq_false_iff_ne]; exact h1
      have HT : ∀ W, RdAt W rb rc.num.2 → VarAt W bs [.pointer (some ⟨rb, 0, none⟩), .bool false] → VarAt W vb [.bool bad] → Turned (fun k => k = rb ∨ k = bs ∨ k = vb) w.heap.size w W → Hid (TookO bad vb bs rb rc most w (.returned (.slice none 0 0)) W) := fun W hr hV hB hT => Lib.hid ⟨_, [], bad, rfl, OwnRows.nil _ _ _ _, by rw [Hlist.out, hmm]; exact ⟨false, _, hV, hr, hne, fun _ => rfl, (fun e => by cases e)⟩, hB, hT, fun _ => by rw [Hlist.out, hmm]; exact ⟨rfl, by simp⟩⟩
      have HTT := Lib.hid HT
      have HE1 := Lib.hid fun W (h : RdAt W rb rc.num.2) => Err_any rb rc.num.2 W h
      rw [hn0] at HN
      clear HT hmm h1 h0 hn0
      generalize TookO _ _ _ _ _ _ _ = Q at *
      generalize rc.num.2 = r1 at *
      generalize r1.err = er at *
      go_enter Tryz.func41, Tryz.ntmps41
      go_wp2_with fail
      refine HE.out.mono ?_
      rintro e w1 ⟨rfl, rfl⟩
      go_wp2_with fail
      refine HN.out.mono ?_
      rintro e w2 ⟨rfl, hr2, hg2⟩
      have hV2 := rd_turned hg2 hv hne
      have hB2 := rd_turned hg2 hvb n2
      have hT2 : Turned (fun k => k = rb ∨ k = bs ∨ k = vb) w1.heap.size w1 w2 := Turned.of_grown hg2 (Nat.le_refl _) (fun k e _ => by cases e; exact .inl rfl)
      clear c0 c1
      have c0 := hV2.2.2 0 _ rfl
      have c1 := hV2.2.2 1 _ rfl
      go_wp2_with fail
      refine (HE1.out _ hr2).mono ?_
      rintro e w3 ⟨rfl, rfl⟩
      go_wp2_with fail
      go_loop [8, 9] (fun v i => v = .slice none 0 0 ∧ i = .int .i64 0) (fun _ _ => 0)
      case atStart => exact ⟨rfl, rfl⟩
      case round =>
        obtain ⟨rfl, rfl⟩ := hrel
        go_wp2_with fail
        exact (HTT.out _ hr2 hV2 hB2 hT2).out
    · replace h1 := Decidable.not_not.1 h1
      have d1 : (rc.num.2.err == 0) = true := by rw [h1]; rfl
      have HE1 := Lib.hid fun W (h : RdAt W rb rc.num.2) => Err_any rb rc.num.2 W h
      rw [h1] at HE1
      by_cases h2 : rc.num.1 < 0 ∨ (most : Int) < rc.num.1
      · have hmm := many_odd h1 h2
        have HT : ∀ W, RdAt W rb rc.num.2 → VarAt W bs [.pointer (some ⟨rb, 0, none⟩), .bool true] → VarAt W vb [.bool bad] → Turned (fun k => k = rb ∨ k = bs ∨ k = vb) w.heap.size w W → Hid (TookO bad vb bs rb rc most w (.returned (.slice none 0 0)) W) := fun W hr hV hB hT => Lib.hid ⟨_, [], bad, rfl, OwnRows.nil _ _ _ _, by rw [Hlist.out, hmm]; exact ⟨true, _, hV, hr, hne, (fun e => by cases e), fun _ => rfl⟩, hB, hT, fun _ => by rw [Hlist.out, hmm]; exact ⟨rfl, by simp⟩⟩
        have HTT := Lib.hid HT
        clear HT hmm h1 h0
        generalize TookO _ _ _ _ _ _ _ = Q at *
        generalize rc.num.2 = r1 at *
        generalize rc.num.1 = n at *
        rcases (show n < 0 ∨ (0 ≤ n ∧ (most : Int) < n) by omega) with h2 | ⟨h2, h3⟩
        · have d2 : decide (n < 0) = true := by simpa using h2
          go_enter Tryz.func41, Tryz.ntmps41
          go_wp2_with fail
          refine HE.out.mono ?_
          rintro e w1 ⟨rfl, rfl⟩
          go_wp2_with fail
          refine HN.out.mono ?_
          rintro e w2 ⟨rfl, hr2, hg2⟩
          have hV2 := rd_turned hg2 hv hne
          have hB2 := rd_turned hg2 hvb n2
          have hT2 : Turned (fun k => k = rb ∨ k = bs ∨ k = vb) w1.heap.size w1 w2 := Turned.of_grown hg2 (Nat.le_refl _) (fun k e _ => by cases e; exact .inl rfl)
          clear c0 c1
          have c0 := hV2.2.2 0 _ rfl
          have c1 := hV2.2.2 1 _ rfl
          have hfz := hV2.2.1 1
          go_wp2_with fail
          refine (HE1.out _ hr2).mono ?_
          rintro e w3 ⟨rfl, rfl⟩
          go_wp2_with fail
          exact (HTT.out _ (rdSet hr2 1 _ hne) (hV2.set 1 (.bool true) (by simp)) (hB2.other (k := bs) (i := 1) (.bool true) n3) (hT2.set 1 (.bool true) (fun _ => .inr (.inl rfl)))).out
        · have d2 : decide (n < 0) = false := by simpa using h2
          have d3 : decide ((most : Int) < n) = true := by simpa using h3
          go_enter Tryz.func41, Tryz.ntmps41
          go_wp2_with fail
          refine HE.out.mono ?_
          rintro e w1 ⟨rfl, rfl⟩
          go_wp2_with fail
          refine HN.out.mono ?_
          rintro e w2 ⟨rfl, hr2, hg2⟩
          have hV2 := rd_turned hg2 hv hne
          have hB2 := rd_turned hg2 hvb n2
          have hT2 : Turned (fun k => k = rb ∨ k = bs ∨ k = vb) w1.heap.size w1 w2 := Turned.of_grown hg2 (Nat.le_refl _) (fun k e _ => by cases e; exact .inl rfl)
          clear c0 c1
          have c0 := hV2.2.2 0 _ rfl
          have c1 := hV2.2.2 1 _ rfl
          have hfz := hV2.2.1 1
          go_wp2_with fail
          refine (HE1.out _ hr2).mono ?_
          rintro e w3 ⟨rfl, rfl⟩
          go_wp2_with fail
          exact (HTT.out _ (rdSet hr2 1 _ hne) (hV2.set 1 (.bool true) (by simp)) (hB2.other (k := bs) (i := 1) (.bool true) n3) (hT2.set 1 (.bool true) (fun _ => .inr (.inl rfl)))).out
      · have hmm := many_yes h1 h2
        obtain ⟨N, hN⟩ : ∃ N : Nat, rc.num.1 = (N : Int) := ⟨rc.num.1.toNat, by omega⟩
        rw [hN] at hmm HN h2
        rw [Int.toNat_natCast] at hmm
        have d2 : decide ((N : Int) < 0) = false := by simp
        have d3 : decide (most < N) = false := by simp; omega
        have hNm : N ≤ 1000 := by omega
        have hrest := num_rest rc
        have HT : ∀ W k v, RdAt W rb (takeN Rd.str k rc.num.2).2 → VarAt W bs [.pointer (some ⟨rb, 0, none⟩), .bool false] → VarAt W vb [.bool (bad || (takeN Rd.str k rc.num.2).1.any badOf)] → Turned (fun k => k = rb ∨ k = bs ∨ k = vb) w.heap.size w W → OwnRows oprLay W w.heap.size 28 v ((takeN Rd.str k rc.num.2).1.map opOf) → k ≤ N → (k = N ∨ (takeN Rd.str k rc.num.2).2.err ≠ 0) → TookO bad vb bs rb rc most w (.returned v) W := fun W k v hr hV hB hT ho hkN hk => by
          have e2 : (takeN Rd.str N rc.num.2).2 = (takeN Rd.str k rc.num.2).2 := by
            rcases hk with rfl | hk
            · rfl
            · exact takeN_stop (fun r hr => str_err0 hr) hkN hk
          refine ⟨v, (takeN Rd.str k rc.num.2).1, _, rfl, ho, ?_, hB, hT, ?_⟩
          · rw [Hlist.out, hmm]
            show SRd W bs rb (takeN Rd.str N rc.num.2).2
            rw [e2]
            exact ⟨false, _, hV, hr, hne, fun _ => rfl, (fun e => by cases e)⟩
          · rw [Hlist.out, hmm]
            intro he
            rcases hk with rfl | hk
            · exact ⟨rfl, rfl⟩
            · exact absurd (by rw [← e2]; exact he) hk
        have HTT := Lib.hid HT
        clear HT hmm h1 h0 h2 hN Hlist
        generalize TookO _ _ _ _ _ _ _ = Q at *
        generalize rc.num.2 = r1 at *
        have hr1l : r1.rest.length ≤ 100000 := by omega
        clear hrest hlen
        go_enter Tryz.func41, Tryz.ntmps41
        go_wp2_with fail
        refine HE.out.mono ?_
        rintro e w1 ⟨rfl, rfl⟩
        go_wp2_with fail
        refine HN.out.mono ?_
        rintro e w2 ⟨rfl, hr2, hg2⟩
        have hV2 := rd_turned hg2 hv hne
        have hB2 := rd_turned hg2 hvb n2
        have hW2 := rd_turned hg2 hvr n1
        have hT2 : Turned (fun k => k = rb ∨ k = bs ∨ k = vb) w1.heap.size w1 w2 := Turned.of_grown hg2 (Nat.le_refl _) (fun k e _ => by cases e; exact .inl rfl)
        clear c0 c1
        have c0 := hV2.2.2 0 _ rfl
        have c1 := hV2.2.2 1 _ rfl
        go_wp2_with fail
        refine (HE1.out _ hr2).mono ?_
        rintro e w3 ⟨rfl, rfl⟩
        clear c0 c1
        go_wp2_with fail
        go_loopw [8, 9] (fun v i wr => ∃ k : Nat, k ≤ N ∧ i = .int .i64 k ∧ RdAt wr rb (takeN Rd.str k r1).2 ∧ VarAt wr bs [.pointer (some ⟨rb, 0, none⟩), .bool false] ∧ VarAt wr vr [.pointer (some ⟨bs, 0, none⟩)] ∧ VarAt wr vb [.bool (bad || (takeN Rd.str k r1).1.any badOf)] ∧ Turned (fun k => k = rb ∨ k = bs ∨ k = vb) w1.heap.size w1 wr ∧ OwnRows oprLay wr w1.heap.size 28 v ((takeN Rd.str k r1).1.map opOf)) (fun _ i _ => N - (RowKit.intOf i).toNat)
        case atStart => exact ⟨0, Nat.zero_le _, rfl, hr2, hV2, hW2, by simpa [takeN] using hB2, hT2, OwnRows.nil _ _ _ _⟩
        case round =>
          obtain ⟨k, hk, rfl, hr, hV, hW, hB, hT, ho⟩ := hrel
          have c0 := hV.2.2 0 _ rfl
          by_cases hlt : k < N
          · have HEk := Lib.hid (Err_any rb (takeN Rd.str k r1).2 wr hr)
            by_cases he : (takeN Rd.str k r1).2.err = 0
            · have HNk := Lib.hid (dec1_any vr vb bs rb _ false (takeN Rd.str k r1).2 wr (Nat.le_trans (takeN_rest k r1) hr1l) hW hB hV hr n2)
              rw [he] at HEk
              have Hsucc := Lib.hid (takeN_succ Rd.str k r1)
              have hlk := takeN_len Rd.str k r1
              have hlen : ((takeN Rd.str k r1).1.map opOf).length = k := by rw [List.length_map, hlk]
              clear he hlk
              have hbr := hT.size
              obtain ⟨y, hy⟩ : ∃ y, (decO (takeN Rd.str k r1).2.text.1).1 = y := ⟨_, rfl⟩
              rw [hy] at HNk
              have Hy := Lib.hid hy
              clear hy
              go_wp2_with fail
              refine HEk.out.mono ?_
              rintro e w4 ⟨rfl, rfl⟩
              go_wp2_with fail
              refine HNk.out.mono ?_
              rintro e w5 ⟨rfl, hr5, hB5, hT45⟩
              have hV5 := hV.turned hT45 hV.1 (by rintro (e | e) <;> omega)
              have hW5 := hW.turned hT45 hW.1 (by rintro (e | e) <;> omega)
              have hT5 := hT.trans (hT45.mono hT.size (fun k _ h => by rcases h with h | h; exact .inl h; exact .inr (.inr h)))
              have ho5 := ho.turned hT45 (fun k hk => by rcases hk with rfl | rfl <;> assumption)
              go_wp2_with (at_builtin; refine wpList_append_rows _ rfl _ _ 22 rfl oprLay w1.heap.size 28 i0 (.agg #[.int .i64 0, .int .i64 0, .int .i64 0, .int .i64 0, .int .i64 0, .int .i64 0, .bool false, .int .i64 0, .int .i64 0, .string ⟨#[]⟩, .string ⟨#[]⟩]) 104 Tryz.underlying22 Hi.out Hz0.out Hz1.out Hz2.out rfl (by decide) _ _ rfl (ho5.alloc _) ⟨w5.heap.size, 0, none⟩ 1 y rfl (cells_new_at _ w5.heap.size #[.int .i64 y.cnt, .int .i64 y.who, .int .i64 y.seq, .int .i64 y.kind, .int .i64 y.nc, .int .i64 y.nw, .bool y.dir, .int .i64 y.pc, .int .i64 y.pw, .string y.name, .string y.man] 28 rfl) (by unfold maxLen; omega) (by omega) (by have := hT5.size; simp; omega) ?_)
              intro v6 w6 ho6 hg6 _
              have hb56 : Below w1.heap.size w5 w6 := ((Below.refl w1.heap.size w5).alloc hT5.size _).grown hg6 (by have := hT5.size; simp; omega) (fun j ej => (ho5.lt ej).1)
              have hT6 : Turned (fun k => k = rb ∨ k = bs ∨ k = vb) w1.heap.size w1 w6 := hT5.trans (Turned.of_below hb56 (Nat.le_refl _))
              have hr6 := hr5.keeps hb56 hrb
              have hV6 := hV5.keeps hb56 hbs
              have hW6 := hW5.keeps hb56 hlr
              have hB6 := hB5.keeps hb56 hlb
              clear hg6 ho5 ho hr5 hV5 hr hV c0 hT hT5 hT45 hb56 hW5 hB5 hW hB
              go_wp2_with fail
              go_roundw
              case rel =>
                refine ⟨k + 1, by omega, by go_num, ?_, hV6, hW6, ?_, hT6, ?_⟩
                · rw [Hsucc.out]
                  exact hr6
                · rw [Hsucc.out]
                  show VarAt w6 vb [.bool (bad || ((takeN Rd.str k r1).1 ++ [(takeN Rd.str k r1).2.str.1]).any badOf)]
                  rw [List.any_append, ← Bool.or_assoc, List.any_cons, List.any_nil, Bool.or_false]
                  exact hB6
                · rw [Hsucc.out]
                  show OwnRows oprLay w6 w1.heap.size 28 v6 (((takeN Rd.str k r1).1 ++ [(takeN Rd.str k r1).2.str.1]).map opOf)
                  rw [List.map_append, List.map_cons, List.map_nil, show opOf (takeN Rd.str k r1).2.str.1 = y from Hy.out]
                  exact ho6
              case measure => simp [RowKit.intOf]; omega
            · obtain ⟨er, her⟩ : ∃ er, (takeN Rd.str k r1).2.err = er := ⟨_, rfl⟩
              rw [her] at HEk he
              have d5 : (er == 0) = false := by rw [beq_eq_false_iff_ne]; exact he
              have Hen := Lib.hid (show (takeN Rd.str k r1).2.err ≠ 0 by rw [her]; exact he)
              clear her he
              go_wp2_with fail
              refine HEk.out.mono ?_
              rintro e w4 ⟨rfl, rfl⟩
              go_wp2_with fail
              exact HTT.out _ k _ hr hV hB hT ho hk (.inr Hen.out)
          · obtain rfl : k = N := by omega
            go_wp2_with fail
            exact HTT.out _ k _ hr hV hB hT ho (Nat.le_refl _) (.inl rfl)
end Go.Proofs.YtlenpifjkbcmdaaGreatDoor

namespace Go.Proofs.YtlenpifjkbcmdaaGreatDoor
open Go Go.RowKit Go.Lib

theorem manyR_le {α : Type} (f : Rd → α × Rd) (r : Rd) (most : Nat) : (listR f r most).1.length ≤ most := by
  unfold listR
  rw [takeN_len]
  unfold manyR
  split
  · exact Nat.zero_le _
  · split
    · exact Nat.zero_le _
    · simp only; omega
theorem manyR_rest (r : Rd) (most : Int) : (manyR r most).2.rest.length ≤ r.rest.length := by
  unfold manyR
  split
  · exact num_rest r
  · split
    · exact Nat.zero_le _
    · exact num_rest r
theorem takeN_size (k : Nat) (r : Rd) : ∀ t ∈ (takeN Rd.str k r).1, t.size ≤ r.rest.length := by
  induction k generalizing r with
  | zero => intro t ht; cases ht
  | succ k ih =>
    intro t ht
    simp only [takeN, List.mem_cons] at ht
    rcases ht with rfl | ht
    · rw [size_eq]
      exact (text_rest r).1
    · exact Nat.le_trans (ih _ t ht) (text_rest r).2
theorem listR_size (r : Rd) (most : Int) : ∀ t ∈ (listR Rd.str r most).1, t.size ≤ r.rest.length := fun t ht => Nat.le_trans (takeN_size _ _ t ht) (manyR_rest r most)
theorem opOf_size (t : ByteArray) : (opOf t).name.size ≤ t.size ∧ (opOf t).man.size ≤ t.size := by
  have h1 := readO_name t.data.toList
  have h2 := readO_man t.data.toList
  rw [← size_eq] at h1 h2
  unfold opOf decO
  split
  · exact ⟨Nat.zero_le _, Nat.zero_le _⟩
  · split
    · exact ⟨Nat.zero_le _, Nat.zero_le _⟩
    · exact ⟨h1, h2⟩
theorem kindR_in {l : List UInt8} (h1 : 1 ≤ (Rd.num ⟨0, l⟩).1) (h2 : (Rd.num ⟨0, l⟩).1 ≤ 3) : kindR l = (Rd.num ⟨0, l⟩).2 := by
  unfold kindR
  rw [if_neg (by omega)]
theorem readM_1 {l : List UInt8} (h : (Rd.num ⟨0, l⟩).1 = 1) : readM l = (⟨1, (listR Rd.num (Rd.num ⟨0, l⟩).2 15).1, (listR Rd.str (listR Rd.num (Rd.num ⟨0, l⟩).2 15).2 16).1, [], []⟩, false, (listR Rd.str (listR Rd.num (Rd.num ⟨0, l⟩).2 15).2 16).2) := by
  unfold readM
  simp only
  rw [if_pos h, kindR_in (by omega) (by omega)]
theorem readM_2 {l : List UInt8} (h : (Rd.num ⟨0, l⟩).1 = 2) : readM l = (⟨2, [], [], (listR Rd.str (Rd.num ⟨0, l⟩).2 20).1.map opOf, []⟩, (listR Rd.str (Rd.num ⟨0, l⟩).2 20).1.any badOf, (listR Rd.str (Rd.num ⟨0, l⟩).2 20).2) := by
  unfold readM
  simp only
  rw [if_neg (by omega), if_pos h, kindR_in (by omega) (by omega)]
  rfl
theorem readM_3 {l : List UInt8} (h : (Rd.num ⟨0, l⟩).1 = 3) : readM l = (⟨3, [], [], [], (listR Rd.str (Rd.num ⟨0, l⟩).2 16).1⟩, false, (listR Rd.str (Rd.num ⟨0, l⟩).2 16).2) := by
  unfold readM
  simp only
  rw [if_neg (by omega), if_neg (by omega), if_pos h, kindR_in (by omega) (by omega)]
theorem readM_0 {l : List UInt8} (h : (Rd.num ⟨0, l⟩).1 < 1 ∨ 3 < (Rd.num ⟨0, l⟩).1) : readM l = (⟨(Rd.num ⟨0, l⟩).1, [], [], [], []⟩, false, if (Rd.num ⟨0, l⟩).2.err = 0 then ⟨11, []⟩ else (Rd.num ⟨0, l⟩).2) := by
  unfold readM
  simp only
  rw [if_neg (by omega), if_neg (by omega), if_neg (by omega)]
  unfold kindR
  by_cases h0 : (Rd.num ⟨0, l⟩).2.err = 0
  · rw [if_pos ⟨h0, h⟩, if_pos h0]
  · rw [if_neg (fun e => h0 e.1), if_neg h0]
theorem dec_odd {l : List UInt8} (h : (readM l).2.2 = ⟨11, []⟩) : decM l = (noMsg, 11) := by
  unfold decM
  rw [h]
  rfl
theorem dec_fin {l : List UInt8} {e : Int} (h : (readM l).2.2.fin = e) (he : e ≠ 0) : decM l = (noMsg, e) := by
  unfold decM
  rw [h, if_pos he]
theorem dec_bad {l : List UInt8} (h : (readM l).2.2.fin = 0) (hb : (readM l).2.1 = true ∨ rightM (readM l).1 = false) : decM l = (noMsg, 11) := by
  unfold decM
  rw [h, if_neg (fun e => e rfl), if_pos hb]
theorem dec_ok {l : List UInt8} (h : (readM l).2.2.fin = 0) (hb : (readM l).2.1 = false) (hr : rightM (readM l).1 = true) : decM l = ((readM l).1, 0) := by
  unfold decM
  rw [h, if_neg (fun e => e rfl), if_neg (by rw [hb, hr]; simp)]
theorem listR_err2 {α : Type} {f : Rd → α × Rd} {r : Rd} {most : Int} (h : (listR f r most).2.err = 0) : r.err = 0 := by
  by_cases h0 : r.err = 0
  · exact h0
  · rw [list_err h0] at h
    exact h
/-- What Decode leaves. -/
def DecPost (l : List UInt8) (w : World) (e : Ending) (w' : World) : Prop :=
  ∃ (av aw ao ap : Option Addr) (cv cw co cp : Nat), e = .returned (.tuple #[.agg #[.int .i64 (decM l).1.kind, .slice av (decM l).1.vec.length cv, .slice aw (decM l).1.wants.length cw, .slice ao (decM l).1.ops.length co, .slice ap (decM l).1.pcs.length cp], .int .i64 (decM l).2]) ∧
    RowsAt numLay w' av (decM l).1.vec ∧ RowsAt strLay w' aw (decM l).1.wants ∧ RowsAt oprLay w' ao (decM l).1.ops ∧ RowsAt strLay w' ap (decM l).1.pcs ∧ Below w.heap.size w w'
theorem decPost_none {l : List UInt8} {w w' : World} {er : Int} (h : decM l = (noMsg, er)) (hb : Below w.heap.size w w') : DecPost l w (.returned (.tuple #[.agg #[.int .i64 0, .slice none 0 0, .slice none 0 0, .slice none 0 0, .slice none 0 0], .int .i64 er])) w' := by
  refine ⟨none, none, none, none, 0, 0, 0, 0, by rw [h]; rfl, ?_, ?_, ?_, ?_, hb⟩
  · rw [h]; exact RowsAt.nil _ _ _
  · rw [h]; exact RowsAt.nil _ _ _
  · rw [h]; exact RowsAt.nil _ _ _
  · rw [h]; exact RowsAt.nil _ _ _
theorem decPost_ok {l : List UInt8} {w w' : World} {m : Msg} {k : Int} {nv nw no np : Nat} (av aw ao ap : Option Addr) (cv cw co cp : Nat) (h : decM l = (m, 0)) (hk : k = m.kind) (h1 : nv = m.vec.length) (h2 : nw = m.wants.length) (h3 : no = m.ops.length) (h4 : np = m.pcs.length) (hb : Below w.heap.size w w')
    (hv : RowsAt numLay w' av m.vec) (hw : RowsAt strLay w' aw m.wants) (ho : RowsAt oprLay w' ao m.ops) (hp : RowsAt strLay w' ap m.pcs) :
    DecPost l w (.returned (.tuple #[.agg #[.int .i64 k, .slice av nv cv, .slice aw nw cw, .slice ao no co, .slice ap np cp], .int .i64 0])) w' := by
  subst hk h1 h2 h3 h4
  refine ⟨av, aw, ao, ap, cv, cw, co, cp, by rw [h], ?_, ?_, ?_, ?_, hb⟩
  · rw [h]; exact hv
  · rw [h]; exact hw
  · rw [h]; exact ho
  · rw [h]; exact hp
theorem cell_set_ne {W : World} {b b' i j : Nat} {v u : Value} (h : W.cell? ⟨b', j, none⟩ = some u) (hne : b' ≠ b) : (W.setCell ⟨b, i, none⟩ v).cell? ⟨b', j, none⟩ = some u := by
  rw [World.cell?_setCell_other _ _ _ _ (by intro h; injection h with h1 _; exact hne h1.symm)]
  exact h
theorem cell_set_ne0 {W : World} {b : Nat} {v u : Value} (h : W.cell? ⟨b, 0, none⟩ = some u) : (W.setCell ⟨b, 1, none⟩ v).cell? ⟨b, 0, none⟩ = some u := by
  rw [World.cell?_setCell_other _ _ _ _ (by intro h; injection h with _ h2; cases h2)]
  exact h
theorem OwnRows.set {α : Type} {L : Lay α} {W : World} {base : Nat} {e : TypeId} {v : Value} {xs : List α} (h : OwnRows L W base e v xs) {b : Nat} (i : Nat) (u : Value) (hb : b < base) : OwnRows L (W.setCell ⟨b, i, none⟩ u) base e v xs :=
  h.turned (S := fun k => k = b) ((Turned.refl _ _ _).set i u (fun _ => rfl)) (fun k hk => by rw [hk]; exact hb)
theorem OwnRows.putRow {α : Type} {L : Lay α} {W : World} {base : Nat} {e : TypeId} {v : Value} {xs : List α} (h : OwnRows L W base e v xs) {b : Nat} (i : Nat) (us : List Value) (hb : b < base) : OwnRows L (putRow W b i us) base e v xs :=
  h.turned (S := fun k => k = b) ((Turned.refl _ _ _).put us i (fun _ => rfl)) (fun k hk => by rw [hk]; exact hb)
theorem OwnRows.rows {α : Type} {L : Lay α} {W : World} {base : Nat} {e : TypeId} {a : Option Addr} {n cap : Nat} {xs : List α} (h : OwnRows L W base e (.slice a n cap) xs) : RowsAt L W a xs := by
  obtain ⟨a', cap', he, hr, _⟩ := h.read
  injection he with h1
  rw [h1]
  exact hr
end Go.Proofs.YtlenpifjkbcmdaaGreatDoor

