/-
  The law SeglogFiles. arbourlaw16: few, begins; a list of lists that came in. What a law keeps of a disk, a log and its own lists from call to call.
-/
import Derived.Test.YtgglheelhbfgiaaGreatDoorSegGB
import Derived.Test.YtgglheelhbfgiaaGreatDoorLogG
import Derived.Test.YtgglheelhbfgiaaGreatDoorArgG
import Derived.Deep.CutRange
namespace Go.Proofs.YtgglheelhbfgiaaGreatDoor
open Go Go.RowKit Go.Lib
/-- A disk and a log in the world, since w0. -/
structure LIn (w0 w : World) (db lb : Nat) (T : Nat → Prop) (d : Dk) (l : Lg) : Prop where
  disk : DOk w db T d
  log : LAt w lb db l
  old : ∀ k, T k → w0.heap.size ≤ k
  lbT : ¬ T lb
  lbo : w0.heap.size ≤ lb
  below : Below w0.heap.size w0 w
theorem LIn.keeps {w0 w w' : World} {db lb : Nat} {T : Nat → Prop} {d : Dk} {l : Lg} (h : LIn w0 w db lb T d l) (hb : Below w.heap.size w w') : LIn w0 w' db lb T d l :=
  ⟨h.disk.below hb, h.log.keeps hb h.log.1, h.old, h.lbT, h.lbo, h.below.trans (hb.mono h.below.size)⟩
theorem LIn.app {w0 w w' : World} {db lb : Nat} {T : Nat → Prop} {d : Dk} {l : Lg} {r : Lg × Dk × Int} {e : Ending} (h : LIn w0 w db lb T d l) (ha : AppIs w db lb T r e w') : e = .returned (.int .i64 r.2.2) ∧ ∃ T', LIn w0 w' db lb T' r.2.1 r.1 ∧ (∀ k, T' k → T k ∨ w.heap.size ≤ k) ∧ Turned (fun k => T k ∨ k = lb) w.heap.size w w' := by
  obtain ⟨he, hL, T', h1, h2, h3, h4⟩ := ha
  refine ⟨he, T', ⟨h1, hL, fun k hk => ?_, h3, h.lbo, below_turned h.below h4 fun k hk => ?_⟩, h2, h4⟩
  · rcases h2 k hk with hk | hk
    · exact h.old k hk
    · exact Nat.le_trans h.below.size hk
  · rcases hk with hk | hk
    · exact h.old k hk
    · rw [hk]
      exact h.lbo
set_option maxRecDepth 100000 in
set_option maxHeartbeats 6400000 in
theorem law_seglogFiles (many each : Int) (w : World) (_ : -9223372036854775808 ≤ many) (_ : many ≤ 9223372036854775807) (_ : -9223372036854775808 ≤ each) (_ : each ≤ 9223372036854775807) (ht : TabD w) :
    Calls Tryz.prog 4 #[.int .i64 many, .int .i64 each] w fun e w' => e = .returned (.bool true) ∧ Below w.heap.size w w' := by
  by_cases hm : many < 0 ∨ 100 < many
  · have HA := Lib.hid (awake16_any w ht)
    clear ht
    rcases hm with hm | hm
    · go_enter Tryz.func4, Tryz.ntmps4
      go_wp2_with fail
      refine HA.out.mono ?_
      rintro e w4 ⟨rfl, hb4⟩
      go_wp2_with fail
      go_ret
      exact ⟨rfl, hb4⟩
    · have hm2 : 0 ≤ many := by omega
      go_enter Tryz.func4, Tryz.ntmps4
      go_wp2_with fail
      refine HA.out.mono ?_
      rintro e w4 ⟨rfl, hb4⟩
      go_wp2_with fail
      go_ret
      exact ⟨rfl, hb4⟩
  · obtain ⟨m, rfl⟩ : ∃ m : Nat, many = (m : Int) := ⟨many.toNat, by omega⟩
    have hm100 : m ≤ 100 := by omega
    have hm100i : (m : Int) ≤ 100 := by omega
    obtain ⟨st, hst⟩ : ∃ st : Nat, min (max each 1) 20 = (st : Int) := ⟨(min (max each 1) 20).toNat, by omega⟩
    have hst1 : 1 ≤ st := by omega
    have hst20 : st ≤ 20 := by omega
    have Hst := Lib.hid hst
    obtain ⟨p1, p2, p3, p4, _⟩ := awake_plain
    have HP := Lib.hid (⟨p1, p2, p3, p4⟩ : aO1.log = some (logOf []) ∧ aO1.out = [] ∧ aO1.err = 0 ∧ StL 100000 aO1.d [])
    have HN := Lib.hid (new_any w 100000 (by decide) (by decide))
    have HT := Lib.hid ht
    clear ht hm p1 p2 p3 p4 hst
    obtain ⟨db, hdb⟩ : ∃ db, w.heap.size + 2 = db := ⟨_, rfl⟩
    rw [hdb] at HN
    clear hdb
    go_enter Tryz.func4, Tryz.ntmps4
    go_wp2_with fail
    refine HN.out.mono ?_
    rintro e w1 ⟨rfl, hD, hb1⟩
    have HO := Lib.hid (sopen_any hD (by show ([] : Fls).length ≤ _; decide) (by show ([] : List ActD).length ≤ _; decide) ⟨w, rfl, HT.out, hb1⟩ (fun k hk => hk.1))
    have HB1 := Lib.hid hb1
    clear hD hb1
    go_wp2_with fail
    refine HO.out.mono ?_
    rintro e w2 hO
    change OpenIs w1 db _ aO1 e w2 at hO
    obtain ⟨T1, hD1, hT1, hTu1, hcase⟩ := hO
    rcases hcase with ⟨h, _⟩ | ⟨l1, lb, v1, hl1, rfl, hL1, hlb1, hlbT1, hown1, _⟩
    · rw [HP.out.1] at h
      cases h
    rw [HP.out.1] at hl1
    cases hl1
    rw [HP.out.2.1] at hown1
    rw [HP.out.2.2.1]
    obtain ⟨a1, c1, rfl, _, _⟩ := hown1.read
    have hS1 : ∀ k, T1 k → w.heap.size ≤ k := fun k hk => by
      rcases hT1 k hk with h | h
      · exact h.1
      · exact Nat.le_trans HB1.out.size h
    have hIn : LIn w w2 db lb T1 aO1.d (logOf []) := ⟨hD1, hL1, hS1, hlbT1, Nat.le_trans HB1.out.size hlb1, below_turned HB1.out hTu1 fun k hk => hk.1⟩
    clear hD1 hT1 hTu1 hL1 hlb1 hlbT1 hown1 hS1
    go_wp2_with fail
    rw [Hst.out]
    go_loopw [11, 12] (fun i _ wr => ∃ (n : Nat) (l : Lg) (d : Dk) (T : Nat → Prop), n ≤ m ∧ i = .int .i64 n ∧ LIn w wr db lb T d l ∧ Hid (FilesSt n d l)) (fun i _ _ => m - (RowKit.intOf i).toNat)
    case atStart => exact ⟨0, _, _, T1, Nat.zero_le _, rfl, hIn, Lib.hid files_start⟩
    case round =>
      obtain ⟨n, l, d, T, hn, rfl, hIn, HF⟩ := hrel
      obtain ⟨wo, hwo⟩ : ∃ wo, wr = wo := ⟨_, rfl⟩
      rw [hwo] at hIn ⊢
      clear hwo
      by_cases hlt : n < m
      · have hlti : (n : Int) < (m : Int) := by omega
        obtain ⟨i0, hi, hz0, hz1, hz2⟩ := info_three strInfoS
        have Hi := Lib.hid hi
        have Hz0 := Lib.hid hz0
        have Hz1 := Lib.hid hz1
        have Hz2 := Lib.hid hz2
        clear hi hz0 hz1 hz2
        have HIn := Lib.hid hIn
        clear hIn
        go_wp2_with fail
        go_loopw [11, 12] (fun i r wx => ∃ j : Nat, n + j ≤ m ∧ j ≤ st ∧ i = .int .i64 ((n + j : Nat) : Int) ∧ OwnRows strLay wx wo.heap.size 9 r (List.replicate j oneR) ∧ Below wo.heap.size wo wx) (fun _ r _ => st - lenV r)
        case atStart => exact ⟨0, by omega, by omega, rfl, OwnRows.nil _ _ _ _, Below.refl _ _⟩
        case round =>
          obtain ⟨j, hj, hjs, rfl, ho, hb⟩ := hrel
          have hrl : (List.replicate j oneR).length = j := List.length_replicate
          obtain ⟨ra, rc, rfl, hrow, _⟩ := ho.read
          rw [hrl] at ho ⊢
          have Hrl := Lib.hid hrl
          clear hrl
          by_cases hjl : j < st ∧ n + j < m
          · obtain ⟨h1, h2⟩ := hjl
            have h1i : (j : Int) < (st : Int) := by omega
            have h2i : ((n + j : Nat) : Int) < (m : Int) := by omega
            have h3i : (n : Int) + (j : Int) < (m : Int) := by omega
            have Ho := Lib.hid ho
            clear hrow ho
            go_wp2_with (at_builtin; refine wpList_append_rows _ rfl _ _ 23 rfl strLay wo.heap.size 9 i0 (.string ⟨#[]⟩) 16 Tryz.underlying23 Hi.out Hz0.out Hz1.out Hz2.out rfl (by decide) _ (List.replicate j oneR) rfl (Ho.out.alloc _) ⟨wr.heap.size, 0, none⟩ 1 oneR rfl (cells_new_at wr wr.heap.size #[.string ⟨#[114]⟩] 9 rfl) (by rw [Hrl.out]; unfold maxLen; omega) (by rw [Hrl.out]; omega) (by have := hb.size; simp; omega) ?_; intro va w3 hrow3 hg3 _; go_frame)
            have hb3 := (hb.alloc hb.size (.cells #[.string ⟨#[114]⟩] 9)).grown hg3 (by have := hb.size; simp; omega) (fun q eq => (Ho.out.lt eq).1)
            rw [show List.replicate j oneR ++ [oneR] = List.replicate (j + 1) oneR from List.replicate_succ'.symm] at hrow3
            obtain ⟨rb, rd, rfl, _, _⟩ := hrow3.read
            go_roundw
            case rel => exact ⟨j + 1, by omega, by omega, by go_num, hrow3, hb3⟩
            case measure => simp only [lenV, List.length_replicate]; omega
          · have hj1 : 1 ≤ j := by omega
            have hrow' := hrow
            have hstep := files_step (j := j) HF.out (by omega)
            have HIx := HIn.out.keeps hb
            have hA : Calls Tryz.prog 10 #[.pointer (some ⟨lb, 0, none⟩), .slice ra j rc] wr fun e w' => AppIs wr db lb T (appendD l (List.replicate j oneR) d) e w' := by
              have := sappend_any (rs := List.replicate j oneR) HIx.disk HIx.log HIx.lbT ra rc hrow' (fun ad e _ => by
                subst e
                have h1 := (ho.lt (k := ad.block) rfl)
                exact ⟨h1.2, fun h => by have := HIn.out.disk.slt _ h; omega⟩) (by rw [HF.out.lg.many, List.length_replicate]; omega) (by rw [Hrl.out]; omega) (Nat.le_trans (names_len HF.out.st.names) (by decide)) (by rw [HF.out.st.acts]; decide)
              rw [Hrl.out] at this
              exact this
            have HA := Lib.hid hA
            have HIx2 := Lib.hid HIx
            have Hs1 := Lib.hid hstep
            clear hA HIx hrow hrow' ho hstep
            generalize appendD l (List.replicate j oneR) d = R at *
            have fin : ∀ b : Bool, True := fun _ => trivial
            clear fin
            rcases Nat.lt_or_ge j st with h1 | h1
            · have hnm : n + j = m := by omega
              have h1i : (j : Int) < (st : Int) := by omega
              have h2i : ¬ ((n : Int) + (j : Int) < (m : Int)) := by omega
              have h2d : decide ((n : Int) + (j : Int) < (m : Int)) = false := decide_eq_false h2i
              have Hnm := Lib.hid hnm
              clear hnm
              go_wp2_with fail
              refine HA.out.mono ?_
              rintro e w4 hApp
              obtain ⟨rfl, T', hIn', _, _⟩ := HIx2.out.app hApp
              have hm' : (R.1.many : Int) = ((n + j : Nat) : Int) := by rw [Hs1.out.2.lg.many, List.length_replicate]
              have HLn := Lib.hid (slen_any lb db _ w4 hIn'.log)
              rw [hm'] at HLn
              rw [Hs1.out.1]
              have HIn' := Lib.hid hIn'
              clear hApp hm' hIn'
              go_wp2_with fail
              refine HLn.out.mono ?_
              rintro e w5 ⟨rfl, hw5⟩
              rw [hw5]
              clear hw5
              go_wp2_with fail
              go_roundw
              case rel => exact ⟨n + j, R.1, R.2.1, T', by omega, by go_num, HIn'.out, Lib.hid Hs1.out.2⟩
              case measure => simp [RowKit.intOf]; omega
            · obtain rfl : j = st := by omega
              go_wp2_with fail
              refine HA.out.mono ?_
              rintro e w4 hApp
              obtain ⟨rfl, T', hIn', _, _⟩ := HIx2.out.app hApp
              have hm' : (R.1.many : Int) = ((n + j : Nat) : Int) := by rw [Hs1.out.2.lg.many, List.length_replicate]
              have HLn := Lib.hid (slen_any lb db _ w4 hIn'.log)
              rw [hm'] at HLn
              rw [Hs1.out.1]
              have HIn' := Lib.hid hIn'
              clear hApp hm' hIn'
              go_wp2_with fail
              refine HLn.out.mono ?_
              rintro e w5 ⟨rfl, hw5⟩
              rw [hw5]
              clear hw5
              go_wp2_with fail
              go_roundw
              case rel => exact ⟨n + j, R.1, R.2.1, T', by omega, by go_num, HIn'.out, Lib.hid Hs1.out.2⟩
              case measure => simp [RowKit.intOf]; omega
      · obtain rfl : n = m := by omega
        have hE := files_end HF.out
        have HE := Lib.hid hE
        have HO2 := Lib.hid (sopen_any hIn.disk (Nat.le_trans (names_len HF.out.st.names) (by decide)) (by rw [HF.out.st.acts]; decide) ⟨w, rfl, HT.out, hIn.below⟩ hIn.old)
        have HIn := Lib.hid hIn
        clear hE hIn
        obtain ⟨O, hO⟩ : ∃ O, openD d = O := ⟨_, rfl⟩
        rw [hO] at HE HO2
        clear hO
        go_wp2_with fail
        refine HO2.out.mono ?_
        rintro e w5 hO
        obtain ⟨T3, hD3, hT3, hTu3, hcase⟩ := hO
        rcases hcase with ⟨h, _⟩ | ⟨l2, lb2, v2, hl2, rfl, _, _, _, hown2, _⟩
        · exact absurd h HE.out.2.2.1
        rw [HE.out.1]
        obtain ⟨a2, c2, hv2, _, _⟩ := hown2.read
        rw [HE.out.2.1] at hv2
        subst hv2
        have hb5 : Below w.heap.size w w5 := below_turned HIn.out.below hTu3 HIn.out.old
        have hnow := HE.out.2.2.2
        have HNm := Lib.hid (dnames_any hD3 (by rw [hnow]; omega))
        have hnl : (namesD O.d).length = (n + 7) / 8 := by rw [← hnow]; exact List.length_map ..
        have hq8 : (((n + 7) / 8 : Nat) : Int) = ((n : Int) + 7) / 8 := by omega
        have Hb5 := Lib.hid hb5
        have Hnl := Lib.hid hnl
        clear hown2 hD3 hT3 hTu3 hb5 hnow hnl hl2
        go_wp2_with fail
        refine HNm.out.mono ?_
        rintro e w6 ⟨u, rfl, hu, hb6⟩
        obtain ⟨ua, uc, hu2, _, _⟩ := hu.read
        rw [Hnl.out] at hu2
        subst hu2
        have hb56 := Hb5.out.trans (hb6.mono Hb5.out.size)
        have HAw := Lib.hid (awake16_any w6 (HT.out.keeps hb56))
        have Hb56 := Lib.hid hb56
        clear hu hb6 hb56
        go_wp2_with fail
        refine HAw.out.mono ?_
        rintro e w7 ⟨rfl, hb7⟩
        go_wp2_with fail
        go_ret
        exact ⟨rfl, Hb56.out.trans (hb7.mono Hb56.out.size)⟩
end Go.Proofs.YtgglheelhbfgiaaGreatDoor

namespace Go.Proofs.YtgglheelhbfgiaaGreatDoor
open Go Go.RowKit Go.Lib
def fewB (rs : List ByteArray) (tq : ByteArray) : Bool := decide (rs.length ≤ 30 ∧ tq.size ≤ 100 ∧ ∀ s ∈ rs, s.size ≤ 2500)
theorem few_big {rs : List ByteArray} {tq : ByteArray} (h : 30 < rs.length ∨ 100 < tq.size) : fewB rs tq = false := decide_eq_false fun hh => by omega
theorem few_at {rs : List ByteArray} {tq : ByteArray} {k : Nat} {s : ByteArray} (hs : rs[k]? = some s) (h : 2500 < s.size) : fewB rs tq = false := decide_eq_false fun hh => by
  have := hh.2.2 s (List.mem_of_getElem? hs)
  omega
theorem few_ok {rs : List ByteArray} {tq : ByteArray} (h1 : rs.length ≤ 30) (h2 : tq.size ≤ 100) (h : ∀ j s, j < rs.length → rs[j]? = some s → s.size ≤ 2500) : fewB rs tq = true := decide_eq_true ⟨h1, h2, fun s hs => by
  obtain ⟨j, hj⟩ := List.getElem?_of_mem hs
  exact h j s (List.getElem?_eq_some_iff.1 hj).1 hj⟩
set_option maxRecDepth 100000 in
set_option maxHeartbeats 1600000 in
theorem sfew_any (ask n : Int) (a : Option Addr) (cap : Nat) (rs : List ByteArray) (torn : Bool) (tq : ByteArray) (w : World) (hR : RowsAt strLay w a rs) :
    Calls Tryz.prog 17 #[.agg #[.int .i64 ask, .slice a rs.length cap, .int .i64 n, .bool torn, .string tq]] w fun e w' => e = .returned (.bool (fewB rs tq)) ∧ Below w.heap.size w w' := by
  have hal := (Below.refl w.heap.size w).alloc (Nat.le_refl _) (.cells #[.int .i64 ask, .slice a rs.length cap, .int .i64 n, .bool torn, .string tq] 44)
  have hV := VarAt.new w #[.int .i64 ask, .slice a rs.length cap, .int .i64 n, .bool torn, .string tq] 44
  have HR := Lib.hid (hR.keeps hal)
  have c1 := hV.2.2 1 _ rfl
  have c4 := hV.2.2 4 _ rfl
  have HV := Lib.hid hV
  clear hR hV
  by_cases h1 : 30 < rs.length
  · have h1i : (30 : Int) < (rs.length : Int) := by omega
    have Hr := Lib.hid (few_big (tq := tq) (.inl h1))
    clear h1
    go_enter Tryz.func17, Tryz.ntmps17
    go_wp2_with fail
    go_ret
    exact ⟨ret_bool Hr.out.symm, hal⟩
  · have h1i : (rs.length : Int) ≤ 30 := by omega
    have h1n : rs.length ≤ 30 := by omega
    by_cases h2 : 100 < tq.size
    · have h2i : (100 : Int) < (tq.size : Int) := by omega
      have Hr := Lib.hid (few_big (rs := rs) (.inr h2))
      clear h1 h2
      go_enter Tryz.func17, Tryz.ntmps17
      go_wp2_with fail
      go_ret
      exact ⟨ret_bool Hr.out.symm, hal⟩
    · have h2i : (tq.size : Int) ≤ 100 := by omega
      have h2n : tq.size ≤ 100 := by omega
      clear h1 h2
      have Hal := Lib.hid hal
      clear hal
      go_enter Tryz.func17, Tryz.ntmps17
      go_wp2_with fail
      obtain ⟨W, hW⟩ : ∃ W, w.alloc (.cells #[.int .i64 ask, .slice a rs.length cap, .int .i64 n, .bool torn, .string tq] 44) = W := ⟨_, rfl⟩
      rw [hW] at HR c1 c4 HV Hal ⊢
      clear hW
      obtain ⟨bx, hbx⟩ : ∃ bx, w.heap.size = bx := ⟨_, rfl⟩
      rw [hbx] at c1 c4 HV Hal ⊢
      have Hbx := Lib.hid hbx
      clear hbx
      go_loopw [3] (fun i wr => ∃ k : Nat, k ≤ rs.length ∧ i = .int .i64 k ∧ Hid (∀ j s, j < k → rs[j]? = some s → s.size ≤ 2500) ∧ wr = W) (fun i _ => rs.length - (RowKit.intOf i).toNat)
      case atStart => exact ⟨0, Nat.zero_le _, rfl, Lib.hid (fun j s hj _ => absurd hj (Nat.not_lt_zero j)), rfl⟩
      case round =>
        obtain ⟨k, hk, rfl, Hk, rfl⟩ := hrel
        by_cases hlt : k < rs.length
        · obtain ⟨s, hs⟩ := at_some hlt
          obtain ⟨b, off, hae, hb, c0⟩ := str_at HR.out hs
          subst hae
          have hlti : (k : Int) < (rs.length : Int) := by omega
          have Hs := Lib.hid hs
          clear hs
          by_cases hz : 2500 < s.size
          · have hzi : (2500 : Int) < (s.size : Int) := by omega
            have Hr := Lib.hid (few_at (tq := tq) Hs.out hz)
            clear hz
            go_wp2_with fail
            go_ret
            exact ⟨ret_bool Hr.out.symm, by rw [Hbx.out]; exact Hal.out⟩
          · have hzi : (s.size : Int) ≤ 2500 := by omega
            have hzn : s.size ≤ 2500 := by omega
            clear hz
            go_wp2_with fail
            go_roundw
            case rel =>
              refine ⟨k + 1, by omega, by go_num, fun j x hj hx => ?_, (by first | rfl | trivial)⟩
              by_cases e : j = k
              · subst e
                rw [Hs.out] at hx
                cases hx
                exact hzn
              · exact Hk.out j x (by omega) hx
            case measure => simp [RowKit.intOf]; omega
        · obtain rfl : k = rs.length := by omega
          have Hr := Lib.hid (few_ok h1n h2n Hk.out)
          go_wp2_with fail
          go_ret
          exact ⟨ret_bool Hr.out.symm, by rw [Hbx.out]; exact Hal.out⟩
set_option maxRecDepth 100000 in
/-- begins, of what is a beginning. -/
theorem begins_any (a b : Option Addr) (ca cb : Nat) (xs ys : List ByteArray) (w : World) (ha : RowsAt strLay w a xs) (hb : RowsAt strLay w b ys) (hl : ys.length ≤ cb) (hy : ys.length ≤ 1000000) (h : xs <+: ys) :
    Calls Tryz.prog 34 #[.slice a xs.length ca, .slice b ys.length cb] w fun e w' => e = .returned (.bool true) ∧ ∃ n, w' = w.drewN n := by
  have hle := h.length_le
  have hlei : (xs.length : Int) ≤ (ys.length : Int) := by omega
  have hcb : xs.length ≤ cb := by omega
  have HT := Lib.hid (stexts_any a b ca cb xs xs w (by omega) ha (hb.of_prefix h))
  rw [decide_eq_true rfl] at HT
  clear ha hb h hl
  go_enter Tryz.func34, Tryz.ntmps34
  go_wp2_with fail
  refine HT.out.mono ?_
  rintro e w1 ⟨rfl, n1, rfl⟩
  go_wp2_with fail
  go_ret
  exact ⟨rfl, n1, rfl⟩
end Go.Proofs.YtgglheelhbfgiaaGreatDoor

namespace Go.Proofs.YtgglheelhbfgiaaGreatDoor
open Go Go.RowKit Go.Lib
/-- From w to w' only the disk's blocks and the log's have turned; what is the disk's behind that was, or is new. -/
structure Stp (w w' : World) (T T' : Nat → Prop) (lb : Nat) : Prop where
  turned : Turned (fun k => T k ∨ k = lb) w.heap.size w w'
  grow : ∀ k, T' k → T k ∨ w.heap.size ≤ k
theorem Stp.of_below {w w' : World} {T : Nat → Prop} {lb : Nat} (hb : Below w.heap.size w w') : Stp w w' T T lb := ⟨Turned.of_below hb (Nat.le_refl _), fun _ h => .inl h⟩
theorem LIn.go {w0 w w' : World} {db lb : Nat} {T : Nat → Prop} {d d' : Dk} {l : Lg} (h : LIn w0 w db lb T d l) (hg : DGo w db T d' w') : ∃ T', LIn w0 w' db lb T' d' l ∧ Stp w w' T T' lb := by
  obtain ⟨h1, h2⟩ := hg
  have hlb : ¬ GrowS T w w' lb := fun hh => by
    rcases hh with hh | hh
    · exact h.lbT hh
    · have := h.log.1
      omega
  refine ⟨_, ⟨h1, h.log.same (h2.block lb h.log.1 h.lbT) h2.size, fun k hk => ?_, hlb, h.lbo, below_turned h.below h2 h.old⟩, ⟨h2.mono (Nat.le_refl _) fun _ _ h => .inl h, fun k hk => hk.imp id And.left⟩⟩
  rcases hk with hk | hk
  · exact h.old k hk
  · exact Nat.le_trans h.below.size hk.1
theorem LIn.stp_app {w0 w w' : World} {db lb : Nat} {T : Nat → Prop} {d : Dk} {l : Lg} {r : Lg × Dk × Int} {e : Ending} (h : LIn w0 w db lb T d l) (ha : AppIs w db lb T r e w') : e = .returned (.int .i64 r.2.2) ∧ ∃ T', LIn w0 w' db lb T' r.2.1 r.1 ∧ Stp w w' T T' lb := by
  obtain ⟨h1, T', h2, h3, h4⟩ := h.app ha
  exact ⟨h1, T', h2, h4, h3⟩
/-- A list of the law's own. -/
structure RowIn (w0 w : World) (T : Nat → Prop) (lb : Nat) (v : Value) (xs : List ByteArray) : Prop where
  row : OwnRows strLay w w0.heap.size 9 v xs
  out : ∀ j, v.ownBlock = some j → ¬ T j ∧ j ≠ lb
theorem RowIn.step {w0 w w' : World} {T T' : Nat → Prop} {lb : Nat} {v : Value} {xs : List ByteArray} (h : RowIn w0 w T lb v xs) (hs : Stp w w' T T' lb) : RowIn w0 w' T' lb v xs := by
  refine ⟨h.row.turnedOther hs.turned fun k hk hh => ?_, fun j hj => ⟨fun hT => ?_, (h.out j hj).2⟩⟩
  · rcases hh with hh | hh
    · exact (h.out k hk).1 hh
    · exact (h.out k hk).2 hh
  · rcases hs.grow j hT with hh | hh
    · exact (h.out j hj).1 hh
    · have := (h.row.lt hj).2
      omega
theorem RowIn.nil (w0 w : World) (T : Nat → Prop) (lb : Nat) : RowIn w0 w T lb (.slice none 0 0) [] := ⟨OwnRows.nil _ _ _ _, fun j hj => by cases hj⟩
theorem OpenIs.one {w w' : World} {db : Nat} {S : Nat → Prop} {o : OpenR} {e : Ending} (h : OpenIs w db S o e w') : ∃ T po v, DOk w' db T o.d ∧ (∀ k, T k → S k ∨ w.heap.size ≤ k) ∧ Turned S w.heap.size w w' ∧ e = .returned (.tuple #[.pointer po, v, .int .i64 o.err]) ∧
    ∀ l, o.log = some l → ∃ lb, po = some ⟨lb, 0, Option.none⟩ ∧ LAt w' lb db l ∧ w.heap.size ≤ lb ∧ ¬ T lb ∧ OwnRows strLay w' w.heap.size 9 v o.out ∧ ∀ k, v.ownBlock = some k → ¬ T k ∧ k ≠ lb := by
  obtain ⟨T, h1, h2, h3, ⟨h4, _, rfl⟩ | ⟨l, lb, v, h4, rfl, h5⟩⟩ := h
  · exact ⟨T, _, _, h1, h2, h3, rfl, fun l hl => by rw [h4] at hl; cases hl⟩
  · exact ⟨T, _, v, h1, h2, h3, rfl, fun l' hl => by
      rw [h4] at hl
      cases hl
      exact ⟨lb, rfl, h5⟩⟩
/-- Behind an opening the old log stands as it stood. -/
theorem LIn.opened {w0 w w' : World} {db lb : Nat} {T T' : Nat → Prop} {d d' : Dk} {l : Lg} (h : LIn w0 w db lb T d l) (h1 : DOk w' db T' d') (h2 : ∀ k, T' k → T k ∨ w.heap.size ≤ k) (h3 : Turned T w.heap.size w w') : LIn w0 w' db lb T' d' l ∧ Stp w w' T T' lb :=
  ⟨⟨h1, h.log.same (h3.block lb h.log.1 h.lbT) h3.size, fun k hk => (h2 k hk).elim (h.old k) fun hk => Nat.le_trans h.below.size hk, notT h2 h.lbT h.log.1, h.lbo, below_turned h.below h3 h.old⟩, ⟨h3.mono (Nat.le_refl _) fun _ _ h => .inl h, h2⟩⟩
/-- A list that came from an opening. -/
theorem RowIn.opened {w0 w w' : World} {T : Nat → Prop} {lb : Nat} {v : Value} {xs : List ByteArray} (hb : w0.heap.size ≤ w.heap.size) (h : OwnRows strLay w' w.heap.size 9 v xs) (h2 : ∀ k, v.ownBlock = some k → ¬ T k ∧ k ≠ lb) : RowIn w0 w' T lb v xs := ⟨h.lower hb, h2⟩
/-- A list of the law's own, at another log that is newer. -/
theorem RowIn.lb {w0 w : World} {T : Nat → Prop} {lb lb2 : Nat} {v : Value} {xs : List ByteArray} (h : RowIn w0 w T lb v xs) (hn : ∀ j, v.ownBlock = some j → j ≠ lb2) : RowIn w0 w T lb2 v xs := ⟨h.row, fun j hj => ⟨(h.out j hj).1, hn j hj⟩⟩
/-- Behind an opening: the new log. -/
theorem LIn.fresh {w0 w w' : World} {db lb lb2 : Nat} {T T' : Nat → Prop} {d d' : Dk} {l l2 : Lg} (h : LIn w0 w db lb T d l) (h1 : DOk w' db T' d') (h2 : ∀ k, T' k → T k ∨ w.heap.size ≤ k) (h3 : Turned T w.heap.size w w') (hL : LAt w' lb2 db l2) (hlb : w.heap.size ≤ lb2) (hT : ¬ T' lb2) : LIn w0 w' db lb2 T' d' l2 :=
  ⟨h1, hL, (h.opened h1 h2 h3).1.old, hT, Nat.le_trans h.below.size hlb, (h.opened h1 h2 h3).1.below⟩
theorem RowIn.fresh {w0 w w' : World} {T T' : Nat → Prop} {lb lb2 : Nat} {v : Value} {xs : List ByteArray} (h : RowIn w0 w T lb v xs) (hs : Stp w w' T T' lb) (hlb : w.heap.size ≤ lb2) : RowIn w0 w' T' lb2 v xs :=
  (h.step hs).lb fun j hj => by
    have := (h.row.lt hj).2
    omega
end Go.Proofs.YtgglheelhbfgiaaGreatDoor

