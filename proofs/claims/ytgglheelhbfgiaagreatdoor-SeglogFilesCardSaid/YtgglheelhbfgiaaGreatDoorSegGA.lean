/-
  seglog: name, frame, right, first. seglog: first. seglog: scan. seglog: Open. seglog: Open, walked.
-/
import Derived.Test.YtgglheelhbfgiaaGreatDoorDiskGC
import Derived.Test.YtgglheelhbfgiaaGreatDoorCodecG
import Derived.Test.YtgglheelhbfgiaaGreatDoorCrcG
import Derived.Test.YtgglheelhbfgiaaGreatDoorAppends
namespace Go.Proofs.YtgglheelhbfgiaaGreatDoor
open Go Go.RowKit Go.Lib
theorem raw_restS (r : Rd) : r.raw.2.rest.length ≤ r.rest.length := by
  unfold Rd.raw
  split
  · exact Nat.le_refl _
  · split
    · exact Nat.zero_le _
    · rename_i h t e
      rw [e]
      split
      · exact Nat.zero_le _
      · split
        · exact Nat.zero_le _
        · split
          · exact Nat.zero_le _
          · simp only [List.length_drop, List.length_cons]
            omega
theorem text_restS (r : Rd) : r.text.1.length ≤ r.rest.length ∧ r.text.2.rest.length ≤ r.rest.length := by
  have h := raw_restS r
  unfold Rd.text
  split
  · exact ⟨Nat.zero_le _, h⟩
  · split
    · exact ⟨Nat.zero_le _, Nat.zero_le _⟩
    · simp only [List.length_take, List.length_drop]
      omega
set_option maxRecDepth 100000 in
theorem sname_any (k : Nat) (hk : k < 100) (w : World) : Calls Tryz.prog 53 #[.int .i64 k] w fun e w' => e = .returned (.string (nameS k)) ∧ w' = w := by
  have HI := Lib.hid (Tryz.strconv_Itoa_small k hk w)
  have Hn := Lib.hid (show nameS k = ⟨#[115, 101, 103, 45]⟩ ++ ⟨(Lib.decDigits k).toArray⟩ by
    apply ba_ext
    rw [ByteArray.data_append, Array.toList_append]
    rfl)
  have hq := (name_size (k := k) (by omega)).2
  rw [Hn.out, ByteArray.size_append] at hq
  have hq2 : (⟨(Lib.decDigits k).toArray⟩ : ByteArray).size ≤ 24 := by omega
  clear hq
  generalize (⟨(Lib.decDigits k).toArray⟩ : ByteArray) = q at *
  generalize nameS k = r at *
  go_enter Tryz.func53, Tryz.ntmps53
  go_wp2_with fail
  refine HI.out.mono ?_
  rintro e w1 ⟨rfl, rfl⟩
  go_wp2_with fail
  go_ret
  exact ⟨by rw [Hn.out]; rfl, rfl⟩
theorem frameB_eq (n : Nat) (s : ByteArray) : frameB n s = mkB (numL (sumC (bodyL n s.data.toList) : Nat)) ++ mkB (textL (bodyL n s.data.toList)) := by
  apply ba_ext
  rw [ByteArray.data_append, Array.toList_append]
  rfl
theorem bodyB_eq (n : Nat) (s : ByteArray) : mkB (bodyL n s.data.toList) = mkB (numL n) ++ mkB (textL s.data.toList) := by
  apply ba_ext
  rw [ByteArray.data_append, Array.toList_append]
  rfl
theorem bodyL_len (n : Nat) (s : List UInt8) : (bodyL n s).length ≤ 18 + s.length := by
  unfold bodyL textL
  rw [List.length_append, List.length_append]
  have h1 := numL_len n
  have h2 : (natL s.length).length ≤ 9 := by
    unfold natL
    rw [List.length_cons, beF_len]
    have := wid_le s.length
    omega
  omega
set_option maxRecDepth 100000 in
set_option maxHeartbeats 1600000 in
theorem frame_any (n : Nat) (s : ByteArray) (w : World) (hs : s.size ≤ 8000) : Calls Tryz.prog 91 #[.int .i64 n, .string s] w fun e w' => e = .returned (.string (frameB n s)) ∧ Below w.heap.size w w' := by
  have H1 := Lib.hid fun W => encNum_any n W
  have H2 := Lib.hid fun W => encText_any s W (by omega)
  have hb := bodyL_len n s.data.toList
  have hb1 : (mkB (bodyL n s.data.toList)).size ≤ 100000000 := by
    rw [mkB_size]
    have : s.data.toList.length = s.size := rfl
    omega
  have hz1 : (mkB (numL (n : Int))).size ≤ 9 := by rw [mkB_size]; exact numL_len _
  have hz3 : (mkB (numL (sumC (bodyL n s.data.toList) : Nat))).size ≤ 9 := by rw [mkB_size]; exact numL_len _
  have htl : ∀ l : List UInt8, (mkB (textL l)).size ≤ 9 + l.length := fun l => by
    rw [mkB_size]
    unfold textL
    rw [List.length_append]
    have h2 : (natL l.length).length ≤ 9 := by
      unfold natL
      rw [List.length_cons, beF_len]
      have := wid_le l.length
      omega
    omega
  have hz2 : (mkB (textL s.data.toList)).size ≤ 8009 := by
    have h1 := htl s.data.toList
    have h2 : s.data.toList.length = s.size := rfl
    omega
  have hz4 : (mkB (textL (bodyL n s.data.toList))).size ≤ 8027 := by
    have h1 := htl (bodyL n s.data.toList)
    have h2 : s.data.toList.length = s.size := rfl
    omega
  clear htl
  have H3 := Lib.hid fun W => sum_any (mkB (bodyL n s.data.toList)) W hb1
  have H4 := Lib.hid fun W => encNum_any (sumC (bodyL n s.data.toList) : Nat) W
  have H5 := Lib.hid fun W => encText_any (mkB (bodyL n s.data.toList)) W hb1
  have HF := Lib.hid (frameB_eq n s)
  have HB := Lib.hid (bodyB_eq n s)
  rw [show (mkB (bodyL n s.data.toList)).data.toList = bodyL n s.data.toList from rfl] at H3 H5
  rw [show (⟨(numL (n : Int)).toArray⟩ : ByteArray) = mkB (numL n) from rfl] at H1
  rw [show (⟨(textL s.data.toList).toArray⟩ : ByteArray) = mkB (textL s.data.toList) from rfl] at H2
  rw [show (⟨(numL (sumC (bodyL n s.data.toList) : Nat)).toArray⟩ : ByteArray) = mkB (numL (sumC (bodyL n s.data.toList) : Nat)) from rfl] at H4
  rw [show (⟨(textL (bodyL n s.data.toList)).toArray⟩ : ByteArray) = mkB (textL (bodyL n s.data.toList)) from rfl] at H5
  clear hb hb1
  generalize mkB (textL (bodyL n s.data.toList)) = x4 at *
  generalize mkB (numL (sumC (bodyL n s.data.toList) : Nat)) = x3 at *
  generalize sumC (bodyL n s.data.toList) = sm at *
  generalize mkB (bodyL n s.data.toList) = bd at *
  generalize mkB (textL s.data.toList) = x2 at *
  generalize mkB (numL (n : Int)) = x1 at *
  generalize frameB n s = fr at *
  go_enter Tryz.func91, Tryz.ntmps91
  go_wp2_with fail
  refine (H1.out _).mono ?_
  rintro e w1 ⟨rfl, hb1⟩
  go_wp2_with fail
  refine (H2.out _).mono ?_
  rintro e w2 ⟨rfl, hb2⟩
  have hb12 := hb1.trans (hb2.mono hb1.size)
  clear hb1 hb2
  go_wp2_with fail
  rw [← HB.out]
  refine (H3.out _).mono ?_
  rintro e w3 ⟨rfl, hb3⟩
  have hb13 := hb12.trans (hb3.mono hb12.size)
  clear hb12 hb3
  go_wp2_with fail
  refine (H4.out _).mono ?_
  rintro e w4 ⟨rfl, hb4⟩
  have hb14 := hb13.trans (hb4.mono hb13.size)
  clear hb13 hb4
  go_wp2_with fail
  refine (H5.out _).mono ?_
  rintro e w5 ⟨rfl, hb5⟩
  have hb15 := hb14.trans (hb5.mono hb14.size)
  clear hb14 hb5
  go_wp2_with fail
  go_ret
  exact ⟨by rw [HF.out]; rfl, hb15⟩
set_option maxRecDepth 100000 in
theorem right_any (s : ByteArray) (w : World) : Calls Tryz.prog 56 #[.string s] w fun e w' => e = .returned (.bool (rightR s)) ∧ w' = w := by
  have he := empty_iff s
  have Hr := Lib.hid (show rightR s = (decide (1 ≤ s.size) && decide (s.size ≤ 2000)) from rfl)
  generalize rightR s = r at *
  by_cases h0 : s.size = 0
  · rw [decide_eq_true h0] at he
    have Hr2 := Lib.hid (show r = false by rw [Hr.out, decide_eq_false (by omega)]; rfl)
    clear h0
    go_enter Tryz.func56, Tryz.ntmps56
    go_wp2_with fail
    go_ret
    exact ⟨by rw [Hr2.out]; rfl, rfl⟩
  · rw [decide_eq_false h0] at he
    by_cases h1 : s.size ≤ 2000
    · have Hr2 := Lib.hid (show r = true by rw [Hr.out, decide_eq_true h1, decide_eq_true (by omega)]; rfl)
      have d1 : decide ((s.size : Int) ≤ 2000) = true := decide_eq_true (by omega)
      have d2 : decide (s.size ≤ 2000) = true := decide_eq_true h1
      clear h0 h1
      go_enter Tryz.func56, Tryz.ntmps56
      go_wp2_with fail
      go_ret
      exact ⟨by rw [Hr2.out]; rfl, rfl⟩
    · have Hr2 := Lib.hid (show r = false by rw [Hr.out, decide_eq_false h1, Bool.and_false])
      have d1 : decide ((s.size : Int) ≤ 2000) = false := decide_eq_false (by omega)
      have d2 : decide (s.size ≤ 2000) = false := decide_eq_false h1
      clear h0 h1
      go_enter Tryz.func56, Tryz.ntmps56
      go_wp2_with fail
      go_ret
      exact ⟨by rw [Hr2.out]; rfl, rfl⟩
end Go.Proofs.YtgglheelhbfgiaaGreatDoor

namespace Go.Proofs.YtgglheelhbfgiaaGreatDoor
open Go Go.RowKit Go.Lib
def firB : Option (List UInt8 × Nat) → ByteArray
  | none => noB
  | some x => mkB x.1
def firN : Option (List UInt8 × Nat) → Nat
  | none => 0
  | some x => x.2
theorem rec_right (l : List UInt8) : rightR (mkB l) = recOk l := by
  unfold rightR recOk
  rw [mkB_size]
theorem neq_int {a b : Int} (h : a ≠ b) : (a != b) = true := bne_iff_ne.2 h
theorem eq_int {a b : Int} (h : a = b) : (a != b) = false := by rw [h]; exact bne_self_eq_false b
set_option maxRecDepth 100000 in
set_option maxHeartbeats 3200000 in
theorem sfirst_any (d : ByteArray) (n : Nat) (w : World) (hd : d.size ≤ 100000000) :
    Calls Tryz.prog 86 #[.string d, .int .i64 n] w fun e w' => e = .returned (.tuple #[.string (firB (firstL d.data.toList n)), .int .i64 (firN (firstL d.data.toList n)), .bool (firstL d.data.toList n).isSome]) ∧ Below w.heap.size w w' := by
  have HR := Lib.hid (Read_any d w hd)
  have hl : d.data.toList.length ≤ 100000000 := hd
  obtain ⟨l, hle⟩ : ∃ l, d.data.toList = l := ⟨_, rfl⟩
  rw [hle] at hl HR ⊢
  clear hle
  obtain ⟨f, hf⟩ : ∃ f, firstL l n = f := ⟨_, rfl⟩
  rw [hf]
  unfold firstL at hf
  obtain ⟨c1, q1⟩ : ∃ c r, Rd.num ⟨0, l⟩ = (c, r) ∧ r.rest.length ≤ 100000000 := ⟨_, _, rfl, Nat.le_trans (raw_restS ⟨0, l⟩) hl⟩
  obtain ⟨r1, hq1, hl1⟩ := q1
  obtain ⟨c2, q2⟩ : ∃ c r, Rd.text r1 = (c, r) ∧ c.length ≤ 100000000 := ⟨_, _, rfl, Nat.le_trans (text_restS r1).1 hl1⟩
  obtain ⟨r2, hq2, hl2⟩ := q2
  obtain ⟨c3, q3⟩ : ∃ c r, Rd.num ⟨0, c2⟩ = (c, r) ∧ r.rest.length ≤ 100000000 := ⟨_, _, rfl, Nat.le_trans (raw_restS ⟨0, c2⟩) hl2⟩
  obtain ⟨r3, hq3, hl3⟩ := q3
  obtain ⟨c4, q4⟩ : ∃ c r, Rd.text r3 = (c, r) ∧ c.length ≤ 100000000 := ⟨_, _, rfl, Nat.le_trans (text_restS r3).1 hl3⟩
  obtain ⟨r4, hq4, hl4⟩ := q4
  simp only [hq1, hq2, hq3, hq4] at hf
  have HN1 := Lib.hid fun W b (h : RdAt W b ⟨0, l⟩) => Num_any b _ W h
  rw [hq1] at HN1
  have HT1 := Lib.hid fun W b (h : RdAt W b r1) => Text_any b _ W h
  rw [hq2] at HT1
  have HE1 := Lib.hid fun W b (h : RdAt W b r2) => Err_any b _ W h
  have HS := Lib.hid fun W => sum_any (mkB c2) W (by rw [mkB_size]; exact hl2)
  rw [show (mkB c2).data.toList = c2 from rfl] at HS
  have HR2 := Lib.hid fun W => Read_any (mkB c2) W (by rw [mkB_size]; exact hl2)
  rw [show (mkB c2).data.toList = c2 from rfl] at HR2
  have HN2 := Lib.hid fun W b (h : RdAt W b ⟨0, c2⟩) => Num_any b _ W h
  rw [hq3] at HN2
  have HT2 := Lib.hid fun W b (h : RdAt W b r3) => Text_any b _ W h
  rw [hq4] at HT2
  have HE2 := Lib.hid fun W b (h : RdAt W b r4) => End_any b _ W h
  have HRt := Lib.hid fun W => right_any (mkB c4) W
  rw [rec_right] at HRt
  have HC1 := Lib.hid fun W => encNum_any c1 W
  have HC2 := Lib.hid fun W => encText_any (mkB c2) W (by rw [mkB_size]; exact hl2)
  rw [show (mkB c2).data.toList = c2 from rfl] at HC2
  have hz1 : (mkB (numL c1)).size = (numL c1).length := mkB_size _
  have hz2 : (mkB (textL c2)).size = (textL c2).length := mkB_size _
  have hb1 := numL_len c1
  have hb2 : (textL c2).length ≤ 100000009 := by
    unfold textL
    rw [List.length_append]
    have h2 : (natL c2.length).length ≤ 9 := by
      unfold natL
      rw [List.length_cons, beF_len]
      have := wid_le c2.length
      omega
    omega
  rw [show (⟨(numL c1).toArray⟩ : ByteArray) = mkB (numL c1) from rfl] at HC1
  rw [show (⟨(textL c2).toArray⟩ : ByteArray) = mkB (textL c2) from rfl] at HC2
  simp only [show (⟨c2.toArray⟩ : ByteArray) = mkB c2 from rfl] at HT1
  simp only [show (⟨c4.toArray⟩ : ByteArray) = mkB c4 from rfl] at HT2
  have Hf := Lib.hid hf
  clear hf hl hl1 hl2 hl3 hl4 hq1 hq2 hq3 hq4
  generalize mkB (numL c1) = x1 at *
  generalize mkB (textL c2) = x2 at *
  generalize (numL c1).length = y1 at *
  generalize (textL c2).length = y2 at *
  generalize hsm : sumC c2 = sm at *
  have hme : ∃ m4, mkB c4 = m4 := ⟨_, rfl⟩
  obtain ⟨m4, hm4⟩ := hme
  have Hm4 := Lib.hid hm4
  rw [hm4] at HT2 HRt
  clear hm4 hsm
  generalize mkB c2 = m2 at *
  go_enter Tryz.func86, Tryz.ntmps86
  go_wp2_with fail
  refine HR.out.mono ?_
  rintro e w1 ⟨rfl, h1, hb1w⟩
  go_wp2_with fail
  refine (HN1.out _ _ h1).mono ?_
  rintro e w2 ⟨rfl, h2, hg2⟩
  have hb2w := hb1w.grown hg2 hb1w.size (fun j ej => by cases ej; exact Nat.le_refl _)
  clear h1 hg2 hb1w
  go_wp2_with fail
  refine (HT1.out _ _ h2).mono ?_
  rintro e w3 ⟨rfl, h3, hg3⟩
  have hb3w := hb2w.grown hg3 hb2w.size (fun j ej => by cases ej; exact Nat.le_refl _)
  clear h2 hg3 hb2w
  go_wp2_with fail
  refine (HE1.out _ _ h3).mono ?_
  rintro e w3' ⟨rfl, hw3⟩
  subst hw3
  by_cases he : r2.err = 0
  · rw [he]
    have Hf2 := Lib.hid he
    clear he
    go_wp2_with fail
    refine (HS.out _).mono ?_
    rintro e w4 ⟨rfl, hb4⟩
    have hb4w := hb3w.trans (hb4.mono hb3w.size)
    clear hb4 hb3w h3
    by_cases hs : c1 = (sm : Int)
    · have e1 := eq_int hs
      have Hf3 := Lib.hid (Hf.out.symm.trans (if_neg fun h => h.elim (fun h => h Hf2.out) (fun h => h hs)))
      clear hs
      go_wp2_with fail
      refine (HR2.out _).mono ?_
      rintro e w5 ⟨rfl, h5, hb5⟩
      have hb5w := hb4w.trans (hb5.mono hb4w.size)
      have hle := hb4w.size
      clear hb5 hb4w
      go_wp2_with fail
      refine (HN2.out _ _ h5).mono ?_
      rintro e w6 ⟨rfl, h6, hg6⟩
      have hb6w := hb5w.grown hg6 hb5w.size (fun j ej => by cases ej; exact hle)
      clear h5 hg6 hb5w
      go_wp2_with fail
      refine (HT2.out _ _ h6).mono ?_
      rintro e w7 ⟨rfl, h7, hg7⟩
      have hb7w := hb6w.grown hg7 hb6w.size (fun j ej => by cases ej; exact hle)
      clear h6 hg7 hb6w
      go_wp2_with fail
      refine (HE2.out _ _ h7).mono ?_
      rintro e w8 ⟨rfl, nd, hw8⟩
      subst hw8
      have hb8w : Below w.heap.size w (w7.drewN nd) := hb7w.trans ⟨rfl, rfl, rfl, Nat.le_refl _, fun _ _ => rfl⟩
      clear h7 hb7w
      generalize w7.drewN nd = w8 at *
      by_cases hfin : r4.fin = 0
      · rw [hfin]
        have Hfin := Lib.hid hfin
        clear hfin
        by_cases hk : c3 = (n : Int)
        · have e2 := eq_int hk
          have Hk := Lib.hid hk
          clear hk
          cases hro : recOk c4 with
          | true =>
            have Hf4 := Lib.hid (Hf3.out.trans (if_neg fun h => h.elim (fun h => h Hfin.out) fun h => h.elim (fun h => h Hk.out) fun h => by rw [hro] at h; cases h))
            rw [hro] at HRt
            clear hro
            go_wp2_with fail
            refine (HRt.out _).mono ?_
            rintro e w9 ⟨rfl, hw9⟩
            subst hw9
            go_wp2_with fail
            refine (HC1.out _).mono ?_
            rintro e w10 ⟨rfl, hb10⟩
            have hb10w := hb8w.trans (hb10.mono hb8w.size)
            clear hb10 hb8w
            go_wp2_with fail
            refine (HC2.out _).mono ?_
            rintro e w11 ⟨rfl, hb11⟩
            have hb11w := hb10w.trans (hb11.mono hb10w.size)
            clear hb11 hb10w
            go_wp2_with fail
            go_ret3
            refine ⟨?_, hb11w⟩
            rw [Hf4.out]
            show _ = Ending.returned (.tuple #[.string (mkB c4), .int .i64 ((y1 + y2 : Nat) : Int), .bool true])
            rw [Hm4.out, Int.natCast_add]
            rfl
          | false =>
            have Hf4 := Lib.hid (Hf3.out.trans (if_pos (.inr (.inr hro))))
            rw [hro] at HRt
            clear hro
            go_wp2_with fail
            refine (HRt.out _).mono ?_
            rintro e w9 ⟨rfl, hw9⟩
            subst hw9
            go_wp2_with fail
            go_ret3
            exact ⟨by rw [Hf4.out]; rfl, hb8w⟩
        · have e2 := neq_int hk
          have Hf4 := Lib.hid (Hf3.out.trans (if_pos (.inr (.inl hk))))
          clear hk
          go_wp2_with fail
          go_ret3
          exact ⟨by rw [Hf4.out]; rfl, hb8w⟩
      · have e2 := neq_int hfin
        have Hf4 := Lib.hid (Hf3.out.trans (if_pos (.inl hfin)))
        clear hfin
        go_wp2_with fail
        go_ret3
        exact ⟨by rw [Hf4.out]; rfl, hb8w⟩
    · have e1 := neq_int hs
      have Hf3 := Lib.hid (Hf.out.symm.trans (if_pos (.inr hs)))
      clear hs
      go_wp2_with fail
      go_ret3
      exact ⟨by rw [Hf3.out]; rfl, hb4w⟩
  · have e1 := neq_int he
    have Hf3 := Lib.hid (Hf.out.symm.trans (if_pos (.inl he)))
    clear he
    go_wp2_with fail
    go_ret3
    exact ⟨by rw [Hf3.out]; rfl, hb3w⟩
end Go.Proofs.YtgglheelhbfgiaaGreatDoor

namespace Go.Proofs.YtgglheelhbfgiaaGreatDoor
open Go Go.RowKit Go.Lib
theorem zeroIntS (w : World) : (zeroValue 3).run Tryz.prog w = .ok (intV.val 0) w := by kernel_rfl
theorem strInfoS : (Tryz.prog.info? 9).map (fun i => (i.zero, i.size, i.bytes)) = some (some (.string ⟨#[]⟩), 1, 16) := by kernel_rfl
theorem info_three {P : Program} {t : TypeId} {z : Value} {n m : Nat} (h : (P.info? t).map (fun i => (i.zero, i.size, i.bytes)) = some (some z, n, m)) : ∃ i, P.info? t = some i ∧ i.zero = some z ∧ i.size = n ∧ i.bytes = m := by
  cases e : P.info? t with
  | none => rw [e] at h; cases h
  | some i => rw [e] at h; simp only [Option.map_some, Option.some.injEq, Prod.mk.injEq] at h; exact ⟨i, rfl, h.1, h.2.1, h.2.2⟩
def lenV : Value → Nat
  | .slice _ n _ => n
  | _ => 0
/-- Where the files that were scanned end. -/
structure EndsIn (now : Fls) (E : Ends) : Prop where
  nodup : (E.map (·.1)).Nodup
  low : ∀ p, 0 ≤ endOf E p
  high : ∀ p, endOf E p ≤ (hasD now p).size
theorem endsIn_nil (now : Fls) : EndsIn now [] := ⟨List.nodup_nil, fun _ => Int.le_refl _, fun _ => Int.natCast_nonneg _⟩
theorem endOf_put {E : Ends} (hn : (E.map (·.1)).Nodup) (p : ByteArray) (a : Int) (q : ByteArray) : endOf (putK E p a) q = if q = p then a else endOf E q := by
  unfold endOf
  rw [findK_put hn]
  split <;> rfl
theorem endsIn_put {now : Fls} {E : Ends} (h : EndsIn now E) {p : ByteArray} {n : Nat} (hn : endOf E p + n ≤ (hasD now p).size) : EndsIn now (putK E p (endOf E p + n)) := by
  refine ⟨keysK_put E p _ h.nodup, fun q => ?_, fun q => ?_⟩
  · rw [endOf_put h.nodup]
    split
    · have := h.low p
      omega
    · exact h.low q
  · rw [endOf_put h.nodup]
    split
    · rename_i e
      rw [e]
      exact hn
    · exact h.high q
theorem scan_stop {now : Fls} {out : List ByteArray} {E : Ends} (h : out.length < 800) (hf : firstL ((hasD now (nameS (out.length / 8))).data.toList.drop (endOf E (nameS (out.length / 8))).toNat) out.length = none) : scanG now (800 - out.length) out E = (out, E) := by
  obtain ⟨m, hm⟩ : ∃ m, 800 - out.length = m + 1 := ⟨799 - out.length, by omega⟩
  rw [hm, scanG, hf]
theorem scan_go {now : Fls} {out : List ByteArray} {E : Ends} {s : List UInt8} {n : Nat} (h : out.length < 800) (hf : firstL ((hasD now (nameS (out.length / 8))).data.toList.drop (endOf E (nameS (out.length / 8))).toNat) out.length = some (s, n)) :
    scanG now (800 - out.length) out E = scanG now (800 - (out ++ [mkB s]).length) (out ++ [mkB s]) (putK E (nameS (out.length / 8)) (endOf E (nameS (out.length / 8)) + n)) := by
  obtain ⟨m, hm⟩ : ∃ m, 800 - out.length = m + 1 := ⟨799 - out.length, by omega⟩
  rw [hm, scanG, hf, List.length_append, List.length_singleton, show 800 - (out.length + 1) = m by omega]
theorem scan_end {now : Fls} {out : List ByteArray} {E : Ends} (h : out.length = 800) : scanG now (800 - out.length) out E = (out, E) := by
  rw [h]
  rfl
theorem read_has {d : Dk} {k : Nat} (hd : d.dead = false) (hk : k < 100) : (readD d (nameS k)).1 = hasD d.now (nameS k) := by
  have hw : wrongD d (nameS k) 0 = 0 := wrong_none hd (by omega) (Int.le_refl _) (Int.natCast_nonneg _)
  unfold readD
  rw [if_neg (by rw [hw]; simp)]
  unfold hasD
  cases findK d.now (nameS k) <;> rfl
theorem first_len {l : List UInt8} {i : Nat} {s : List UInt8} {n : Nat} (h : firstL l i = some (s, n)) : n ≤ l.length := by
  obtain ⟨h1, _, h3⟩ := first_inv h
  have := congrArg List.length h3
  rw [List.length_append] at this
  omega
set_option maxRecDepth 100000 in
set_option maxHeartbeats 3200000 in
theorem sscan_any {w : World} {db : Nat} {S : Nat → Prop} {d : Dk} (h : DOk w db S d) (hd : d.dead = false) :
    Calls Tryz.prog 50 #[.pointer (some ⟨db, 0, none⟩)] w fun e w' => ∃ v mb, e = .returned (.tuple #[v, .map (some mb)]) ∧ OwnRows strLay w' (w.heap.size + 1) 9 v (scanG d.now 800 [] []).1 ∧ w.heap.size = mb ∧ MapK intV Tryz.prog 9 w' mb (scanG d.now 800 [] []).2 ∧ EndsIn d.now (scanG d.now 800 [] []).2 ∧ (scanG d.now 800 [] []).2.length ≤ (scanG d.now 800 [] []).1.length ∧ (scanG d.now 800 [] []).1.length ≤ 800 ∧ Below w.heap.size w w' := by
  obtain ⟨i0, hi, hz0, hz1, hz2⟩ := info_three strInfoS
  have Hi := Lib.hid hi
  have Hz0 := Lib.hid hz0
  have Hz1 := Lib.hid hz1
  have Hz2 := Lib.hid hz2
  clear hi hz0 hz1 hz2
  have hmm := @run_makeMap Tryz.prog
  have hM0 : MapK intV Tryz.prog 9 (w.alloc (.map #[] 0)) w.heap.size [] := MapK.made w
  have hb0 : Below w.heap.size w (w.alloc (.map #[] 0)) := (Below.refl _ _).alloc (Nat.le_refl _) _
  have HD := Lib.hid h
  have Hd := Lib.hid hd
  have HF := Lib.hid h.ok.now
  obtain ⟨R, hR⟩ : ∃ R, scanG d.now 800 [] [] = R := ⟨_, rfl⟩
  rw [hR]
  have HR0 := Lib.hid (show scanG d.now (800 - ([] : List ByteArray).length) [] [] = R from hR)
  clear h hd hR
  go_enter Tryz.func50, Tryz.ntmps50
  go_wp2_with fail
  go_loopw [4, 6, 7, 8, 9, 10, 11] (fun v _ _ _ _ _ _ wr => ∃ (out : List ByteArray) (E : Ends), out.length ≤ 800 ∧ OwnRows strLay wr (w.heap.size + 1) 9 v out ∧ MapK intV Tryz.prog 9 wr w.heap.size E ∧ Hid (EndsIn d.now E) ∧ E.length ≤ out.length ∧ Hid (scanG d.now (800 - out.length) out E = R) ∧ w.heap.size + 1 ≤ wr.heap.size ∧ Below w.heap.size w wr) (fun v _ _ _ _ _ _ _ => 800 - lenV v)
  case atStart => exact ⟨[], [], Nat.zero_le _, OwnRows.nil _ _ _ _, hM0, Lib.hid (endsIn_nil _), Nat.le_refl _, HR0, by simp, hb0⟩
  case round =>
    obtain ⟨out, E, hout, ho, hM, HE, hEl, HR, hsz, hb⟩ := hrel
    obtain ⟨oa, oc, rfl, _, _⟩ := ho.read
    by_cases hlt : out.length < 800
    · have hlti : (out.length : Int) < 800 := by omega
      have hq8 : ((out.length / 8 : Nat) : Int) = (out.length : Int) / 8 := by omega
      have hk8 : out.length / 8 < 100 := by omega
      have Hnm := Lib.hid fun W => sname_any (out.length / 8) hk8 W
      have hnz := (name_size (k := out.length / 8) (by omega)).2
      have HRd := Lib.hid (dread_any (HD.out.below hb) (nameS (out.length / 8)))
      have HX := Lib.hid (read_has (d := d) Hd.out hk8)
      rw [HX.out] at HRd
      have hstop := scan_stop (now := d.now) (out := out) (E := E) hlt
      have hgo := fun s n => scan_go (now := d.now) (out := out) (E := E) (s := s) (n := n) hlt
      have hlow := HE.out.low (nameS (out.length / 8))
      have hhigh := HE.out.high (nameS (out.length / 8))
      have hput := fun n => endsIn_put (n := n) HE.out (p := nameS (out.length / 8))
      have hhas := HF.out.has (nameS (out.length / 8))
      have hlk := MapK.look1 (t := 83) hM dkeyL Tryz.underlying9 Tryz.underlying83 (zeroIntS wr) (p := nameS (out.length / 8)) (by unfold maxLen; omega)
      have hlk2 : (Instr.lookup 83 (.map (some w.heap.size)) (.string (nameS (out.length / 8))) false).run Tryz.prog wr = .ok (.int .i64 (endOf E (nameS (out.length / 8)))) wr := hlk
      have Hlk := Lib.hid fun W (hW : MapK intV Tryz.prog 9 W w.heap.size E) => (show (Instr.lookup 83 (.map (some w.heap.size)) (.string (nameS (out.length / 8))) false).run Tryz.prog W = .ok (.int .i64 (endOf E (nameS (out.length / 8)))) W from MapK.look1 (t := 83) hW dkeyL Tryz.underlying9 Tryz.underlying83 (zeroIntS W) (p := nameS (out.length / 8)) (by unfold maxLen; omega))
      have Hup := Lib.hid fun W (hW : MapK intV Tryz.prog 9 W w.heap.size E) x => MapK.put (t := 83) hW dkeyL Tryz.underlying9 Tryz.underlying83 (nameS (out.length / 8)) x (by unfold maxLen; omega) (by unfold maxLen; omega)
      have hpl := fun x => lenK_put E (nameS (out.length / 8)) x
      clear hlk
      generalize hasD d.now (nameS (out.length / 8)) = s at *
      generalize nameS (out.length / 8) = nm at *
      obtain ⟨m, hm⟩ : ∃ m : Nat, endOf E nm = (m : Int) := ⟨(endOf E nm).toNat, by omega⟩
      rw [hm] at hlk2 hhigh hstop hgo hput Hlk
      rw [Int.toNat_natCast] at hstop hgo
      have hms : m ≤ s.size := by omega
      have hmi : min (m : Int) (s.size : Int) = (m : Int) := by omega
      have hxd : (s.extract m s.size).data.toList = s.data.toList.drop m := drop_extract s m
      have hxz := drop_size s m
      have HFs := Lib.hid fun W => sfirst_any (s.extract m s.size) out.length W (by omega)
      rw [hxd] at HFs
      have Hxz := Lib.hid hxz
      have hdl : (s.data.toList.drop m).length ≤ s.size - m := by
        rw [List.length_drop]
        exact Nat.le_refl _
      have Ho := Lib.hid ho
      have HM := Lib.hid hM
      clear hxd hxz ho hM hm hlow hhigh
      cases hf : firstL (s.data.toList.drop m) out.length with
      | none =>
        rw [hf] at HFs
        have Hst := Lib.hid (HR.out.symm.trans (hstop hf))
        clear hf hstop hgo hput hpl
        go_wp2_with fail
        refine (Hnm.out _).mono ?_
        rintro e w1 ⟨rfl, rfl⟩
        go_wp2_with fail
        refine HRd.out.mono ?_
        rintro e w2 ⟨rfl, rfl⟩
        go_wp2_with fail
        refine (HFs.out _).mono ?_
        rintro e w3 ⟨rfl, hb3⟩
        have hbw3 := hb.trans (hb3.mono hb.size)
        go_wp2_with fail
        refine bodyPost_ret (v := .tuple #[.slice oa out.length oc, .map (some w.heap.size)]) (by simp [results, Tryz.results50, go_sem]) rfl ?_
        rw [Hst.out]
        exact ⟨_, _, rfl, Ho.out.below hb3, rfl, HM.out.keeps hb3 (by omega), HE.out, hEl, hout, hbw3⟩
      | some x =>
        obtain ⟨rs, n⟩ := x
        rw [hf] at HFs
        have Hst := Lib.hid ((hgo rs n hf).symm.trans HR.out)
        have hnl := first_len hf
        have HE2 := Lib.hid (hput n (by omega))
        clear hf hstop hgo hput
        have hmn : m + n ≤ 4202304 := by omega
        go_wp2_with fail
        refine (Hnm.out _).mono ?_
        rintro e w1 ⟨rfl, rfl⟩
        go_wp2_with fail
        refine HRd.out.mono ?_
        rintro e w2 ⟨rfl, rfl⟩
        go_wp2_with fail
        refine (HFs.out _).mono ?_
        rintro e w3 ⟨rfl, hb3⟩
        have hbw3 := hb.trans (hb3.mono hb.size)
        have ho3 := Ho.out.below hb3
        have hM3 := HM.out.keeps hb3 (by omega)
        have hsz3 := hb3.size
        have Ho3 := Lib.hid ho3
        have HM3 := Lib.hid hM3
        clear ho3 hM3
        simp only [firB, firN, Option.isSome_some]
        obtain ⟨q, hq⟩ : ∃ q, mkB rs = q := ⟨_, rfl⟩
        rw [hq] at Hst
        rw [hq]
        clear hq
        have hmn2 : ((m + n : Nat) : Int) = (m : Int) + (n : Int) := Int.natCast_add m n
        go_wp2_with (at_builtin; refine wpList_append_rows _ rfl _ _ 23 rfl strLay (w.heap.size + 1) 9 i0 (.string ⟨#[]⟩) 16 Tryz.underlying23 Hi.out Hz0.out Hz1.out Hz2.out rfl (by decide) _ out rfl (Ho3.out.alloc _) ⟨w3.heap.size, 0, none⟩ 1 q rfl (cells_new_at w3 w3.heap.size #[.string q] 9 rfl) (by unfold maxLen; omega) (by omega) (by simp; omega) ?_; intro va w4 hrow4 hg4 hv4; have hM4 := (HM3.out.keeps ((Below.refl w3.heap.size w3).alloc (Nat.le_refl _) (.cells #[.string q] 9)) HM3.out.lt).grown hg4 (fun e => by have := (Ho3.out.lt e.symm).1; omega); have hlk4 := Hlk.out w4 hM4; obtain ⟨w5, hu5, hM5, hg5⟩ := Hup.out w4 hM4 ((m : Int) + (n : Int)); simp only [intV] at hu5; clear hM4 hv4; go_frame)
        have hb4 := (hbw3.alloc hbw3.size (.cells #[.string q] 9)).grown hg4 (by simp; omega) (fun j ej => by have := (Ho3.out.lt ej).1; omega)
        have hb5 := hb4.grown hg5 hb4.size (fun j ej => by cases ej; exact Nat.le_refl _)
        have ho5 := hrow4.kept hg5 (.inr fun e => by have := (hrow4.lt e).1; omega)
        have hsz4 := hg4.size
        have hsz5 := hg5.size
        simp only [World.size_alloc] at hsz4
        have hpl2 := hpl ((m : Int) + (n : Int))
        obtain ⟨va2, vc2, rfl, _, _⟩ := hrow4.read
        go_roundw
        case rel => exact ⟨out ++ [q], _, by rw [List.length_append, List.length_singleton]; omega, ho5, hM5, HE2, by rw [List.length_append, List.length_singleton]; omega, Hst, by omega, hb5⟩
        case measure => simp only [lenV, List.length_append, List.length_singleton]; omega
    · have h8 : out.length = 800 := by omega
      have hlti : ¬ ((out.length : Int) < 800) := by omega
      have Hst := Lib.hid (HR.out.symm.trans (scan_end h8))
      clear h8
      go_wp2_with fail
      refine bodyPost_ret (v := .tuple #[.slice oa out.length oc, .map (some w.heap.size)]) (by simp [results, Tryz.results50, go_sem]) rfl ?_
      rw [Hst.out]
      exact ⟨_, _, rfl, ho, rfl, hM, HE.out, hEl, hout, hb⟩
end Go.Proofs.YtgglheelhbfgiaaGreatDoor

namespace Go.Proofs.YtgglheelhbfgiaaGreatDoor
open Go Go.RowKit Go.Lib
theorem below_growD {B : Nat} {w : World} (os : Array Obj) (hB : B ≤ w.heap.size) : Below B w (Go.Sort.grow w os) :=
  ⟨rfl, rfl, rfl, by simp [Go.Sort.grow], fun k hk => by simp only [Go.Sort.grow]; rw [Array.getElem?_append_left (by omega)]⟩
/-- The table of powers of ten. -/
def TabD (w : World) : Prop := Lib.TabIs Tryz.prog w "internal/strconv.uint64pow10" .u64 Lib.pow10Tab
theorem TabD.keeps {W W' : World} (h : TabD W) (hb : Below W.heap.size W W') : TabD W' := by
  unfold TabD Lib.TabIs World.var? at h ⊢
  cases hg : Tryz.prog.globalNamed "internal/strconv.uint64pow10" with
  | none => simp [hg] at h
  | some g =>
    simp only [hg, Option.bind_some] at h ⊢
    have hlt : g < W.heap.size := by
      rcases Nat.lt_or_ge g W.heap.size with h' | h'
      · exact h'
      · rw [Array.getElem?_eq_none h'] at h; simp at h
    rw [hb.block g hlt]
    exact h
/-- The table lies below base, where nothing turns. -/
def TabB (base : Nat) (w : World) : Prop := ∃ w0, w0.heap.size = base ∧ TabD w0 ∧ Below base w0 w
theorem TabB.tab {base : Nat} {w : World} (h : TabB base w) : TabD w := by
  obtain ⟨w0, rfl, h1, h2⟩ := h
  exact h1.keeps h2
theorem TabB.of {w : World} (h : TabD w) : TabB w.heap.size w := ⟨w, rfl, h, Below.refl _ _⟩
theorem TabB.le {base : Nat} {w : World} (h : TabB base w) : base ≤ w.heap.size := by
  obtain ⟨w0, rfl, h1, h2⟩ := h
  exact h2.size
theorem TabB.turned {base B : Nat} {w w' : World} {S : Nat → Prop} (h : TabB base w) (ht : Turned S B w w') (hB : base ≤ B) (hS : ∀ k, S k → base ≤ k) : TabB base w' := by
  obtain ⟨w0, h0, h1, h2⟩ := h
  exact ⟨w0, h0, h1, h2.trans (ht.below hB fun k hk hs => by have := hS k hs; omega)⟩
theorem TabB.below {base : Nat} {w w' : World} (h : TabB base w) (hb : Below w.heap.size w w') : TabB base w' := by
  have hl := h.le
  obtain ⟨w0, h0, h1, h2⟩ := h
  exact ⟨w0, h0, h1, h2.trans (hb.mono hl)⟩
set_option maxRecDepth 100000 in
theorem snameT_any (k : Nat) (hk : k ≤ 9999) (w : World) (ht : TabD w) : Calls Tryz.prog 53 #[.int .i64 k] w fun e w' => e = .returned (.string (nameS k)) ∧ Below w.heap.size w w' := by
  have HI : Hid (Calls Tryz.prog 89 #[.int .i64 k] w fun e w' => e = .returned (.string ⟨(Lib.decDigits k).toArray⟩) ∧ Below w.heap.size w w') :=
    Lib.hid ((Tryz.strconv_Itoa k (by omega) (by omega) w ht).mono fun e w' ⟨he, n, os, hw⟩ => ⟨by rw [he]; unfold Lib.itoa; rw [if_neg (by omega)]; rfl, by
      rw [hw]; exact (below_drewN (Below.refl _ _) n).trans (below_growD os (by simp [World.drewN]))⟩)
  have Hn := Lib.hid (show nameS k = ⟨#[115, 101, 103, 45]⟩ ++ ⟨(Lib.decDigits k).toArray⟩ by
    apply ba_ext
    rw [ByteArray.data_append, Array.toList_append]
    rfl)
  have hq := (name_size (k := k) (by omega)).2
  rw [Hn.out, ByteArray.size_append] at hq
  have hq2 : (⟨(Lib.decDigits k).toArray⟩ : ByteArray).size ≤ 24 := by omega
  clear hq ht
  generalize (⟨(Lib.decDigits k).toArray⟩ : ByteArray) = q at *
  generalize nameS k = r at *
  go_enter Tryz.func53, Tryz.ntmps53
  go_wp2_with fail
  refine HI.out.mono ?_
  rintro e w1 ⟨rfl, hb1⟩
  go_wp2_with fail
  go_ret
  exact ⟨by rw [Hn.out]; rfl, hb1⟩
/-- The disk in the world w: since B only what was the disk's has turned, and what is new is new since B. -/
def DIn (S : Nat → Prop) (B w : World) (db : Nat) (d : Dk) : Prop := ∃ T, DOk w db T d ∧ (∀ k, T k → S k ∨ B.heap.size ≤ k) ∧ Turned S B.heap.size B w
theorem DIn.start {S : Nat → Prop} {w : World} {db : Nat} {d : Dk} (h : DOk w db S d) : DIn S w w db d := ⟨S, h, fun _ hk => .inl hk, Turned.refl _ _ _⟩
theorem DIn.below {S : Nat → Prop} {B w w' : World} {db : Nat} {d : Dk} (h : DIn S B w db d) (hb : Below w.heap.size w w') : DIn S B w' db d := by
  obtain ⟨T, h1, h2, h3⟩ := h
  exact ⟨T, h1.below hb, h2, h3.trans (Turned.of_below hb h3.size)⟩
theorem DIn.step {S T : Nat → Prop} {B w w' : World} {db : Nat} {d : Dk} (h2 : ∀ k, T k → S k ∨ B.heap.size ≤ k) (h3 : Turned S B.heap.size B w) (hg : DGo w db T d w') : DIn S B w' db d := by
  obtain ⟨h1, ht⟩ := hg
  refine ⟨_, h1, fun k hk => ?_, ⟨ht.os.trans h3.os, ht.tape.trans h3.tape, ht.output.trans h3.output, Nat.le_trans h3.size ht.size, fun k hk hs => (ht.block k (Nat.lt_of_lt_of_le hk h3.size) fun hT => ?_).trans (h3.block k hk hs)⟩⟩
  · rcases hk with hk | hk
    · exact h2 k hk
    · exact .inr (Nat.le_trans h3.size hk.1)
  · rcases h2 k hT with h | h
    · exact hs h
    · omega
theorem does_parts {d : Dk} {a : ActD} (h : (doesD d a).2 = 0) : (doesD d a).1.dead = false ∧ (doesD d a).1.now = doD d.now a false ∧ (doesD d a).1.acts = d.acts ++ [a] := by
  have e := dies_same { d with acts := d.acts ++ [a] }
  cases hz : (diesD { d with acts := d.acts ++ [a] }).dead with
  | true => rw [does_dead hz] at h; cases h
  | false =>
    rw [does_alive hz]
    exact ⟨hz, congrArg (doD · a false) e.1, e.2.2.1⟩
theorem cut_alive {d : Dk} {p : ByteArray} {n : Int} (h : (cutD d p n).2 = 0) : (cutD d p n).1.dead = false ∧ (cutD d p n).1.now.length ≤ d.now.length ∧ (cutD d p n).1.acts.length ≤ d.acts.length + 1 := by
  unfold cutD at h ⊢
  by_cases hw : wrongD d p n ≠ 0
  · rw [if_pos hw] at h ⊢
    exact absurd h hw
  · rw [if_neg hw] at h ⊢
    by_cases hf : (findK d.now p).isNone = true
    · rw [if_pos hf] at h
      cases h
    · rw [if_neg hf] at h ⊢
      obtain ⟨e1, e2, e3⟩ := does_parts h
      rw [e2, e3]
      exact ⟨e1, cut_len d.now rfl false, by simp⟩
theorem read_hasN {d : Dk} {p : ByteArray} (hd : d.dead = false) (hp : p.size ≤ 24 ∧ p.size ≠ 0) : (readD d p).1 = hasD d.now p := by
  have hw : wrongD d p 0 = 0 := by
    unfold wrongD
    rw [if_neg (by rw [hd]; decide), if_neg (by omega)]
  unfold readD
  rw [if_neg (by rw [hw]; simp)]
  unfold hasD
  cases findK d.now p <;> rfl
theorem open_dead {d : Dk} (h : d.dead = true) : openD d = ⟨none, [], 42, d⟩ := if_pos h
theorem open_cut {d : Dk} (h : d.dead = false) (h2 : (cutsD (scanG d.now 800 [] []).2 (namesD d) d).2 ≠ 0) : openD d = ⟨none, [], (cutsD (scanG d.now 800 [] []).2 (namesD d) d).2, (cutsD (scanG d.now 800 [] []).2 (namesD d) d).1⟩ := by
  unfold openD
  rw [if_neg (by rw [h]; exact Bool.noConfusion), if_pos h2]
theorem open_sync {d : Dk} (h : d.dead = false) (h2 : (cutsD (scanG d.now 800 [] []).2 (namesD d) d).2 = 0) (h3 : (syncD (cutsD (scanG d.now 800 [] []).2 (namesD d) d).1).2 ≠ 0) : openD d = ⟨none, [], (syncD (cutsD (scanG d.now 800 [] []).2 (namesD d) d).1).2, (syncD (cutsD (scanG d.now 800 [] []).2 (namesD d) d).1).1⟩ := by
  unfold openD
  rw [if_neg (by rw [h]; exact Bool.noConfusion), if_neg (fun e => e h2), if_pos h3]
theorem open_fine {d : Dk} (h : d.dead = false) (h2 : (cutsD (scanG d.now 800 [] []).2 (namesD d) d).2 = 0) (h3 : (syncD (cutsD (scanG d.now 800 [] []).2 (namesD d) d).1).2 = 0) : openD d = ⟨some ⟨(scanG d.now 800 [] []).1.length, endOf (scanG d.now 800 [] []).2 (nameS ((scanG d.now 800 [] []).1.length / 8)), false⟩, (scanG d.now 800 [] []).1, 0, (syncD (cutsD (scanG d.now 800 [] []).2 (namesD d) d).1).1⟩ := by
  unfold openD
  rw [if_neg (by rw [h]; exact Bool.noConfusion), if_neg (fun e => e h2), if_neg (fun e => e h3)]
theorem cuts_skip {E : Ends} {p : ByteArray} {r : List ByteArray} {d : Dk} (h : ¬ endOf E p < (hasD d.now p).size) : cutsD E (p :: r) d = cutsD E r d := by
  rw [cutsD, if_neg h]
theorem cuts_stop {E : Ends} {p : ByteArray} {r : List ByteArray} {d : Dk} (h : endOf E p < (hasD d.now p).size) (h2 : (cutD d p (endOf E p)).2 ≠ 0) : cutsD E (p :: r) d = cutD d p (endOf E p) := by
  rw [cutsD, if_pos h, if_pos h2]
theorem cuts_go {E : Ends} {p : ByteArray} {r : List ByteArray} {d : Dk} (h : endOf E p < (hasD d.now p).size) (h2 : (cutD d p (endOf E p)).2 = 0) : cutsD E (p :: r) d = cutsD E r (cutD d p (endOf E p)).1 := by
  rw [cutsD, if_pos h, if_neg (fun e => e h2)]
/-- A log in memory. -/
def LAt (w : World) (lb db : Nat) (l : Lg) : Prop := VarAt w lb [.pointer (some ⟨db, 0, none⟩), .int .i64 l.many, .int .i64 l.fin, .bool l.dead]
/-- What an opening answers. -/
def OpenIs (w : World) (db : Nat) (S : Nat → Prop) (o : OpenR) (e : Ending) (w' : World) : Prop :=
  ∃ T, DOk w' db T o.d ∧ (∀ k, T k → S k ∨ w.heap.size ≤ k) ∧ Turned S w.heap.size w w' ∧
    ((o.log = none ∧ o.out = [] ∧ e = .returned (.tuple #[.pointer none, .slice none 0 0, .int .i64 o.err])) ∨
     ∃ l lb v, o.log = some l ∧ e = .returned (.tuple #[.pointer (some ⟨lb, 0, none⟩), v, .int .i64 o.err]) ∧ LAt w' lb db l ∧ w.heap.size ≤ lb ∧ ¬ T lb ∧ OwnRows strLay w' w.heap.size 9 v o.out ∧ ∀ k, v.ownBlock = some k → ¬ T k ∧ k ≠ lb)
end Go.Proofs.YtgglheelhbfgiaaGreatDoor

namespace Go.Proofs.YtgglheelhbfgiaaGreatDoor
open Go Go.RowKit Go.Lib
theorem OpenIs.none {w w' : World} {db : Nat} {S : Nat → Prop} {o : OpenR} {d : Dk} {n : Int} (ho : o = ⟨.none, [], n, d⟩) (h : DIn S w w' db d) : OpenIs w db S o (.returned (.tuple #[.pointer .none, .slice .none 0 0, .int .i64 n])) w' := by
  subst ho
  obtain ⟨T, h1, h2, h3⟩ := h
  exact ⟨T, h1, h2, h3, .inl ⟨rfl, rfl, rfl⟩⟩
theorem DIn.from {S : Nat → Prop} {w B w' : World} {db : Nat} {d : Dk} (hb : Below w.heap.size w B) (h : DIn S B w' db d) : DIn S w w' db d := by
  obtain ⟨T, h1, h2, h3⟩ := h
  exact ⟨T, h1, fun k hk => (h2 k hk).imp id fun h => Nat.le_trans hb.size h, (Turned.of_below hb (Nat.le_refl _)).trans (h3.mono hb.size fun _ _ h => h)⟩
set_option maxRecDepth 100000 in
set_option maxHeartbeats 3200000 in
theorem sopen_any {w : World} {db base : Nat} {S : Nat → Prop} {d : Dk} (h : DOk w db S d) (hl : d.now.length ≤ 100000) (hal : d.acts.length ≤ 900000000) (ht : TabB base w) (hS : ∀ k, S k → base ≤ k) :
    Calls Tryz.prog 9 #[.pointer (some ⟨db, 0, none⟩)] w fun e w' => OpenIs w db S (openD d) e w' := by
  have HDd := Lib.hid (ddead_any h)
  cases hd : d.dead with
  | true =>
    rw [hd] at HDd
    have Ho := Lib.hid (open_dead hd)
    have HX := Lib.hid (DIn.start h)
    clear h ht hd
    go_enter Tryz.func9, Tryz.ntmps9
    go_wp2_with fail
    refine HDd.out.mono ?_
    rintro e w1 ⟨rfl, rfl⟩
    go_wp2_with fail
    go_ret3
    exact OpenIs.none Ho.out HX.out
  | false =>
    rw [hd] at HDd
    have HSc := Lib.hid (sscan_any h hd)
    have Hcut := Lib.hid (open_cut hd)
    have Hsync := Lib.hid (open_sync hd)
    have Hfine := Lib.hid (open_fine hd)
    have HD := Lib.hid h
    have Hd := Lib.hid hd
    have HKy := Lib.hid h.ok.now.keys
    have Hslt := Lib.hid h.slt
    obtain ⟨O, hO⟩ : ∃ O, openD d = O := ⟨_, rfl⟩
    rw [hO] at Hcut Hsync Hfine ⊢
    obtain ⟨Rg, hRg⟩ : ∃ Rg, scanG d.now 800 [] [] = Rg := ⟨_, rfl⟩
    rw [hRg] at HSc Hcut Hsync Hfine
    obtain ⟨ro, E⟩ := Rg
    dsimp only at HSc Hcut Hsync Hfine
    have HT := Lib.hid ht
    have Hl := Lib.hid hl
    have Hal := Lib.hid hal
    have HSb := Lib.hid hS
    clear hO hRg h hd ht hl hal hS
    go_enter Tryz.func9, Tryz.ntmps9
    go_wp2_with fail
    refine HDd.out.mono ?_
    rintro e w0 ⟨rfl, hw0⟩
    rw [hw0]
    clear hw0
    go_wp2_with fail
    refine HSc.out.mono ?_
    rintro e w1 ⟨v, mb, rfl, ho1, hmb, hM1, hE, hEl, hrl, hb1⟩
    obtain ⟨va, vc, rfl, _, _⟩ := ho1.read
    go_wp2_with fail
    refine (dnames_any (HD.out.below hb1) Hl.out).mono ?_
    rintro e w2 ⟨u, rfl, hu2, hb2⟩
    obtain ⟨ua, uc, rfl, hur, _⟩ := hu2.read
    have hb12 := hb1.trans (hb2.mono hb1.size)
    have ho2 := ho1.below hb2
    have hM2 := hM1.keeps hb2 hM1.lt
    have Hown := Lib.hid (show ∀ W, Turned S w2.heap.size w2 W → OwnRows strLay W (w.heap.size + 1) 9 (.slice va ro.length vc) ro ∧ MapK intV Tryz.prog 9 W mb E ∧ OwnRows strLay W w1.heap.size 9 (.slice ua (namesD d).length uc) (namesD d) from fun W hW =>
      ⟨ho2.turnedOther hW fun k hk hs => by have := (ho2.lt hk).1; have := Hslt.out k hs; omega,
       hM2.same (hW.block mb hM2.lt fun hs => by have := Hslt.out mb hs; omega),
       hu2.turnedOther hW fun k hk hs => by have := (hu2.lt hk).1; have := Hslt.out k hs; have := hb1.size; omega⟩)
    have HB2 := Lib.hid hb12
    have Hvb := Lib.hid (show ∀ j, (Value.slice va ro.length vc).ownBlock = some j → j < w2.heap.size from fun j hj => (ho2.lt hj).2)
    have Hin0 := Lib.hid (DIn.start (HD.out.below hb12))
    have hnl : (namesD d).length = d.now.length := List.length_map ..
    have Hnl := Lib.hid hnl
    have hmbw := hmb
    have HMb := Lib.hid (show w.heap.size = mb ∧ w.heap.size + 1 ≤ w2.heap.size from ⟨hmb, by have := hM2.lt; omega⟩)
    have hE0 := hE
    have HE := Lib.hid hE
    have Hl100 := Lib.hid (show (namesD d).length ≤ 100000 by rw [hnl]; exact Hl.out)
    have HNm := Lib.hid (show ∀ p ∈ namesD d, p.size ≤ 24 ∧ p.size ≠ 0 from fun p hp => by
      obtain ⟨x, hx, rfl⟩ := List.mem_map.1 hp
      exact HKy.out x hx)
    clear hb1 hb2 hb12 ho1 ho2 hM1 hM2 hu2 hur hmb hmbw hE hE0 hnl hEl
    obtain ⟨ns, hNd⟩ : ∃ ns, namesD d = ns := ⟨_, rfl⟩
    rw [hNd] at Hown Hnl Hl100 HNm Hcut Hsync Hfine ⊢
    have HNd := Lib.hid hNd
    clear hNd
    go_wp2_with fail
    go_loopw [8, 9, 10, 11, 27] (fun _ _ _ _ i wr => ∃ (k : Nat) (dk : Dk), k ≤ ns.length ∧ i = .int .i64 k ∧ DIn S w2 wr db dk ∧ Hid (cutsD E ns d = cutsD E (ns.drop k) dk) ∧ Hid (dk.dead = false ∧ dk.now.length ≤ d.now.length ∧ dk.acts.length ≤ d.acts.length + k)) (fun _ _ _ _ i _ => ns.length - (RowKit.intOf i).toNat)
    case atStart => exact ⟨0, d, Nat.zero_le _, rfl, Hin0.out, Lib.hid rfl, Lib.hid ⟨Hd.out, Nat.le_refl _, Nat.le_refl _⟩⟩
    case round =>
      obtain ⟨k, dk, hk, rfl, hIn, Hc, Hdk⟩ := hrel
      by_cases hlt : k < ns.length
      · obtain ⟨p, hp⟩ := at_some hlt
        have hps := HNm.out p (List.mem_of_getElem? hp)
        have Hdrop := Lib.hid (show ns.drop k = p :: ns.drop (k + 1) from drop_at hp)
        rw [Hdrop.out] at Hc
        obtain ⟨T, hDk, hT1, hT2⟩ := hIn
        obtain ⟨ho, hM, hu⟩ := Hown.out wr hT2
        obtain ⟨ua', uc', hue, hur, _⟩ := hu.read
        cases hue
        obtain ⟨bx, off, hae, hbl, hc⟩ := hur k _ hp
        have hc0 : wr.cell? ⟨bx, off + k, none⟩ = some (.string p) := by
          have := hc 0 _ rfl
          rwa [show off + k * strLay.sz + 0 = off + k by show off + k * 1 + 0 = _; omega] at this
        have hlti : (k : Int) < (ns.length : Int) := by omega
        have hl100 := Hl100.out
        have HRd := Lib.hid (dread_any hDk p)
        have HX := Lib.hid (read_hasN Hdk.out.1 hps)
        rw [HX.out] at HRd
        have hlk : (Instr.lookup 83 (.map (some mb)) (.string p) false).run Tryz.prog wr = .ok (.int .i64 (endOf E p)) wr := MapK.look1 (t := 83) hM dkeyL Tryz.underlying9 Tryz.underlying83 (zeroIntS wr) (p := p) (by unfold maxLen; omega)
        have hlow := HE.out.low p
        have hhas := hDk.ok.now.has p
        have Hskip := Lib.hid (fun hq => Hc.out.trans (cuts_skip (E := E) (p := p) (r := ns.drop (k + 1)) (d := dk) hq))
        have Hstop := Lib.hid (fun hq hq2 => Hc.out.trans (cuts_stop (E := E) (p := p) (r := ns.drop (k + 1)) (d := dk) hq hq2))
        have Hgo := Lib.hid (fun hq hq2 => Hc.out.trans (cuts_go (E := E) (p := p) (r := ns.drop (k + 1)) (d := dk) hq hq2))
        obtain ⟨m, hm⟩ : ∃ m : Nat, endOf E p = (m : Int) := ⟨(endOf E p).toNat, by omega⟩
        rw [hm] at hlk Hskip Hstop Hgo
        have HCt := Lib.hid (dcut_any hDk p (m : Int) (by have := Hdk.out; have := Hl.out; omega) (by have := Hdk.out; have := Hal.out; have := Hl100.out; omega))
        have Hal2 := Lib.hid (cut_alive (d := dk) (p := p) (n := (m : Int)))
        have HDk := Lib.hid hDk
        subst hae
        generalize hasD dk.now p = s at *
        clear hc hp ho hM hu hur hm hlow hDk
        by_cases hgt : (m : Int) < (s.size : Int)
        · have hgtn : m < s.size := by omega
          go_wp2_with fail
          refine HRd.out.mono ?_
          rintro e w3 ⟨rfl, hw3⟩
          subst hw3
          go_wp2_with fail
          refine HCt.out.mono ?_
          rintro e w4 ⟨rfl, hg4⟩
          have hIn4 := DIn.step hT1 hT2 hg4
          by_cases he : (cutD dk p (m : Int)).2 = 0
          · have Hn := Lib.hid (Hgo.out hgt he)
            have Ha := Lib.hid (Hal2.out he)
            rw [he]
            clear he
            generalize (cutD dk p (m : Int)).1 = d4 at *
            clear hg4 hT1 hT2
            go_wp2_with fail
            go_roundw
            case rel => exact ⟨k + 1, d4, by omega, by go_num, hIn4, Hn, Lib.hid ⟨Ha.out.1, by have := Ha.out; have := Hdk.out; omega, by have := Ha.out; have := Hdk.out; omega⟩⟩
            case measure => simp [RowKit.intOf]; omega
          · have Hn := Lib.hid (Hstop.out hgt he)
            have hq := neq_int he
            have Hne := Lib.hid he
            clear he hg4 hT1 hT2
            have Ho := Lib.hid (Hcut.out (by rw [Hn.out]; exact Hne.out))
            rw [Hn.out] at Ho
            generalize (cutD dk p (m : Int)).2 = er at *
            go_wp2_with fail
            go_ret3
            exact OpenIs.none Ho.out (DIn.from HB2.out hIn4)
        · have hng : (s.size : Int) ≤ (m : Int) := by omega
          have hngn : s.size ≤ m := by omega
          have Hn := Lib.hid (Hskip.out hgt)
          go_wp2_with fail
          refine HRd.out.mono ?_
          rintro e w3 ⟨rfl, hw3⟩
          subst hw3
          go_wp2_with fail
          go_roundw
          case rel => exact ⟨k + 1, dk, by omega, by go_num, ⟨T, HDk.out, hT1, hT2⟩, Hn, Lib.hid ⟨Hdk.out.1, Hdk.out.2.1, by have := Hdk.out; omega⟩⟩
          case measure => simp [RowKit.intOf]; omega
      · obtain rfl : k = ns.length := by omega
        have hcd : cutsD E ns d = (dk, 0) := by
          have := Hc.out
          rw [List.drop_length] at this
          exact this
        obtain ⟨T, hDk, hT1, hT2⟩ := hIn
        obtain ⟨ho, hM, _⟩ := Hown.out wr hT2
        have Ho := Lib.hid ho
        have HM := Lib.hid hM
        have HDk := Lib.hid hDk
        have Hc0 := Lib.hid (show (cutsD E ns d).2 = 0 by rw [hcd])
        have Hc1 := Lib.hid (show (cutsD E ns d).1 = dk by rw [hcd])
        have HSy := Lib.hid (dsync_any hDk)
        rw [Hc1.out] at Hsync Hfine
        clear hcd ho hM hDk
        go_wp2_with fail
        refine HSy.out.mono ?_
        rintro e w4 ⟨rfl, hg4⟩
        have hIn4 := DIn.step hT1 hT2 hg4
        clear hg4 hT1
        by_cases he : (syncD dk).2 = 0
        · have HO := Lib.hid (Hfine.out Hc0.out he)
          rw [he]
          clear he
          generalize (syncD dk).1 = d4 at *
          obtain ⟨T4, hD4, hT41, hT42⟩ := hIn4
          obtain ⟨ho4, hM4, _⟩ := Hown.out w4 hT42
          have ht4 := (HT.out.below HB2.out).turned hT42 (HT.out.below HB2.out).le HSb.out
          have Htt := Lib.hid ht4.tab
          have hk8 : ro.length / 8 ≤ 9999 := by omega
          have hq8 : ((ro.length / 8 : Nat) : Int) = (ro.length : Int) / 8 := by omega
          have HNm8 := Lib.hid (snameT_any (ro.length / 8) hk8 w4 Htt.out)
          have hnz := (name_size (k := ro.length / 8) (by omega)).2
          have Hlk4 := Lib.hid fun W (hW : Below w4.heap.size w4 W) => (show (Instr.lookup 83 (.map (some mb)) (.string (nameS (ro.length / 8))) false).run Tryz.prog W = .ok (.int .i64 (endOf E (nameS (ro.length / 8)))) W from MapK.look1 (t := 83) (hM4.keeps hW hM4.lt) dkeyL Tryz.underlying9 Tryz.underlying83 (zeroIntS W) (p := nameS (ro.length / 8)) (by unfold maxLen; omega))
          have HD4 := Lib.hid hD4
          have Ho4 := Lib.hid ho4
          have HT42 := Lib.hid hT42
          clear hD4 ho4 hM4 hT42 ht4 hT2
          generalize nameS (ro.length / 8) = nm at *
          generalize endOf E nm = en at *
          go_wp2_with fail
          refine HNm8.out.mono ?_
          rintro e w5 ⟨rfl, hb5⟩
          have hlk5 := Hlk4.out w5 hb5
          have Hb5 := Lib.hid hb5
          clear hb5
          go_wp2_with fail
          go_ret3
          have hb6 : Below w4.heap.size w4 (w5.alloc (.cells #[.pointer (some ⟨db, 0, none⟩), .int .i64 ro.length, .int .i64 en, .bool false] 90)) := Hb5.out.alloc Hb5.out.size _
          have hBz := HB2.out
          have hbz : Turned S w.heap.size w (w5.alloc (.cells #[.pointer (some ⟨db, 0, none⟩), .int .i64 ro.length, .int .i64 en, .bool false] 90)) := (Turned.of_below hBz (Nat.le_refl _)).trans ((HT42.out.trans (Turned.of_below hb6 HT42.out.size)).mono hBz.size fun _ _ h => h)
          have hsz5 := Hb5.out.size
          have hsz4 := HT42.out.size
          have hszB := hBz.size
          rw [HO.out]
          refine ⟨T4, HD4.out.below hb6, fun j hj => (hT41 j hj).imp id fun h => Nat.le_trans hszB h, hbz, .inr ⟨_, w5.heap.size, .slice va ro.length vc, rfl, rfl, VarAt.new w5 _ _, by omega, fun hj => by have := HD4.out.slt _ hj; omega, ((Ho4.out.below hb6).lower (by omega)), fun j hj => ?_⟩⟩
          have hj1 := (Ho4.out.lt hj)
          refine ⟨fun hT => ?_, by omega⟩
          rcases hT41 j hT with h | h
          · have := Hslt.out j h
            omega
          · have := Hvb.out j hj
            omega
        · have hq := neq_int he
          have HO := Lib.hid (Hsync.out Hc0.out he)
          clear he
          generalize (syncD dk).2 = er at *
          go_wp2_with fail
          go_ret3
          exact OpenIs.none HO.out (DIn.from HB2.out hIn4)
end Go.Proofs.YtgglheelhbfgiaaGreatDoor

