import Derived.Test.YtopoheggngclaaaDoorNamesW5
import Derived.Test.YtopoheggngclaaaDoorSlices
namespace Go.Proofs.YtopoheggngclaaaDoor
open Go.RowKit Go.Lib

theorem join_copy {st T : ByteArray} {l : List UInt8} {n m : Int} (h1 : st.data.toList = stemL l) (h2 : T.data.toList = tailL l n) (hm : m = T.size) (h24 : T.size ≤ 24) :
    st.extract 0 (min (st.size : Int) (24 - m)).toNat ++ T = ⟨(copyOk l n).toArray⟩ := by
  apply ba_ext
  rw [ByteArray.data_append, Array.toList_append, h2]
  show _ = copyOk l n
  unfold copyOk
  congr 1
  rw [extract_data, h1, ← h2, ← size_eq, hm, size_eq st, h1]
  simp only [List.drop_zero]
  rw [List.take_eq_take_iff]
  omega
theorem data_add (a b : ByteArray) : (a ++ b).data.toList = a.data.toList ++ b.data.toList := by
  rw [ByteArray.data_append, Array.toList_append]

theorem trim_call (s : ByteArray) (x z : List UInt8) (W : World) (hs : s.size ≤ 140737488351232) (hz : z = Lib.trimSuffix s.data.toList (46 :: x)) :
    Calls Tryd.prog 32 #[.string s, .string (⟨#[46]⟩ ++ ⟨x.toArray⟩)] W fun e w' => e = .returned (.string ⟨z.toArray⟩) ∧ W = w' := by
  have h := Tryd.strings_TrimSuffix s (⟨#[46]⟩ ++ ⟨x.toArray⟩) W (Nat.le_trans hs (by decide))
  have e : (⟨#[46]⟩ ++ ⟨x.toArray⟩ : ByteArray).data.toList = 46 :: x := by rw [data_add]; rfl
  rw [e, ← hz] at h
  exact h.mono fun e w' ⟨he, hw⟩ => ⟨he, hw.symm⟩

theorem copy_any (s : ByteArray) (n : Int) (w : World) (hs : s.size ≤ 140737488351232) (ht : Tab w) :
    Calls Tryd.prog 15 #[.string s, .int .i64 n] w fun e w' => e = .returned (.tuple #[.string ⟨(copyL s.data.toList n).toArray⟩, .int .i64 (copyN s.data.toList n)]) ∧ Below w.heap.size w w' := by
  have HR := Lib.hid fun W => right_any s W hs
  by_cases hr : rightL s.data.toList = true
  · have H0 := Lib.hid (rightN_ok hr)
    by_cases ha : n < 1 ∨ 9999 < n
    · obtain ⟨e1, e2⟩ := copy_arg hr ha
      have E1 := Lib.hid e1
      have E2 := Lib.hid e2
      clear e1 e2 hr
      go_enter Tryd.func15, Tryd.ntmps15
      go_wp2_with fail
      refine (HR.out _).mono ?_
      rw [H0.out]
      rintro e w' ⟨rfl, k, rfl⟩
      go_wp2_with fail
      all_goals
        go_ret2
        rw [E1.out, E2.out]
        exact ⟨rfl, below_drewN (Below.refl _ _) _⟩
    · obtain ⟨e1, e2⟩ := copy_right hr ha
      have hn3 : 1 ≤ n := by omega
      have hn4 : n ≤ 9999 := by omega
      have hsl := rightL_len hr
      have hdl := decDigits_len (u := n.toNat) (by omega)
      have HR' : Hid (∀ W, Calls Tryd.prog 10 #[.string s] W fun e w' => e = .returned (.int .i64 0) ∧ ∃ n, w' = W.drewN n) := fun W => by
        have := HR.out W
        rwa [H0.out] at this
      have HI : Hid (∀ k, Calls Tryd.prog 31 #[.int .i64 n] (w.drewN k) fun e w' => e = .returned (.string ⟨(decDigits n.toNat).toArray⟩) ∧ Below (w.drewN k).heap.size (w.drewN k) w') :=
        fun k => itoa_call n (by omega) (by omega) _ (ht.keeps (below_drewN (Below.refl _ _) k))
      have HX := Lib.hid fun W => ext_any s W hs
      have hss := size_eq s
      have hds := size_mk (decDigits n.toNat)
      have hxs := size_mk (extL s.data.toList)
      rw [e1, e2]
      by_cases h0 : extL s.data.toList = []
      · obtain ⟨c1, c2⟩ := stem_without (.inl h0)
        refine (copy_bare s _ _ n w hn3 hn4 (by rw [toList_data]; simp [h0]) (by omega) (by omega) HR' HI HX).mono fun e w' ⟨he, hb⟩ => ⟨?_, hb⟩
        rw [he, join_copy (l := s.data.toList) (n := n) c1.symm (by rw [data_add]; simp [tailL, c2]) (by rw [ByteArray.size_append]; simp [ByteArray.size]) (by rw [ByteArray.size_append, hds]; show 1 + _ ≤ _; omega)]
      · by_cases h7 : (extL s.data.toList).length ≤ 7
        · obtain ⟨c1, c2⟩ := stem_with h0 h7
          have HTS : Hid (∀ W, Calls Tryd.prog 32 #[.string s, .string (⟨#[46]⟩ ++ ⟨(extL s.data.toList).toArray⟩)] W fun e w' => e = .returned (.string ⟨(stemL s.data.toList).toArray⟩) ∧ W = w') := fun W =>
            trim_call s (extL s.data.toList) _ W hs (by rw [c1, ← trimSuffix_ext h0])
          refine (copy_with s _ _ _ n w hn3 hn4 (by omega) (by rw [toList_data]; simp [h0]) (by omega) (by rw [size_mk]; unfold stemL; simp; omega) HR' HI HX HTS).mono fun e w' ⟨he, hb⟩ => ⟨?_, hb⟩
          rw [he, join_copy (l := s.data.toList) (n := n) rfl (by rw [data_add, data_add, data_add]; simp [tailL, c2]) (by rw [ByteArray.size_append, ByteArray.size_append, ByteArray.size_append]; simp [ByteArray.size]) (by rw [ByteArray.size_append, ByteArray.size_append, ByteArray.size_append, hds, hxs]; show 1 + _ + (1 + _) ≤ _; omega)]
        · obtain ⟨c1, c2⟩ := stem_without (l := s.data.toList) (.inr (by omega))
          refine (copy_long s _ _ n w hn3 hn4 (by rw [toList_data]; simp [h0]) (by omega) (by omega) (by omega) HR' HI HX).mono fun e w' ⟨he, hb⟩ => ⟨?_, hb⟩
          rw [he, join_copy (l := s.data.toList) (n := n) c1.symm (by rw [data_add]; simp [tailL, c2]) (by rw [ByteArray.size_append]; simp [ByteArray.size]) (by rw [ByteArray.size_append, hds]; show 1 + _ ≤ _; omega)]
  · obtain ⟨e1, e2⟩ := copy_wrong (l := s.data.toList) n (by simpa using hr)
    have E1 := Lib.hid e1
    have E2 := Lib.hid e2
    have H0 := Lib.hid (rightN_bad (l := s.data.toList) (by simpa using hr))
    clear e1 e2 hr
    go_enter Tryd.func15, Tryd.ntmps15
    go_wp2_with fail
    refine (HR.out _).mono ?_
    rw [H0.out]
    rintro e w' ⟨rfl, k, rfl⟩
    go_wp2_with fail
    go_ret2
    rw [E1.out, E2.out]
    exact ⟨rfl, below_drewN (Below.refl _ _) _⟩

theorem rcopy_any (s : ByteArray) (n : Int) (w : World) (hs : s.size ≤ 140737488351232) :
    Calls Tryd.prog 16 #[.string s, .int .i64 n] w fun e w' => e = .returned (.tuple #[.string ⟨(copyL s.data.toList n).toArray⟩, .int .i64 (copyN s.data.toList n)]) ∧ Below w.heap.size w w' := by
  have HR := Lib.hid fun W => rright_any s W hs
  by_cases hr : rightL s.data.toList = true
  · have H0 := Lib.hid (rightN_ok hr)
    by_cases ha : n < 1 ∨ 9999 < n
    · obtain ⟨e1, e2⟩ := copy_arg hr ha
      have E1 := Lib.hid e1
      have E2 := Lib.hid e2
      clear e1 e2 hr
      go_enter Tryd.func16, Tryd.ntmps16
      go_wp2_with fail
      refine (HR.out _).mono ?_
      rw [H0.out]
      rintro e w' ⟨rfl, rfl⟩
      go_wp2_with fail
      all_goals
        go_ret2
        rw [E1.out, E2.out]
        exact ⟨rfl, Below.refl _ _⟩
    · obtain ⟨e1, e2⟩ := copy_right hr ha
      have hn3 : 1 ≤ n := by omega
      have hn4 : n ≤ 9999 := by omega
      have hsl := rightL_len hr
      have hdl := decDigits_len (u := n.toNat) (by omega)
      have HR' : Hid (∀ W, Calls Tryd.prog 11 #[.string s] W fun e w' => e = .returned (.int .i64 0) ∧ W = w') := fun W => by
        have := HR.out W
        rwa [H0.out] at this
      have HI : Hid (∀ W, Calls Tryd.prog 33 #[.int .i64 n] W fun e w' => ∃ t : ByteArray, e = .returned (.string t) ∧ t.size ≤ 4 ∧ Hid (t = ⟨(decDigits n.toNat).toArray⟩) ∧ Below W.heap.size W w') :=
        fun W => digits_any n.toNat n W (by omega) (by omega) (by omega)
      have HX := Lib.hid fun W => rext_any s W hs
      have hss := size_eq s
      have hds := size_mk (decDigits n.toNat)
      have hxs := size_mk (extL s.data.toList)
      have hee : (⟨#[]⟩ : ByteArray).data.toList = [] := rfl
      rw [e1, e2]
      by_cases h0 : extL s.data.toList = []
      · obtain ⟨c1, c2⟩ := stem_without (.inl h0)
        refine (rcopy_bare s _ _ n w hn3 hn4 (by rw [hxs, h0]; simp) (by omega) HR' HX HI).mono fun e w' ⟨he, hb⟩ => ⟨?_, hb⟩
        rw [he, join_copy (l := s.data.toList) (n := n) c1.symm (by rw [data_add, data_add]; simp [tailL, c2]) (by rw [ByteArray.size_append, ByteArray.size_append]; simp [ByteArray.size]) (by rw [ByteArray.size_append, ByteArray.size_append, hds]; show 1 + _ + 0 ≤ _; omega)]
      · have hpos := List.length_pos_iff.2 h0
        by_cases h7 : (extL s.data.toList).length ≤ 7
        · obtain ⟨c1, c2⟩ := stem_with h0 h7
          have hsx := (ext_suffix h0).2
          have hst : (s.extract 0 (s.size - (1 + (⟨(extL s.data.toList).toArray⟩ : ByteArray).size))).data.toList = stemL s.data.toList := by
            rw [extract_data, hxs, c1, hss]
            simp only [List.drop_zero]
            congr 1
            omega
          have hsz : ((s.extract 0 (s.size - (1 + (⟨(extL s.data.toList).toArray⟩ : ByteArray).size))).size) = s.size - (1 + (⟨(extL s.data.toList).toArray⟩ : ByteArray).size) := by
            rw [size_eq, hst, c1, hxs, hss]
            simp
            omega
          refine (rcopy_with s _ _ n w hn3 hn4 (by omega) (by omega) (by omega) (by omega) HR' HX HI).mono fun e w' ⟨he, hb⟩ => ⟨?_, hb⟩
          have hj := join_copy (T := ⟨#[126]⟩ ++ ⟨(decDigits n.toNat).toArray⟩ ++ (⟨#[46]⟩ ++ ⟨(extL s.data.toList).toArray⟩)) (l := s.data.toList) (n := n) hst (by rw [data_add, data_add, data_add]; simp [tailL, c2]) (by rw [ByteArray.size_append, ByteArray.size_append, ByteArray.size_append]) (by rw [ByteArray.size_append, ByteArray.size_append, ByteArray.size_append, hds, hxs]; show 1 + _ + (1 + _) ≤ _; omega)
          rw [hsz] at hj
          rw [he, ← hj]
          rfl
        · obtain ⟨c1, c2⟩ := stem_without (l := s.data.toList) (.inr (by omega))
          refine (rcopy_long s _ _ n w hn3 hn4 (by omega) (by omega) (by omega) HR' HX HI).mono fun e w' ⟨he, hb⟩ => ⟨?_, hb⟩
          rw [he, join_copy (l := s.data.toList) (n := n) c1.symm (by rw [data_add, data_add]; simp [tailL, c2]) (by rw [ByteArray.size_append, ByteArray.size_append]; simp [ByteArray.size]) (by rw [ByteArray.size_append, ByteArray.size_append, hds]; show 1 + _ + 0 ≤ _; omega)]
  · obtain ⟨e1, e2⟩ := copy_wrong (l := s.data.toList) n (by simpa using hr)
    have E1 := Lib.hid e1
    have E2 := Lib.hid e2
    have H0 := Lib.hid (rightN_bad (l := s.data.toList) (by simpa using hr))
    clear e1 e2 hr
    go_enter Tryd.func16, Tryd.ntmps16
    go_wp2_with fail
    refine (HR.out _).mono ?_
    rw [H0.out]
    rintro e w' ⟨rfl, rfl⟩
    go_wp2_with fail
    go_ret2
    rw [E1.out, E2.out]
    exact ⟨rfl, Below.refl _ _⟩
end Go.Proofs.YtopoheggngclaaaDoor
