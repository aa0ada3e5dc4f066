/-
  glob.Path: which texts may be paths.
-/
import Derived.Test.YteeaaphpahnjcaaGreatDoorShelf
import Derived.Test.YteeaaphpahnjcaaGreatDoorSplitPure
import Derived.Test.YteeaaphpahnjcaaGreatDoorGlobWG
import Derived.Test.YteeaaphpahnjcaaGreatDoorNamesW1
import Derived.Test.YteeaaphpahnjcaaGreatDoorNamesW3
namespace Go.Proofs.YteeaaphpahnjcaaGreatDoor
open Go Go.RowKit Go.Lib

/-- The library's own number of bytes that it looks for at once: some number. -/
def MaxAt (W : World) : Prop := ∃ m, W.cell? ⟨0, 0, none⟩ = some (.int .i64 m)
theorem MaxAt.lt {W : World} (h : MaxAt W) : 0 < W.heap.size := by
  obtain ⟨m, hm⟩ := h
  exact World.block_lt_of_cell? W ⟨0, 0, none⟩ hm
theorem MaxAt.keeps {W W' : World} (h : MaxAt W) (hb : Below W.heap.size W W') : MaxAt W' := by
  obtain ⟨m, hm⟩ := id h
  exact ⟨m, (hb.cell (p := ⟨0, 0, none⟩) h.lt).trans hm⟩
def ba (l : List UInt8) : ByteArray := ⟨l.toArray⟩
theorem ba_data (l : List UInt8) : (ba l).data.toList = l := rfl
theorem ba_back (s : ByteArray) : ba s.data.toList = s := by
  unfold ba
  apply ByteArray.ext
  simp
theorem map_ba {xs : List ByteArray} {ys : List (List UInt8)} (h : xs.map (·.data.toList) = ys) : xs = ys.map ba := by
  subst h
  rw [List.map_map]
  conv => lhs; rw [← List.map_id xs]
  exact List.map_congr_left fun s _ => (ba_back s).symm
theorem splitB_L (c : UInt8) (s : ByteArray) : Lib.splitB ⟨#[c]⟩ 0 (Lib.countB s ⟨#[c]⟩) s = (splitL c s.data.toList).map ba :=
  map_ba ((Lib.splitB_data ⟨#[c]⟩ 0 _ s).trans (split_all c s.data.toList))
theorem countB_L (c : UInt8) (s : ByteArray) : Lib.countB s ⟨#[c]⟩ + 1 = (splitL c s.data.toList).length := by
  rw [splitL_length]
  exact congrArg (· + 1) (count_one _ _ (Nat.le_refl _))
theorem splG_L (c : UInt8) (s : ByteArray) : ∀ i, i ≤ s.size → splitL c (s.data.toList.take i) = (splG s c i).1.map (·.data.toList) ++ [(s.data.toList.take i).drop (splG s c i).2]
  | 0, _ => by simp [splG, splitL]
  | i + 1, hi => by
    have hl : i < s.data.toList.length := by rw [← size_eq]; omega
    have ih := splG_L c s i (by omega)
    have e : s.data.toList.take (i + 1) = s.data.toList.take i ++ [s.data.toList[i]] := List.take_succ_eq_append_getElem hl
    have hle := (splG_le s c i).1
    rw [e, splitL_snoc _ ih]
    by_cases hb : s.data.toList[i] = c
    · have hg : splG s c (i + 1) = ((splG s c i).1 ++ [s.extract (splG s c i).2 i], i + 1) := if_pos (by rw [List.getElem?_eq_getElem hl, hb])
      rw [if_pos hb, hg]
      simp only [List.map_append, List.map_cons, List.map_nil]
      rw [ByteArray.data_extract, Array.toList_extract, List.extract_eq_take_drop, ← List.drop_take, ← e, show (s.data.toList.take (i + 1)).drop (i + 1) = [] from List.drop_of_length_le (by rw [List.length_take]; omega)]
    · have hg : splG s c (i + 1) = splG s c i := if_neg (by rw [List.getElem?_eq_getElem hl]; exact fun h => hb (Option.some.inj h))
      rw [if_neg hb, hg, List.drop_append_of_le_length (by rw [List.length_take]; omega)]
theorem splitG_L (c : UInt8) (s : ByteArray) : splitG s c = (splitL c s.data.toList).map ba := by
  refine map_ba ?_
  have h := splG_L c s s.size (Nat.le_refl _)
  rw [List.take_of_length_le (by rw [← size_eq]; exact Nat.le_refl _)] at h
  unfold splitG
  rw [h, List.map_append, List.map_cons, List.map_nil]
  rw [ByteArray.data_extract, Array.toList_extract, List.extract_eq_take_drop, ← List.drop_take, List.take_of_length_le (by rw [← size_eq]; exact Nat.le_refl _)]
theorem splitL_size {c : UInt8} {l : List UInt8} : ∀ p ∈ splitL c l, p.length ≤ l.length := by
  induction l with
  | nil => intro p hp; simp [splitL] at hp; subst hp; exact Nat.le_refl _
  | cons b t ih =>
    intro p hp
    unfold splitL at hp
    split at hp
    · simp only [List.mem_cons] at hp
      rcases hp with rfl | hp
      · exact Nat.zero_le _
      · exact Nat.le_succ_of_le (ih p hp)
    · split at hp
      · simp only [List.mem_singleton] at hp
        subst hp
        simp
      · rename_i q qs e
        simp only [List.mem_cons] at hp
        rcases hp with rfl | hp
        · have := ih q (by rw [e]; exact List.mem_cons_self)
          simpa using this
        · exact Nat.le_succ_of_le (ih p (by rw [e]; exact List.mem_cons_of_mem _ hp))
def wrongP (s : ByteArray) : Bool := !rightL s.data.toList
def pathG (l : List UInt8) : Bool := decide ((splitL 47 l).length ≤ 16) && !((splitL 47 l).map ba).any wrongP
theorem flat_strs (l : List ByteArray) : flat strLay l = l.map Value.string := by
  induction l with
  | nil => rfl
  | cons x l ih =>
    show strLay.cells x ++ flat strLay l = _
    rw [ih]
    rfl
theorem psplit_any (s : ByteArray) (c : UInt8) (w : World) (hs : s.size ≤ 100000) (hm : MaxAt w) :
    Calls Tryz.prog 12 #[.string s, .string ⟨#[c]⟩] w fun e w' => e = .returned (.slice (some ⟨w.heap.size, 0, none⟩) ((splitL c s.data.toList).map ba).length (splitL c s.data.toList).length) ∧ RowsAt strLay w' (some ⟨w.heap.size, 0, none⟩) ((splitL c s.data.toList).map ba) ∧ Below w.heap.size w w' := by
  obtain ⟨m, hm⟩ := hm
  refine (Tryz.strings_Split s ⟨#[c]⟩ m w (by omega) hm (Nat.le_refl 1)).mono ?_
  rintro e w' ⟨rfl, rfl⟩
  rw [countB_L, splitB_L, List.length_map]
  exact ⟨rfl, rows_new strLay w w.heap.size _ _ _ rfl (by rw [flat_strs]), (Below.refl _ _).alloc (Nat.le_refl _) _⟩
theorem wrong_eq (s : ByteArray) : (rightN s.data.toList != 0) = wrongP s := by
  unfold rightN wrongP
  split
  · rename_i h; rw [h]; rfl
  · rename_i h; rw [Bool.not_eq_true] at h; rw [h]; rfl
set_option maxRecDepth 100000 in
theorem isWrong_any (s : ByteArray) (w : World) (hs : s.size ≤ 100000) : Calls Tryz.prog 14 #[.string s] w fun e w' => e = .returned (.bool (wrongP s)) ∧ ∃ n, w' = w.drewN n := by
  have HR := Lib.hid fun W => right_any s W (by omega)
  have HW := Lib.hid (wrong_eq s)
  generalize rightN s.data.toList = r at *
  generalize wrongP s = q at *
  go_enter Tryz.func14, Tryz.ntmps14
  go_wp2_with fail
  refine (HR.out _).mono ?_
  rintro e w1 ⟨rfl, n, rfl⟩
  go_wp2_with fail
  go_ret
  exact ⟨ret_bool HW.out, n, rfl⟩
theorem anyP_miss {l : List ByteArray} (h : ∀ j y, j < l.length → l[j]? = some y → wrongP y = false) : l.any wrongP = false := by
  rw [List.any_eq_false]
  intro x hx
  obtain ⟨j, hj, e⟩ := List.getElem_of_mem hx
  rw [h j x hj (by rw [List.getElem?_eq_getElem hj, e])]
  simp
theorem anyP_hit {l : List ByteArray} {k : Nat} {x : ByteArray} (hx : l[k]? = some x) (h : wrongP x = true) : l.any wrongP = true := List.any_eq_true.2 ⟨x, List.mem_of_getElem? hx, h⟩
set_option maxRecDepth 100000 in
set_option maxHeartbeats 800000 in
theorem wrongAt_any (a : Option Addr) (cap : Nat) (l : List ByteArray) (w : World) (hl : l.length ≤ 140737488351232) (hsz : ∀ x ∈ l, x.size ≤ 100000) (ha : RowsAt strLay w a l) :
    Calls Tryz.prog 34 #[.slice a l.length cap, .func (.func 14) #[] #[]] w fun e w' => ∃ n : Int, e = .returned (.int .i64 n) ∧ decide (0 ≤ n) = l.any wrongP ∧ Below w.heap.size w w' := by
  have HA := Lib.hid ha
  clear ha
  go_enter Tryz.func34, Tryz.ntmps34
  go_wp2_with fail
  go_loopw [5, 8] (fun _ i wr => ∃ k : Nat, k ≤ l.length ∧ i = .int .i64 k ∧ Hid (∀ j y, j < k → l[j]? = some y → wrongP y = false) ∧ Below w.heap.size w wr) (fun _ i _ => l.length - (RowKit.intOf i).toNat)
  case atStart => exact ⟨0, Nat.zero_le _, rfl, Lib.hid (fun j _ hj => absurd hj (Nat.not_lt_zero _)), Below.refl _ _⟩
  case round =>
    obtain ⟨k, hk, rfl, Hk, hb⟩ := hrel
    by_cases hlt : k < l.length
    · obtain ⟨x, hx⟩ := at_some hlt
      obtain ⟨b, off, rfl, hbl, c0⟩ := str_at (HA.out.keeps hb) hx
      have HW := Lib.hid (isWrong_any x wr (hsz x (List.mem_of_getElem? hx)))
      have Hx := Lib.hid hx
      clear hx
      obtain ⟨v, hv⟩ : ∃ v, wrongP x = v := ⟨_, rfl⟩
      rw [hv] at HW
      have Hv := Lib.hid hv
      clear hv
      cases v with
      | true =>
        have Hr := Lib.hid (anyP_hit Hx.out Hv.out)
        go_wp2_with fail
        refine HW.out.mono ?_
        rintro e w1 ⟨rfl, n, rfl⟩
        have hb2 := below_drewN hb n
        go_wp2_with fail
        go_ret
        exact ⟨_, rfl, by rw [Hr.out]; simp, hb2⟩
      | false =>
        go_wp2_with fail
        refine HW.out.mono ?_
        rintro e w1 ⟨rfl, n, rfl⟩
        have hb2 := below_drewN hb n
        go_wp2_with fail
        go_roundw
        case rel =>
          refine ⟨k + 1, by omega, by go_num, Lib.hid (fun j y hj hy => ?_), hb2⟩
          by_cases e : j = k
          · subst e
            rw [Hx.out] at hy
            cases hy
            exact Hv.out
          · exact Hk.out j y (by omega) hy
        case measure => simp [RowKit.intOf]; omega
    · have Hr := Lib.hid (anyP_miss (l := l) (fun j y hj => Hk.out j y (by omega)))
      go_wp2_with fail
      go_ret
      exact ⟨_, rfl, by rw [Hr.out]; simp, hb⟩
set_option maxRecDepth 100000 in
set_option maxHeartbeats 800000 in
theorem wrongs_any (a : Option Addr) (cap : Nat) (l : List ByteArray) (w : World) (hl : l.length ≤ 140737488351232) (hsz : ∀ x ∈ l, x.size ≤ 100000) (ha : RowsAt strLay w a l) :
    Calls Tryz.prog 13 #[.slice a l.length cap, .func (.func 14) #[] #[]] w fun e w' => e = .returned (.bool (l.any wrongP)) ∧ Below w.heap.size w w' := by
  have HC := Lib.hid (wrongAt_any a cap l w hl hsz ha)
  clear ha hsz
  go_enter Tryz.func13, Tryz.ntmps13
  go_wp2_with fail
  refine HC.out.mono ?_
  rintro e w1 ⟨n, rfl, hn, hb⟩
  go_wp2_with fail
  go_ret
  exact ⟨by rw [← hn]; rfl, hb⟩
set_option maxRecDepth 100000 in
set_option maxHeartbeats 800000 in
theorem path_any (s : ByteArray) (w : World) (hs : s.size ≤ 100000) (hm : MaxAt w) : Calls Tryz.prog 7 #[.string s] w fun e w' => e = .returned (.bool (pathG s.data.toList)) ∧ Below w.heap.size w w' := by
  have HS := Lib.hid (psplit_any s 47 w hs hm)
  have HP := Lib.hid (show pathG s.data.toList = (decide ((splitL 47 s.data.toList).length ≤ 16) && !((splitL 47 s.data.toList).map ba).any wrongP) from rfl)
  have hsz : ∀ x ∈ (splitL 47 s.data.toList).map ba, x.size ≤ 100000 := fun x hx => by
    obtain ⟨p, hp, rfl⟩ := List.mem_map.1 hx
    have := splitL_size p hp
    rw [size_eq, ba_data]
    rw [size_eq] at hs
    omega
  have hll : (splitL 47 s.data.toList).length = ((splitL 47 s.data.toList).map ba).length := (List.length_map _).symm
  rw [hll] at HS HP
  have hcl : ((splitL 47 s.data.toList).map ba).length ≤ 100001 := by
    rw [List.length_map, splitL_length]
    have := List.count_le_length (a := (47 : UInt8)) (l := s.data.toList)
    rw [size_eq] at hs
    omega
  clear hll hm
  generalize pathG s.data.toList = q at *
  generalize (splitL 47 s.data.toList).map ba = l at *
  have HC := Lib.hid fun W a cap h => wrongs_any a cap l W (by omega) hsz h
  clear hsz
  by_cases h16 : l.length ≤ 16
  · go_enter Tryz.func7, Tryz.ntmps7
    go_wp2_with fail
    refine HS.out.mono ?_
    rintro e w1 ⟨rfl, hr, hb1⟩
    go_wp2_with fail
    refine (HC.out _ _ _ hr).mono ?_
    rintro e w2 ⟨rfl, hb2⟩
    go_wp2_with fail
    go_ret
    exact ⟨ret_bool (by rw [HP.out]; simp [h16]), hb1.trans (hb2.mono hb1.size)⟩
  · go_enter Tryz.func7, Tryz.ntmps7
    go_wp2_with fail
    refine HS.out.mono ?_
    rintro e w1 ⟨rfl, hr, hb1⟩
    go_wp2_with fail
    go_ret
    exact ⟨ret_bool (by rw [HP.out]; simp [h16]), hb1⟩
end Go.Proofs.YteeaaphpahnjcaaGreatDoor
