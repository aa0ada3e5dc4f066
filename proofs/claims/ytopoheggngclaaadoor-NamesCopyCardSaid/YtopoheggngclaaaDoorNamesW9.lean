import Derived.Test.YtopoheggngclaaaDoorNamesW8
import Derived.Test.YtopoheggngclaaaDoorMaps
namespace Go.Proofs.YtopoheggngclaaaDoor
open Go.RowKit Go.Lib

def setFn (T : List ByteArray) : ByteArray → Option Value := fun c => if hasB T c then some (.bool true) else none
theorem setFn_nil : setFn [] = fun _ => none := rfl
theorem hasB_snoc (T : List ByteArray) (s x : ByteArray) : hasB (T ++ [s]) x = (hasB T x || decide (s = x)) := by
  unfold hasB; rw [List.any_append]; simp
theorem setFn_put (T : List ByteArray) (s : ByteArray) : putAt (setFn T) s (.bool true) = setFn (T ++ [s]) := by
  funext x
  unfold putAt setFn
  rw [hasB_snoc]
  by_cases h : x = s
  · subst h; simp
  · have : ¬ s = x := fun e => h e.symm
    simp [h, this]
theorem setFn_get (T : List ByteArray) (s : ByteArray) : ((setFn T) s).getD (.bool false) = .bool (hasB T s) := by
  unfold setFn; cases hasB T s <;> rfl
theorem mapK : KeyOps Tryd.prog 9 Value.string := keyOps_string Tryd.underlying9
theorem zeroBool (w : World) : (zeroValue 4).run Tryd.prog w = .ok (.bool false) w := by kernel_rfl

set_option maxRecDepth 100000 in
set_option maxHeartbeats 800000 in
theorem unique_big_walk (a : Option Addr) (cap : Nat) (ss : List ByteArray) (w : World) (hl : 1000 < (ss.length : Int)) :
    Calls Tryd.prog 18 #[.slice a ss.length cap] w fun e w' => e = .returned (.tuple #[.slice none 0 0, .int .i64 40]) ∧ w = w' := by
  go_enter Tryd.func18, Tryd.ntmps18
  go_wp2_with fail
  go_ret2
  exact ⟨rfl, rfl⟩

theorem strInfo : (Tryd.prog.info? 9).map (fun i => (i.zero, i.size, i.bytes)) = some (some (.string ⟨#[]⟩), 1, 16) := by kernel_rfl
theorem ownBlock_ne {w : World} {base e n j : Nat} {v : Value} {xs : List Value} (h : w.ownsRow base e 1 v n xs) (hj : j < base) : v.ownBlock = none ∨ v.ownBlock ≠ some j :=
  .inr fun e => by have := (h.lt _ e).1; omega
theorem ownsRow_below {w w' : World} {base e size n : Nat} {v : Value} {xs : List Value} (h : w.ownsRow base e size v n xs) (hb : Below w.heap.size w w') : w'.ownsRow base e size v n xs := by
  refine ⟨h.1, ?_⟩
  rcases h.2 with hn | ⟨g, cap, cur, rfl, hg, hgg, rest⟩
  · exact .inl hn
  · refine .inr ⟨g, cap, cur, rfl, hg, ?_, rest⟩
    rw [hb.block g (Array.getElem?_eq_some_iff.1 hgg).1]
    exact hgg
theorem strsAt_own {w : World} {base e n : Nat} {v : Value} {ss : List ByteArray} (h : w.ownsRow base e 1 v n (ss.map Value.string)) : ∃ a cap, v = .slice a ss.length cap ∧ StrsAt w a ss := by
  rcases h.2 with ⟨hv, _⟩ | ⟨g, cap, cur, hv, _⟩
  · subst hv
    obtain ⟨h1, h2, _⟩ := strsAt_of_ownsRow h
    exact ⟨none, 0, by rw [← h2], h1⟩
  · subst hv
    obtain ⟨h1, h2, _⟩ := strsAt_of_ownsRow h
    exact ⟨some ⟨g, 0, none⟩, cap, by rw [h2], h1⟩
theorem take_getD (ss : List ByteArray) (k : Nat) (h : k < ss.length) : ss.take (k + 1) = ss.take k ++ [ss.getD k ByteArray.empty] := by
  rw [List.take_add_one, List.getElem?_eq_getElem h, List.getD_eq_getElem?_getD, List.getElem?_eq_getElem h]; rfl

set_option maxRecDepth 100000 in
set_option maxHeartbeats 800000 in
theorem unique_any (a : Option Addr) (cap : Nat) (ss : List ByteArray) (w : World) (hl : ss.length ≤ 1000) (ha : StrsAt w a ss) (hsz : ∀ j, j < ss.length → (ss.getD j ByteArray.empty).size ≤ 140737488351232) (hT : Tab w) :
    Calls Tryd.prog 18 #[.slice a ss.length cap] w fun e w' => ∃ v cap' : _, e = .returned (.tuple #[.slice v (uniqueL ss).length cap', .int .i64 (uniqueN ss)]) ∧ StrsAt w' v (uniqueL ss) ∧ Below w.heap.size w w' := by
  have hmm := @run_makeMap Tryd.prog
  have HA := Lib.hid ha
  have HS := Lib.hid hsz
  clear ha hsz
  go_enter Tryd.func18, Tryd.ntmps18
  go_wp2
  go_loopw [21] (fun i wr => ∃ k : Nat, k ≤ ss.length ∧ i = .int .i64 k ∧ Hid (∀ j, j < k → bright (ss.getD j ByteArray.empty) = true) ∧ MapOf Value.string wr w.heap.size k (setFn (ss.take k)) ∧ Below w.heap.size w wr) (fun i _ => ss.length - (RowKit.intOf i).toNat)
  case atStart => exact ⟨0, Nat.zero_le _, rfl, fun j hj => absurd hj (Nat.not_lt_zero _), MapOf.made _, (Below.refl _ _).alloc (Nat.le_refl _) _⟩
  case round =>
    obtain ⟨k, hk, rfl, Hk, hmo, hbe⟩ := hrel
    by_cases hlt : k < ss.length
    · obtain ⟨b, off, rfl, hbl, hc⟩ := HA.out k hlt
      have hc := (hbe.cell (p := ⟨b, off + k, none⟩) hbl).trans hc
      have hsk := HS.out k hlt
      have hbr := @allRight_bad ss k hlt
      have htk := take_getD ss k hlt
      generalize hx : ss.getD k ByteArray.empty = x at hc hsk hbr htk
      have Hx := Lib.hid hx
      clear hx
      have HR := Lib.hid fun W => right_any x W hsk
      by_cases hr : bright x = true
      · have H0 := Lib.hid (rightN_ok hr)
        clear hbr
        have Htk := Lib.hid htk
        clear htk
        go_wp2_with fail
        refine (HR.out _).mono ?_
        rw [H0.out]
        rintro e w' ⟨rfl, n, rfl⟩
        go_wp2_with (at_mapUpdate; refine wpList_mapUpdate_of rfl _ _ _ 36 rfl 9 4 mapK Tryd.underlying36 rfl (hmo.drewN n) x rfl _ rfl ?_)
        intro w2 hmo2 hg2
        rw [setFn_put, ← Htk.out] at hmo2
        have hbe2 := ((hbe.trans (below_drewN (Below.refl _ _) n)).grown hg2 (by simpa using hbe.size) (fun j ej => by cases ej; exact Nat.le_refl _))
        clear hmo hg2 hc
        go_wp2_with fail
        go_roundw
        case rel =>
          refine ⟨k + 1, by omega, by go_num, fun j hj => ?_, hmo2, hbe2⟩
          by_cases e : j = k
          · subst e; rw [Hx.out]; exact hr
          · exact Hk.out j (by omega)
        case measure => simp [RowKit.intOf]; omega
      · have H0 := Lib.hid (rightN_bad (l := x.data.toList) (by simpa [bright] using hr))
        obtain ⟨u1, u2⟩ := unique_wrong (ss := ss) (by omega) (hbr (by simpa using hr))
        have U1 := Lib.hid u1
        have U2 := Lib.hid u2
        clear hbr u1 u2 htk hr hmo
        go_wp2_with fail
        refine (HR.out _).mono ?_
        rw [H0.out]
        rintro e w' ⟨rfl, n, rfl⟩
        go_wp2_with fail
        go_ret2
        refine ⟨none, 0, ?_, ?_, ?_⟩
        · rw [U1.out, U2.out]; rfl
        · rw [U2.out]; exact StrsAt.nil _ _
        · exact hbe.trans (below_drewN (Below.refl _ _) n)
    · obtain rfl : k = ss.length := by omega
      have hall := allRight_ok (fun j hj => Hk.out j hj)
      obtain ⟨u1, u2⟩ := unique_right (ss := ss) (by omega) hall
      have U1 := Lib.hid u1
      have U2 := Lib.hid u2
      have HAll := Lib.hid hall
      rw [List.take_length] at hmo
      clear u1 u2 hall Hk hk
      have hws : w.heap.size + 1 ≤ wr.heap.size := hmo.lt
      obtain ⟨i0, hi, hz0, hz1, hz2⟩ := info_parts strInfo
      have Hi := Lib.hid hi
      have Hz0 := Lib.hid hz0
      have Hz1 := Lib.hid hz1
      have Hz2 := Lib.hid hz2
      clear hi hz0 hz1 hz2
      obtain ⟨wo, rfl⟩ : ∃ wo : World, wo = wr := ⟨_, rfl⟩
      go_wp2_with fail
      go_loopw [9, 36] (fun v i wr2 => ∃ k : Nat, k ≤ ss.length ∧ i = .int .i64 k ∧ MapOf Value.string wr2 w.heap.size (ss.length + k) (setFn (ss ++ outU ss k)) ∧ MapOf Value.string wr2 wo.heap.size k (setFn (ss.take k)) ∧ wr2.ownsRow (wo.heap.size + 1) 9 1 v k ((outU ss k).map Value.string) ∧ Below w.heap.size w wr2 ∧ wo.heap.size + 1 ≤ wr2.heap.size) (fun _ i _ => ss.length - (RowKit.intOf i).toNat)
      case atStart => exact ⟨0, Nat.zero_le _, rfl, (by simpa [outU] using hmo.alloc _), MapOf.made _, World.ownsRow_nil _ _ _ _, hbe.alloc (by omega) _, by simp⟩
      case round =>
        obtain ⟨k, hk, rfl, hm1, hm2, hor, hb2, hsz2⟩ := hrel
        by_cases hlt : k < ss.length
        · obtain ⟨b, off, rfl, hbl, hc⟩ := HA.out k hlt
          have hc := (hb2.cell (p := ⟨b, off + k, none⟩) hbl).trans hc
          have hsk := HS.out k hlt
          have hbr := allRight_at HAll.out hlt
          have htk := take_getD ss k hlt
          have hpk : pickU ss (outU ss k) k = if hasB (ss.take k) (ss.getD k ByteArray.empty) then bcopy (ss.getD k ByteArray.empty) (nextN (ss ++ outU ss k) (ss.getD k ByteArray.empty)) else ss.getD k ByteArray.empty := rfl
          generalize hx : ss.getD k ByteArray.empty = x at hc hsk hbr htk hpk
          have Hx := Lib.hid hx
          have Htk := Lib.hid htk
          have Hbr := Lib.hid hbr
          clear hx htk hbr
          by_cases hin : hasB (ss.take k) x = true
          · rw [hin] at hpk
            obtain ⟨n1, n2, n3, n4⟩ := nextN_spec (T := ss ++ outU ss k) Hbr.out (by simp [outU_length]; omega)
            have hlenT : (ss ++ outU ss k).length = ss.length + k := by simp [outU_length]
            rw [hlenT] at n2
            generalize hmm' : nextN (ss ++ outU ss k) x = m at hpk n1 n2 n3 n4
            have Hpk := Lib.hid hpk
            have N3 := Lib.hid (hasB_not.2 n3)
            have N4 := Lib.hid n4
            clear hpk n3 n4 hmm' hlenT
            have Hin := Lib.hid hin
            have HCp : Hid (∀ z : Int, 1 ≤ z → z ≤ m → ∀ W, Tab W → Calls Tryd.prog 15 #[.string x, .int .i64 z] W fun e w' => e = .returned (.tuple #[.string (bcopy x z.toNat), .int .i64 0]) ∧ Below W.heap.size W w') := fun z hj1 hj2 W hW => by
              have h := copy_any x z W hsk hW
              rw [(copy_right (l := x.data.toList) (n := z) Hbr.out (by omega)).2] at h
              unfold bcopy
              rw [Int.toNat_of_nonneg (by omega)]
              exact h
            have HT := Lib.hid hT
            clear hin
            obtain ⟨wp, rfl⟩ : ∃ wp : World, wp = wr := ⟨_, rfl⟩
            go_wp2_with fail
            go_loopw [12, 13] (fun gv nv wq => ∃ j : Nat, j ≤ m ∧ ((j = 0 ∧ nv = .int .i64 1 ∧ gv = .string x) ∨ (1 ≤ j ∧ nv = .int .i64 ((j : Int) + 1) ∧ gv = .string (bcopy x j))) ∧ Below wp.heap.size wp wq) (fun _ nv _ => m + 1 - (RowKit.intOf nv).toNat)
            case atStart => exact ⟨0, Nat.zero_le _, .inl ⟨rfl, rfl, rfl⟩, Below.refl _ _⟩
            case round =>
              obtain ⟨j, hj, hcase, hbq⟩ := hrel
              have hm1 := hm1.below hbq (by have := hbe.size; omega)
              have hm2 := hm2.below hbq (by omega)
              have hl1 := hm2.lookup mapK Tryd.underlying36 x (zeroBool _)
              rw [setFn_get, Hin.out] at hl1
              have hb2 := hb2.trans (hbq.mono hb2.size)
              have hTq := Lib.hid (HT.out.keeps hb2)
              rcases hcase with ⟨rfl, rfl, rfl⟩ | ⟨hj1, rfl, rfl⟩
              · go_wp2_with fail
                refine (HCp.out _ (by omega) (by omega) _ hTq.out).mono ?_
                rintro e w' ⟨rfl, hb7⟩
                go_wp2_with fail
                go_roundw
                case rel => exact ⟨1, by omega, .inr ⟨by omega, by go_num, rfl⟩, hbq.trans (hb7.mono hbq.size)⟩
                case measure => simp [RowKit.intOf]; omega
              · have hne : (((j : Int) + 1) == 1) = false := by rw [beq_eq_false_iff_ne]; omega
                have hl2 := hm1.lookup mapK Tryd.underlying36 (bcopy x j) (zeroBool _)
                by_cases hjm : j < m
                · rw [setFn_get, hasB_iff.2 (N4.out j hj1 hjm)] at hl2
                  go_wp2_with fail
                  refine (HCp.out _ (by omega) (by omega) _ hTq.out).mono ?_
                  rintro e w' ⟨rfl, hb7⟩
                  go_wp2_with fail
                  go_roundw
                  case rel => exact ⟨j + 1, by omega, .inr ⟨by omega, by go_num, rfl⟩, hbq.trans (hb7.mono hbq.size)⟩
                  case measure => simp [RowKit.intOf]; omega
                · obtain rfl : j = m := by omega
                  rw [setFn_get, N3.out] at hl2
                  have hor := ownsRow_below hor hbq
                  have hsz2 := Nat.le_trans hsz2 hbq.size
                  go_wp2_with (at_mapUpdate; refine wpList_mapUpdate_of rfl _ _ _ 36 rfl 9 4 mapK Tryd.underlying36 rfl hm2 x rfl _ rfl ?_)
                  intro w3 hm2' hg3
                  have hm1' := hm1.grown hg3 (by simp; omega)
                  have hor' := hor.kept hg3 (ownBlock_ne hor (by omega))
                  have hb3 := hb2.grown hg3 (by have := hb2.size; omega) (fun j ej => by cases ej; have := hbe.size; omega)
                  clear hl1 hl2 hm2 hm1 hor hc
                  go_wp2_with (at_mapUpdate; refine wpList_mapUpdate_of rfl _ _ _ 36 rfl 9 4 mapK Tryd.underlying36 rfl hm1' (bcopy x j) rfl _ rfl ?_)
                  intro w4 hm1 hg4
                  have hm2 := hm2'.grown hg4 (by simp; omega)
                  have hor := hor'.kept hg4 (ownBlock_ne hor' (by omega))
                  have hb4 := hb3.grown hg4 (by have := hb3.size; omega) (fun j ej => by cases ej; omega)
                  clear hm2' hm1' hor'
                  rw [setFn_put] at hm1 hm2
                  rw [← Htk.out] at hm2
                  have hsz4 : wo.heap.size + 1 ≤ w4.heap.size := by have := hg3.size; have := hg4.size; omega
                  go_wp2_with (at_builtin; refine wpList_append_own _ rfl _ _ 30 rfl (wo.heap.size + 1) 9 i0 (.string ⟨#[]⟩) 1 16 Tryd.underlying30 Hi.out Hz0.out Hz1.out Hz2.out rfl (by decide) _ _ _ rfl (hor.alloc _) ⟨w4.heap.size, 0, none⟩ 1 1 [.string (bcopy x j)] rfl rfl (cell_one_new _ _ _) (by intro u hu; simp at hu; subst hu; rfl) (by unfold maxLen; omega) (by omega) (by simp; omega) ?_)
                  intro v' w5 hor5 hg5 _
                  have hm1'' := (hm1.alloc (.cells #[.string (bcopy x j)] 9)).grown hg5 (fun e => by have := (hor.lt _ e.symm).1; omega)
                  have hm2'' := (hm2.alloc (.cells #[.string (bcopy x j)] 9)).grown hg5 (fun e => by have := (hor.lt _ e.symm).1; omega)
                  have hb5 := (hb4.alloc (by have := hb4.size; omega) (.cells #[.string (bcopy x j)] 9)).grown hg5 (by have := hb4.size; simp; omega) (fun j ej => by have := (hor.lt _ ej).1; omega)
                  have hs5 : wo.heap.size + 1 ≤ w5.heap.size := by have := hg5.size; simp at this; omega
                  have ho : outU ss (k + 1) = outU ss k ++ [bcopy x j] := by rw [outU, Hpk.out]; rfl
                  have Ho := Lib.hid ho
                  clear ho hm1 hm2 hor hg5 hg4 hg3
                  go_wp2_with fail
                  go_roundw
                  case rel =>
                    refine ⟨k + 1, by omega, by go_num, ?_, hm2'', ?_, hb5, hs5⟩
                    · rw [Ho.out, ← List.append_assoc]; exact hm1''
                    · rw [Ho.out, List.map_append]; exact hor5
                  case measure => simp [RowKit.intOf]; omega
          · have hin : hasB (ss.take k) x = false := by simpa using hin
            rw [hin] at hpk
            have Hpk := Lib.hid hpk
            clear hpk
            have hl1 := hm2.lookup mapK Tryd.underlying36 x (zeroBool _)
            rw [setFn_get, hin] at hl1
            clear hin
            go_wp2_with fail
            refine wp_loop_rounds 1 ?_
            rw [rounds_succ]
            go_wp2_with (at_mapUpdate; refine wpList_mapUpdate_of rfl _ _ _ 36 rfl 9 4 mapK Tryd.underlying36 rfl hm2 x rfl _ rfl ?_)
            intro w3 hm2' hg3
            have hm1' := hm1.grown hg3 (by simp; omega)
            have hor' := hor.kept hg3 (ownBlock_ne hor (by omega))
            have hb3 := hb2.grown hg3 (by have := hbe.size; omega) (fun j ej => by cases ej; have := hbe.size; omega)
            clear hl1 hm2 hm1 hor hc
            go_wp2_with (at_mapUpdate; refine wpList_mapUpdate_of rfl _ _ _ 36 rfl 9 4 mapK Tryd.underlying36 rfl hm1' x rfl _ rfl ?_)
            intro w4 hm1 hg4
            have hm2 := hm2'.grown hg4 (by simp; omega)
            have hor := hor'.kept hg4 (ownBlock_ne hor' (by omega))
            have hb4 := hb3.grown hg4 (by have := hb3.size; omega) (fun j ej => by cases ej; omega)
            clear hm2' hm1' hor'
            rw [setFn_put] at hm1 hm2
            rw [← Htk.out] at hm2
            have hsz4 : wo.heap.size + 1 ≤ w4.heap.size := by have := hg3.size; have := hg4.size; omega
            go_wp2_with (at_builtin; refine wpList_append_own _ rfl _ _ 30 rfl (wo.heap.size + 1) 9 i0 (.string ⟨#[]⟩) 1 16 Tryd.underlying30 Hi.out Hz0.out Hz1.out Hz2.out rfl (by decide) _ _ _ rfl (hor.alloc _) ⟨w4.heap.size, 0, none⟩ 1 1 [.string x] rfl rfl (cell_one_new _ _ _) (by intro u hu; simp at hu; subst hu; rfl) (by unfold maxLen; omega) (by omega) (by simp; omega) ?_)
            intro v' w5 hor5 hg5 _
            have hm1'' := (hm1.alloc (.cells #[.string x] 9)).grown hg5 (fun e => by have := (hor.lt _ e.symm).1; omega)
            have hm2'' := (hm2.alloc (.cells #[.string x] 9)).grown hg5 (fun e => by have := (hor.lt _ e.symm).1; omega)
            have hb5 := (hb4.alloc (by have := hb3.size; omega) (.cells #[.string x] 9)).grown hg5 (by have := hb3.size; simp; omega) (fun j ej => by have := (hor.lt _ ej).1; omega)
            have hs5 : wo.heap.size + 1 ≤ w5.heap.size := by have := hg5.size; simp at this; omega
            have ho : outU ss (k + 1) = outU ss k ++ [x] := by rw [outU, Hpk.out]; rfl
            have Ho := Lib.hid ho
            clear ho hm1 hm2 hor hg5 hg4 hg3
            go_wp2_with fail
            go_roundw
            case rel =>
              refine ⟨k + 1, by omega, by go_num, ?_, hm2'', ?_, hb5, hs5⟩
              · rw [Ho.out, ← List.append_assoc]; exact hm1''
              · rw [Ho.out, List.map_append]; exact hor5
            case measure => simp [RowKit.intOf]; omega
        · obtain rfl : k = ss.length := by omega
          have hse := strsAt_own hor
          clear hm1 hm2
          go_wp2_with fail
          obtain ⟨va, vc, rfl, hva⟩ := hse
          go_ret2
          refine ⟨va, vc, ?_, ?_, hb2⟩
          · rw [U1.out, U2.out]; rfl
          · rw [U2.out]; exact hva
end Go.Proofs.YtopoheggngclaaaDoor
