import Derived.Test.YtopoheggngclaaaDoorNamesW9
import Derived.Maps.AppendAt
namespace Go.Proofs.YtopoheggngclaaaDoor
open Go.RowKit Go.Lib

theorem has_call (a : Option Addr) (n cap : Nat) (ss : List ByteArray) (s : ByteArray) (w : World) (hn : n = ss.length) (hl : ss.length ≤ 140737488351232) (ha : StrsAt w a ss) :
    Calls Tryd.prog 34 #[.slice a n cap, .string s] w fun e w' => e = .returned (.bool (hasB ss s)) ∧ w' = w := by
  rw [hn]
  exact (has_any a cap ss s w hl ha).mono fun e w' ⟨h1, h2⟩ => ⟨h1, h2.symm⟩

theorem runique_big (a : Option Addr) (cap : Nat) (ss : List ByteArray) (w : World) (hl : 1000 < (ss.length : Int)) :
    Calls Tryd.prog 19 #[.slice a ss.length cap] w fun e w' => e = .returned (.tuple #[.slice none 0 0, .int .i64 40]) ∧ w = w' := by
  go_enter Tryd.func19, Tryd.ntmps19
  go_wp2_with fail
  go_ret2
  exact ⟨rfl, rfl⟩

theorem dis_ne {vo vg : Value} (h : ∀ j, vo.ownBlock = some j → vg.ownBlock = some j → False) : vg.ownBlock = none ∨ vg.ownBlock ≠ vo.ownBlock := by
  cases hg : vg.ownBlock with
  | none => exact .inl rfl
  | some j => exact .inr fun e => h j e.symm hg
set_option maxRecDepth 100000 in
set_option maxHeartbeats 1600000 in
theorem runique_any (a : Option Addr) (cap : Nat) (ss : List ByteArray) (w : World) (hl : ss.length ≤ 1000) (hcap : ss.length ≤ cap) (ha : StrsAt w a ss) (hsz : ∀ j, j < ss.length → (ss.getD j ByteArray.empty).size ≤ 140737488351232) :
    Calls Tryd.prog 19 #[.slice a ss.length cap] w fun e w' => ∃ v cap' : _, e = .returned (.tuple #[.slice v (uniqueL ss).length cap', .int .i64 (uniqueN ss)]) ∧ StrsAt w' v (uniqueL ss) ∧ Below w.heap.size w w' := by
  have HA := Lib.hid ha
  have HS := Lib.hid hsz
  clear ha hsz
  go_enter Tryd.func19, Tryd.ntmps19
  go_wp2
  go_loop [4] (fun i => ∃ k : Nat, k ≤ ss.length ∧ i = .int .i64 k ∧ Hid (∀ j, j < k → bright (ss.getD j ByteArray.empty) = true)) (fun i => ss.length - (RowKit.intOf i).toNat)
  case atStart => exact ⟨0, Nat.zero_le _, rfl, fun j hj => absurd hj (Nat.not_lt_zero _)⟩
  case round =>
    obtain ⟨k, hk, rfl, Hk⟩ := hrel
    by_cases hlt : k < ss.length
    · obtain ⟨b, off, rfl, hbl, hc⟩ := HA.out k hlt
      have hsk := HS.out k hlt
      have hbr := @allRight_bad ss k hlt
      generalize hx : ss.getD k ByteArray.empty = x at hc hsk hbr
      have Hx := Lib.hid hx
      clear hx
      have HR := Lib.hid fun W => rright_any x W hsk
      by_cases hr : bright x = true
      · have H0 := Lib.hid (rightN_ok hr)
        clear hbr
        go_wp2_with fail
        refine (HR.out _).mono ?_
        rw [H0.out]
        rintro e w' ⟨rfl, rfl⟩
        go_wp2_with fail
        go_round
        case rel =>
          refine ⟨k + 1, by omega, by go_num, fun j hj => ?_⟩
          by_cases e : j = k
          · subst e; rw [Hx.out]; exact hr
          · exact Hk.out j (by omega)
        case measure => simp [RowKit.intOf]; omega
      · have H0 := Lib.hid (rightN_bad (l := x.data.toList) (by simpa [bright] using hr))
        obtain ⟨u1, u2⟩ := unique_wrong (ss := ss) (by omega) (hbr (by simpa using hr))
        have U1 := Lib.hid u1
        have U2 := Lib.hid u2
        clear hbr u1 u2 hr
        go_wp2_with fail
        refine (HR.out _).mono ?_
        rw [H0.out]
        rintro e w' ⟨rfl, rfl⟩
        go_wp2_with fail
        go_ret2
        refine ⟨none, 0, ?_, ?_, ?_⟩
        · rw [U1.out, U2.out]; rfl
        · rw [U2.out]; exact StrsAt.nil _ _
        · exact Below.refl _ _
    · obtain rfl : k = ss.length := by omega
      have hall := allRight_ok (fun j hj => Hk.out j hj)
      obtain ⟨u1, u2⟩ := unique_right (ss := ss) (by omega) hall
      have U1 := Lib.hid u1
      have U2 := Lib.hid u2
      have HAll := Lib.hid hall
      clear u1 u2 hall Hk hk
      obtain ⟨i0, hi, hz0, hz1, hz2⟩ := info_parts strInfo
      have Hi := Lib.hid hi
      have Hz0 := Lib.hid hz0
      have Hz1 := Lib.hid hz1
      have Hz2 := Lib.hid hz2
      clear hi hz0 hz1 hz2
      go_wp2_with fail
      go_loopw [5, 6, 7] (fun vo vg i wr => ∃ k : Nat, k ≤ ss.length ∧ i = .int .i64 k ∧ wr.ownsRow w.heap.size 9 1 vo k ((outU ss k).map Value.string) ∧ wr.ownsRow w.heap.size 9 1 vg (outG ss k).length ((outG ss k).map Value.string) ∧ Hid (∀ j, vo.ownBlock = some j → vg.ownBlock = some j → False) ∧ Below w.heap.size w wr) (fun _ _ i _ => ss.length - (RowKit.intOf i).toNat)
      case atStart => exact ⟨0, Nat.zero_le _, rfl, World.ownsRow_nil _ _ _ _, World.ownsRow_nil _ _ _ _, (fun j h => by cases h), Below.refl _ _⟩
      case round =>
        obtain ⟨k, hk, rfl, hor, hog, hdis, hb2⟩ := hrel
        by_cases hlt : k < ss.length
        · obtain ⟨b, off, rfl, hbl, hc⟩ := HA.out k hlt
          have hc := (hb2.cell (p := ⟨b, off + k, none⟩) hbl).trans hc
          have hsk := HS.out k hlt
          have hbr := allRight_at HAll.out hlt
          have hpk : pickU ss (outU ss k) k = if hasB (ss.take k) (ss.getD k ByteArray.empty) then bcopy (ss.getD k ByteArray.empty) (nextN (ss ++ outU ss k) (ss.getD k ByteArray.empty)) else ss.getD k ByteArray.empty := rfl
          have hgk : outG ss (k + 1) = if hasB (ss.take k) (ss.getD k ByteArray.empty) then outG ss k ++ [pickU ss (outU ss k) k] else outG ss k := rfl
          generalize hx : ss.getD k ByteArray.empty = x at hc hsk hbr hpk hgk
          have Hx := Lib.hid hx
          have Hbr := Lib.hid hbr
          clear hx hbr
          obtain ⟨wo, rfl⟩ : ∃ wo : World, wo = wr := ⟨_, rfl⟩
          have HSa := Lib.hid (HA.out.keeps hb2)
          have HSk := Lib.hid (HSa.out.take k)
          have HC : Hid (∀ n W, Below wo.heap.size wo W → n = k → ∀ c, Calls Tryd.prog 34 #[.slice (some ⟨b, off, none⟩) n c, .string x] W fun e w' => e = .returned (.bool (hasB (ss.take k) x)) ∧ w' = W) :=
            fun n W hW hn c => has_call _ n c (ss.take k) x W (by rw [hn, List.length_take]; omega) (by rw [List.length_take]; omega) (HSk.out.keeps hW)
          by_cases hin : hasB (ss.take k) x = true
          · rw [hin] at hpk hgk HC
            obtain ⟨n1, n2, n3, n4⟩ := nextN_spec (T := ss ++ outU ss k) Hbr.out (by simp [outU_length]; omega)
            have hlenT : (ss ++ outU ss k).length = ss.length + k := by simp [outU_length]
            rw [hlenT] at n2
            generalize hmm' : nextN (ss ++ outU ss k) x = m at hpk n1 n2 n3 n4
            have Hpk := Lib.hid hpk
            have Hgk := Lib.hid hgk
            have N3 := Lib.hid n3
            have N4 := Lib.hid n4
            have hGl := outG_length ss k
            obtain ⟨ga, gc, rfl, hga⟩ := strsAt_own hog
            have HGa := Lib.hid hga
            clear hpk hgk n3 n4 hmm' hlenT hin hga
            have HCl : Hid (∀ W y, Below wo.heap.size wo W → Calls Tryd.prog 34 #[.slice (some ⟨b, off, none⟩) ss.length cap, .string y] W fun e w' => e = .returned (.bool (hasB ss y)) ∧ w' = W) :=
              fun W y hW => has_call _ _ cap ss y W rfl (by omega) (HSa.out.keeps hW)
            have HCg : Hid (∀ W y, Below wo.heap.size wo W → Calls Tryd.prog 34 #[.slice ga (outG ss k).length gc, .string y] W fun e w' => e = .returned (.bool (hasB (outG ss k) y)) ∧ w' = W) :=
              fun W y hW => has_call _ _ gc (outG ss k) y W rfl (by omega) (HGa.out.keeps hW)
            have HCp : Hid (∀ z : Int, 1 ≤ z → z ≤ m → ∀ W, Calls Tryd.prog 16 #[.string x, .int .i64 z] W fun e w' => e = .returned (.tuple #[.string (bcopy x z.toNat), .int .i64 0]) ∧ Below W.heap.size W w') := fun z hj1 hj2 W => by
              have h := rcopy_any x z W hsk
              rw [(copy_right (l := x.data.toList) (n := z) Hbr.out (by omega)).2] at h
              unfold bcopy
              rw [Int.toNat_of_nonneg (by omega)]
              exact h
            have hkc : (k : Int) ≤ (cap : Int) := by omega
            go_wp2_with fail
            go_quiet ((go_at_call 34; exact Calls.quiet_of_same (HC.out _ _ (below_drewN (Below.refl _ _) _) rfl _)))
            have hbq0 := below_drewN (Below.refl wo.heap.size wo) nq
            go_wp2_with fail
            refine (HCp.out _ (by omega) (by omega) _).mono ?_
            rintro e w1 ⟨rfl, hb1⟩
            have hbq1 := hbq0.trans (hb1.mono (by simp))
            clear hbq0 hb1
            go_wp2_with fail
            go_loopw [8, 9] (fun nv gv wq => ∃ j : Nat, 1 ≤ j ∧ j ≤ m ∧ nv = .int .i64 j ∧ gv = .string (bcopy x j) ∧ Below wo.heap.size wo wq) (fun nv _ _ => m - (RowKit.intOf nv).toNat)
            case atStart => exact ⟨1, by omega, by omega, rfl, rfl, hbq1⟩
            case round =>
              obtain ⟨j, hj1, hj2, rfl, rfl, hbq⟩ := hrel
              have hc := (hbq.cell (p := ⟨b, off + k, none⟩) (by have := hb2.size; exact Nat.lt_of_lt_of_le hbl this)).trans hc
              by_cases hjm : j < m
              · have hmem := (mem_outU ss k hk _).1 (N4.out j hj1 hjm)
                rw [List.mem_append, ← hasB_iff, ← hasB_iff] at hmem
                by_cases h1 : hasB ss (bcopy x j) = true
                · go_wp2_with fail
                  refine (HCl.out _ _ hbq).mono ?_
                  rw [h1]
                  rintro e w' ⟨rfl, rfl⟩
                  go_wp2_with fail
                  refine (HCp.out _ (by omega) (by omega) _).mono ?_
                  rintro e w2 ⟨rfl, hb7⟩
                  go_wp2_with fail
                  go_roundw
                  case rel => exact ⟨j + 1, by omega, by omega, by go_num, rfl, hbq.trans (hb7.mono hbq.size)⟩
                  case measure => simp [RowKit.intOf]; omega
                · have h2 : hasB (outG ss k) (bcopy x j) = true := hmem.resolve_left h1
                  have h1 : hasB ss (bcopy x j) = false := by simpa using h1
                  clear hmem
                  go_wp2_with fail
                  refine (HCl.out _ _ hbq).mono ?_
                  rw [h1]
                  rintro e w' ⟨rfl, rfl⟩
                  go_wp2_with fail
                  refine (HCg.out _ _ hbq).mono ?_
                  rw [h2]
                  rintro e w' ⟨rfl, rfl⟩
                  go_wp2_with fail
                  refine (HCp.out _ (by omega) (by omega) _).mono ?_
                  rintro e w2 ⟨rfl, hb7⟩
                  go_wp2_with fail
                  go_roundw
                  case rel => exact ⟨j + 1, by omega, by omega, by go_num, rfl, hbq.trans (hb7.mono hbq.size)⟩
                  case measure => simp [RowKit.intOf]; omega
              · obtain rfl : j = m := by omega
                have hnm : ¬ (bcopy x j ∈ ss ++ outG ss k) := fun h => N3.out ((mem_outU ss k hk _).2 h)
                rw [List.mem_append] at hnm
                have h1 : hasB ss (bcopy x j) = false := hasB_not.2 fun h => hnm (.inl h)
                have h2 : hasB (outG ss k) (bcopy x j) = false := hasB_not.2 fun h => hnm (.inr h)
                clear hnm
                have hb2 := hb2.trans (hbq.mono hb2.size)
                have hor := ownsRow_below hor hbq
                have hog := ownsRow_below hog hbq
                go_wp2_with fail
                refine (HCl.out _ _ hbq).mono ?_
                rw [h1]
                rintro e w' ⟨rfl, rfl⟩
                go_wp2_with fail
                refine (HCg.out _ _ hbq).mono ?_
                rw [h2]
                rintro e w' ⟨rfl, rfl⟩
                clear h1 h2 hc
                go_wp2_with (at_builtin; refine wpList_append_own_at _ rfl _ _ 30 rfl w.heap.size 9 i0 (.string ⟨#[]⟩) 1 16 Tryd.underlying30 Hi.out Hz0.out Hz1.out Hz2.out rfl (by decide) _ _ _ rfl (hog.alloc _) ⟨w'.heap.size, 0, none⟩ 1 1 [.string (bcopy x j)] rfl rfl (cell_one_new _ _ _) (by intro u hu; simp at hu; subst hu; rfl) (by unfold maxLen; omega) (by omega) (by simp; have := hb2.size; omega) ?_)
                intro v1 w3 hog3 hg3 _ hat3
                have hor3 := (hor.alloc (.cells #[.string (bcopy x j)] 9)).kept hg3 (dis_ne fun i h1 h2 => hdis.out i h2 h1)
                have hb3 := (hb2.alloc (by simpa using hb2.size) (.cells #[.string (bcopy x j)] 9)).grown hg3 (by have := hb2.size; simp; omega) (fun i ej => (hog.lt _ ej).1)
                have Hdis3 : Hid (∀ i, u5.ownBlock = some i → v1.ownBlock = some i → False) := fun i h1 h2 => by
                  rcases hat3 with h | h
                  · exact hdis.out i h1 (by rw [← h]; exact h2)
                  · rw [h2] at h
                    have := (hor.lt i h1).2
                    simp at h
                    omega
                clear hog hg3 hat3 hor
                go_wp2_with (at_builtin; refine wpList_append_own_at _ rfl _ _ 30 rfl w.heap.size 9 i0 (.string ⟨#[]⟩) 1 16 Tryd.underlying30 Hi.out Hz0.out Hz1.out Hz2.out rfl (by decide) _ _ _ rfl (hor3.alloc _) ⟨w3.heap.size, 0, none⟩ 1 1 [.string (bcopy x j)] rfl rfl (cell_one_new _ _ _) (by intro u hu; simp at hu; subst hu; rfl) (by unfold maxLen; omega) (by omega) (by simp; have := hb3.size; omega) ?_)
                intro v2 w5 hor5 hg5 _ hat5
                have hog5 := (hog3.alloc (.cells #[.string (bcopy x j)] 9)).kept hg5 (dis_ne Hdis3.out)
                have hb5 := (hb3.alloc (by simpa using hb3.size) (.cells #[.string (bcopy x j)] 9)).grown hg5 (by have := hb3.size; simp; omega) (fun i ej => (hor3.lt _ ej).1)
                have Hdis : Hid (∀ i, v2.ownBlock = some i → v1.ownBlock = some i → False) := fun i h1 h2 => by
                  rcases hat5 with h | h
                  · exact Hdis3.out i (by rw [← h]; exact h1) h2
                  · rw [h1] at h
                    have := (hog3.lt i h2).2
                    simp at h this
                    omega
                have ho : outU ss (k + 1) = outU ss k ++ [bcopy x j] := by rw [outU, Hpk.out]; rfl
                have hgg : outG ss (k + 1) = outG ss k ++ [bcopy x j] := by rw [Hgk.out, Hpk.out]; simp
                have Ho := Lib.hid ho
                have Hgg := Lib.hid hgg
                clear ho hgg hor3 hog3 hg5 hat5
                go_wp2_with fail
                go_roundw
                case rel =>
                  refine ⟨k + 1, by omega, by go_num, ?_, ?_, Hdis, hb5⟩
                  · rw [Ho.out, List.map_append]; exact hor5
                  · rw [Hgg.out, List.map_append, List.length_append]; exact hog5
                case measure => simp [RowKit.intOf]; omega
          · have hin : hasB (ss.take k) x = false := by simpa using hin
            rw [hin] at hpk hgk
            have Hpk := Lib.hid hpk
            have Hgk := Lib.hid hgk
            clear hpk hgk
            rw [hin] at HC
            clear hin
            have hkc : (k : Int) ≤ (cap : Int) := by omega
            go_wp2_with fail
            go_quiet ((go_at_call 34; exact Calls.quiet_of_same (HC.out _ _ (below_drewN (Below.refl _ _) _) rfl _)))
            have hor0 := ownsRow_below hor (below_drewN (Below.refl _ _) nq)
            have hog0 := ownsRow_below hog (below_drewN (Below.refl _ _) nq)
            clear hor hog
            go_wp2_with (at_builtin; refine wpList_append_own_at _ rfl _ _ 30 rfl w.heap.size 9 i0 (.string ⟨#[]⟩) 1 16 Tryd.underlying30 Hi.out Hz0.out Hz1.out Hz2.out rfl (by decide) _ _ _ rfl (hor0.alloc _) ⟨(wo.drewN nq).heap.size, 0, none⟩ 1 1 [.string x] rfl rfl (cell_one_new _ _ _) (by intro u hu; simp at hu; subst hu; rfl) (by unfold maxLen; omega) (by omega) (by simp; have := hb2.size; omega) ?_)
            intro v' w5 hor5 hg5 _ hat
            have hog5 := (hog0.alloc (.cells #[.string x] 9)).kept hg5 (dis_ne hdis.out)
            have hb5 := ((below_drewN hb2 nq).alloc (by simpa using hb2.size) (.cells #[.string x] 9)).grown hg5 (by have := hb2.size; simp; omega) (fun j ej => (hor0.lt _ ej).1)
            have Hdis : Hid (∀ j, v'.ownBlock = some j → u6.ownBlock = some j → False) := fun j h1 h2 => by
              rcases hat with h | h
              · exact hdis.out j (by rw [← h]; exact h1) h2
              · rw [h1] at h
                have := (hog0.lt j h2).2
                simp at h this
                omega
            have ho : outU ss (k + 1) = outU ss k ++ [x] := by rw [outU, Hpk.out]; rfl
            have hgg : outG ss (k + 1) = outG ss k := by rw [Hgk.out]; simp
            have Ho := Lib.hid ho
            have Hgg := Lib.hid hgg
            clear ho hgg hor0 hog0 hg5 hat
            go_wp2_with fail
            go_roundw
            case rel =>
              refine ⟨k + 1, by omega, by go_num, ?_, ?_, Hdis, hb5⟩
              · rw [Ho.out, List.map_append]; exact hor5
              · rw [Hgg.out]; exact hog5
            case measure => simp [RowKit.intOf]; omega
        · obtain rfl : k = ss.length := by omega
          have hse := strsAt_own hor
          go_wp2_with fail
          obtain ⟨va, vc, rfl, hva⟩ := hse
          go_ret2
          refine ⟨va, vc, ?_, ?_, hb2⟩
          · rw [U1.out, U2.out]; rfl
          · rw [U2.out]; exact hva
end Go.Proofs.YtopoheggngclaaaDoor
