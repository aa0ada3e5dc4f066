/-
  LayLeast.
-/
import Derived.Test.YtgjgeojhhglidaaDoorLayE
import Derived.Test.YtgjgeojhhglidaaDoorLayL
import Derived.Test.YtgjgeojhhglidaaDoorLayW8
import Derived.Test.YtgjgeojhhglidaaDoorFsArgs
import Derived.Test.YtgjgeojhhglidaaDoorLayF
namespace Go.Proofs.YtgjgeojhhglidaaDoor
open Go Go.RowKit Go.Lib

/-- The paths that are there, as a map keeps them. -/
def oneF (es : List Ent) : ByteArray → Option Value := fun p => if (findE es p).isSome then some (.int .i64 1) else none
theorem find_snoc (l : List Ent) (x : Ent) (p : ByteArray) : findE (l ++ [x]) p = if (findE l p).isSome then findE l p else if x.path = p then some x else none := by
  unfold findE
  rw [List.find?_append]
  cases h : List.find? (fun x => decide (x.path = p)) l with
  | some y => simp
  | none =>
    rw [List.find?_cons]
    by_cases e : x.path = p
    · simp [e]
    · simp [e]
theorem one_step {l : List Ent} {k : Nat} {x : Ent} (hx : l[k]? = some x) : oneF (l.take (k + 1)) = putAt (oneF (l.take k)) x.path (.int .i64 1) := by
  funext p
  unfold oneF putAt
  rw [List.take_add_one, hx, Option.toList_some, find_snoc]
  by_cases e : p = x.path
  · subst e
    rw [if_pos rfl, if_pos rfl]
    cases h : findE (List.take k l) x.path <;> simp
  · have e2 : ¬ x.path = p := fun h => e h.symm
    rw [if_neg e]
    cases h : findE (List.take k l) p <;> simp [e2, h]
def oddV (now : List Ent) (w : Ent) : Int := match findE now w.path with
  | none => 1
  | some x => if x.dir = w.dir then (if x.data = w.data then 0 else 1) else 2
def oddF (now want : List Ent) : ByteArray → Option Value := fun p => match findE want p with
  | some w => some (.int .i64 (oddV now w))
  | none => oneF now p
theorem odd_step {now want : List Ent} (hr : Rising want) {k : Nat} {x : Ent} (hx : want[k]? = some x) : oddF now (want.take (k + 1)) = putAt (oddF now (want.take k)) x.path (.int .i64 (oddV now x)) := by
  have hno : findE (want.take k) x.path = none := find_isNone fun y hy e => by
    obtain ⟨j, hj⟩ := List.mem_iff_getElem?.1 hy
    have hjk : j < k := by
      have := (List.getElem?_eq_some_iff.1 hj).1
      rw [List.length_take] at this
      omega
    rw [List.getElem?_take_of_lt hjk] at hj
    rw [rising_one hr (List.mem_of_getElem? hj) (List.mem_of_getElem? hx) e] at hj
    have := nodup_at (rising_nodup hr) hj hx
    omega
  funext p
  unfold oddF putAt
  rw [List.take_add_one, hx, Option.toList_some, find_snoc]
  by_cases e : p = x.path
  · subst e
    rw [if_pos rfl, if_pos rfl, hno]
    rfl
  · have e2 : ¬ x.path = p := fun h => e h.symm
    rw [if_neg e]
    cases h : findE (List.take k want) p <;> simp [e2, h]
theorem odd_same {now want : List Ent} (hr : Rising want) {k : Nat} {x y : Ent} (hx : want[k]? = some x) (hy : findE now x.path = some y) (hd : y.dir = x.dir) (ht : y.data ≠ x.data) : oddF now (want.take (k + 1)) = oddF now (want.take k) := by
  have hno : findE (want.take k) x.path = none := find_isNone fun y hy e => by
    obtain ⟨j, hj⟩ := List.mem_iff_getElem?.1 hy
    have hjk : j < k := by
      have := (List.getElem?_eq_some_iff.1 hj).1
      rw [List.length_take] at this
      omega
    rw [List.getElem?_take_of_lt hjk] at hj
    rw [rising_one hr (List.mem_of_getElem? hj) (List.mem_of_getElem? hx) e] at hj
    have := nodup_at (rising_nodup hr) hj hx
    omega
  rw [odd_step hr hx]
  funext p
  unfold putAt
  by_cases e : p = x.path
  · subst e
    rw [if_pos rfl]
    unfold oddF oddV oneF
    rw [hno, hy]
    simp [hd, ht]
  · rw [if_neg e]
theorem odd_get (now want : List Ent) (p : ByteArray) : (oddF now want p).getD (.int .i64 0) = .int .i64 (oddP now want p : Nat) := by
  unfold oddF oddP oneF
  cases h1 : findE want p with
  | none =>
    dsimp only
    cases h2 : findE now p <;> rfl
  | some w =>
    obtain ⟨_, e⟩ := find_some h1
    dsimp only
    unfold oddV
    rw [e]
    cases h2 : findE now p with
    | none => rfl
    | some x =>
      dsimp only
      split
      · split <;> rfl
      · rfl
theorem oddP_le (now want : List Ent) (p : ByteArray) : oddP now want p ≤ 2 := by
  unfold oddP
  split
  · split <;> omega
  · split
    · omega
    · split
      · split <;> omega
      · omega
/-- What is left of a path's oddness. -/
def LeftF (now want : List Ent) (l : List Act3) (g : ByteArray → Option Value) : Prop := ∀ p, (g p).getD (.int .i64 0) = .int .i64 ((oddP now want p : Nat) - (l.countP (atP p) : Nat) : Int)
theorem left_start (now want : List Ent) (l : List Act3) : LeftF now want (l.take 0) (oddF now want) := fun p => by
  rw [odd_get, List.take_zero]
  simp
theorem left_step {now want : List Ent} {l : List Act3} {k : Nat} {x : Act3} (hx : l[k]? = some x) {g : ByteArray → Option Value} (h : LeftF now want (l.take k) g) : LeftF now want (l.take (k + 1)) (putAt g x.path (.int .i64 ((oddP now want x.path : Nat) - ((l.take k).countP (atP x.path) : Nat) - 1 : Int))) := fun p => by
  have e1 : (l.take (k + 1)).countP (atP p) = (l.take k).countP (atP p) + if atP p x then 1 else 0 := by
    rw [List.take_add_one, hx, Option.toList_some, List.countP_append, List.countP_cons, List.countP_nil, Nat.zero_add]
  unfold putAt
  rw [e1]
  by_cases e : p = x.path
  · rw [if_pos e, e, if_pos (by unfold atP; exact decide_eq_true rfl)]
    rw [Option.getD_some]
    congr 1
    omega
  · rw [if_neg e, h p, if_neg (by
      unfold atP
      rw [decide_eq_true_eq]
      exact fun e2 => e e2.symm)]
    rfl
set_option maxRecDepth 100000 in
set_option maxHeartbeats 6400000 in
theorem law_layLeast (a : Option Addr) (cap : Nat) (xs : List Ask) (a2 : Option Addr) (cap2 : Nat) (want : List Ent) (w : World) (_ : xs.length ≤ 140737488351232) (ha : RowsAt askLay w a xs) (_ : want.length ≤ 140737488351232) (hb2 : RowsAt entLay w a2 want) (hm : MaxAt w) :
    Calls Tryd.prog 8 #[.slice a xs.length cap, .slice a2 want.length cap2] w fun e w' => e = .returned (.bool true) ∧ Below w.heap.size w w' := by
  have HN := Lib.hid (fnew_any w)
  have HAW := Lib.hid fun W => awake21_any W
  have HA := Lib.hid ha
  have HB := Lib.hid hb2
  clear ha hb2
  go_enter Tryd.func8, Tryd.ntmps8
  go_wp2_with fail
  refine HN.out.mono ?_
  rintro e w1 ⟨rfl, hF1, hb1, hs1⟩
  obtain ⟨fb, hfb⟩ : ∃ fb, fb = w.heap.size + 1 := ⟨_, rfl⟩
  obtain ⟨mb, hmb⟩ : ∃ mb, mb = w.heap.size := ⟨_, rfl⟩
  rw [← hfb] at hF1 ⊢
  rw [← hmb] at hF1
  have hfw : w.heap.size ≤ fb := by omega
  have hmw : w.heap.size ≤ mb := by omega
  clear hfb hmb hs1 HN
  by_cases hl1 : xs.length ≤ 60
  · have g1 : ¬ ((xs.length : Int) > 60) := by omega
    have HF := Lib.hid (few21_any a2 cap2 want w1 (HB.out.keeps hb1))
    cases hfe : fewE 500 5000 want with
    | false =>
      rw [hfe] at HF
      clear hfe
      go_wp2_with fail
      refine HF.out.mono ?_
      rintro e w2 ⟨rfl, rfl⟩
      go_wp2_with fail
      refine (HAW.out _).mono ?_
      rintro e wq ⟨rfl, hbq⟩
      go_wp2_with fail
      go_ret
      exact ⟨rfl, hb1.trans (hbq.mono hb1.size)⟩
    | true =>
      rw [hfe] at HF
      obtain ⟨hlw, hszw⟩ := fewE_parts hfe
      have HR := Lib.hid (wantR_any a2 cap2 want w1 hlw (fun x hx => (hszw x hx).1) (HB.out.keeps hb1) (hm.keeps hb1))
      clear hfe hszw
      go_wp2_with fail
      refine HF.out.mono ?_
      rintro e w2 ⟨rfl, rfl⟩
      clear HF
      go_wp2_with fail
      refine HR.out.mono ?_
      rintro e w2 ⟨bw, rfl, hbw, hb2⟩
      have hb2w := hb1.trans (hb2.mono hb1.size)
      have hF2 := hF1.below hb2
      clear HR hb1 hb2 hF1
      cases bw with
      | false =>
        clear hbw
        go_wp2_with fail
        refine (HAW.out _).mono ?_
        rintro e wq ⟨rfl, hbq⟩
        go_wp2_with fail
        go_ret
        exact ⟨rfl, hb2w.trans (hbq.mono hb2w.size)⟩
      | true =>
        have HW := Lib.hid (hbw rfl)
        clear hbw
        go_wp2_with fail
        go_loopw [6] (fun i wr => ∃ (k : Nat) (f : Fs) (mb : Nat), k ≤ xs.length ∧ i = .int .i64 k ∧ f.n ≤ k ∧ FAt wr fb mb f ∧ Hid (FsOK f ∧ IdsOK f) ∧ w.heap.size ≤ mb ∧ Below w.heap.size w wr) (fun i _ => xs.length - (RowKit.intOf i).toNat)
        case atStart => exact ⟨0, ⟨0, []⟩, mb, Nat.zero_le _, rfl, Nat.zero_le _, hF2, Lib.hid ⟨ok_new, ids_new⟩, hmw, hb2w⟩
        case round =>
          clear hmw hF2 hb2w mb
          obtain ⟨k, f, mb, hk, rfl, hnk, hF, Hok0, hmw, hb⟩ := hrel
          by_cases hlt : k < xs.length
          · obtain ⟨x, hx⟩ := at_some hlt
            obtain ⟨b, off, hae, hbl, c0, c1, c2, c3⟩ := ask_at (HA.out.keeps hb) hx
            subst hae
            have hlti : (k : Int) < (xs.length : Int) := by omega
            have Hst := Lib.hid (step_op Hok0.out.2 x)
            have Hok2 := Lib.hid (ok_op Hok0.out.1 x)
            have hopn := op_n Hok0.out.2 x
            have HDo := Lib.hid fun W hF hp ht hM => fdo_any fb mb f x W hF Hok0.out.1 (by omega) hp ht hM
            obtain ⟨r, hr⟩ : ∃ r, opF f x = r := ⟨_, rfl⟩
            rw [hr] at Hst Hok2 HDo hopn
            obtain ⟨f', er⟩ := r
            obtain ⟨xk, xp, xt, xd⟩ := x
            dsimp only at c0 c1 c2 c3 HDo hopn
            clear hx hr
            by_cases hp1 : xp.size ≤ 300
            · have g3 : ¬ ((xp.size : Int) > 300) := by omega
              by_cases hp2 : xt.size ≤ 300
              · have g4 : ¬ ((xt.size : Int) > 300) := by omega
                by_cases hp3 : xd.size ≤ 5000
                · have g5 : ¬ ((xd.size : Int) > 5000) := by omega
                  go_wp2_with fail
                  refine (HDo.out _ hF (by omega) (by omega) (hm.keeps hb)).mono ?_
                  rintro e w4 ⟨rfl, mb', hF4, hmb', ht4⟩
                  have hb4w := hb.trans (ht4.below hb.size (fun j hj e => by rcases e with rfl | rfl <;> omega))
                  have hmw4 : w.heap.size ≤ mb' := by
                    rcases hmb' with rfl | h1
                    · exact hmw
                    · exact Nat.le_trans hb.size h1
                  clear HDo hF hb ht4 hmb' hmw c0 c1 c2 c3
                  go_wp2_with fail
                  go_roundw
                  case rel => exact ⟨k + 1, f', mb', by omega, by go_num, by omega, hF4, Lib.hid ⟨Hok2.out, Hst.out.ids⟩, hmw4, hb4w⟩
                  case measure => simp [RowKit.intOf]; omega
                · have g5 : (xd.size : Int) > 5000 := by omega
                  go_wp2_with fail
                  refine (HAW.out _).mono ?_
                  rintro e wq ⟨rfl, hbq⟩
                  go_wp2_with fail
                  go_ret
                  exact ⟨rfl, hb.trans (hbq.mono hb.size)⟩
              · have g4 : (xt.size : Int) > 300 := by omega
                go_wp2_with fail
                refine (HAW.out _).mono ?_
                rintro e wq ⟨rfl, hbq⟩
                go_wp2_with fail
                go_ret
                exact ⟨rfl, hb.trans (hbq.mono hb.size)⟩
            · have g3 : (xp.size : Int) > 300 := by omega
              go_wp2_with fail
              refine (HAW.out _).mono ?_
              rintro e wq ⟨rfl, hbq⟩
              go_wp2_with fail
              go_ret
              exact ⟨rfl, hb.trans (hbq.mono hb.size)⟩
          · obtain rfl : k = xs.length := by omega
            obtain ⟨W9, hW9⟩ : ∃ W9, W9 = wr := ⟨_, rfl⟩
            rw [← hW9] at hF hb ⊢
            clear hW9 wr
            have hfn : f.n ≤ 60 := by omega
            have hfl : f.es.length ≤ 60 := Nat.le_trans (ids_len Hok0.out.1 Hok0.out.2) hfn
            have HL := Lib.hid (flist_any fb mb f W9 hF Hok0.out.1.rise Hok0.out.1.few (fun y hy => path_size (Hok0.out.1.path y hy)))
            have hfl1 := hF.1.1
            have hml1 := hF.2.lt
            clear hk hnk HA
            go_wp2_with fail
            refine HL.out.mono ?_
            rintro e w3 ⟨v3, rfl, hov3, hb3⟩
            obtain ⟨av, cv, rfl, hrow3, hcv, hlow3⟩ := own_low hov3
            have hb3w := hb.trans (hb3.mono hb.size)
            have hF3 := hF.below hb3
            have hz3 := hb3.size
            clear HL hov3 hF hb hb3
            have HW9 := HW.out
            have HR1 := Lib.hid hrow3
            have HR3 := Lib.hid (HB.out.keeps hb3w)
            have hpl := plan_len f.es want
            obtain ⟨bo, hbo⟩ : ∃ bo, bo = w3.heap.size := ⟨_, rfl⟩
            have hm0 : MapOf Value.string (w3.alloc (.map #[] 0)) bo 0 (oneF (f.es.take 0)) := by rw [hbo]; exact (MapOf.made _).congr (fun _ => rfl)
            have hbA := (Below.refl w3.heap.size w3).alloc (Nat.le_refl _) (.map #[] 0)
            have hbow : w3.heap.size ≤ bo := by rw [hbo]; exact Nat.le_refl _
            have hmm := @run_makeMap Tryd.prog
            have HPO := Lib.hid fun (k : Nat) (x : Act3) hx => plan_odd Hok0.out.1 HW9 (k := k) (a := x) hx
            have HWr := Lib.hid HW9.ok.rise
            have HGet := Lib.hid fun p W hF hp => fget_any fb mb f p W hF hp
            have HPl := Lib.hid fun W (h : Below w3.heap.size w3 W) => plan_any av a2 cv cap2 f.es want W (by omega) hlw (fun x hx => by have := path_size (Hok0.out.1.path x hx); omega) (hrow3.keeps h) ((HB.out.keeps hb3w).keeps h)
            have HZ := Lib.hid (show ∀ x ∈ want, x.path.size ≤ 400 from fun x hx => path_size (HW9.ok.path x hx))
            have Hfe := Lib.hid hF3
            have Hbo := Lib.hid hbo
            clear HW9 hrow3 hbo hF3
            go_wp2_with fail
            rw [← Hbo.out]
            go_loopw [9] (fun i wr => ∃ k : Nat, k ≤ f.es.length ∧ i = .int .i64 k ∧ MapOf Value.string wr bo k (oneF (f.es.take k)) ∧ Below w3.heap.size w3 wr) (fun i _ => f.es.length - (RowKit.intOf i).toNat)
            case atStart => exact ⟨0, Nat.zero_le _, rfl, hm0, hbA⟩
            case round =>
              clear hm0 hbA
              obtain ⟨k, hk, rfl, hmk, hb⟩ := hrel
              by_cases hlt : k < f.es.length
              · obtain ⟨x, hx⟩ := at_some hlt
                obtain ⟨b, off, hae, hbl, c0, c1, c2, c3⟩ := ent_at (HR1.out.keeps hb) hx
                subst hae
                have Hst := Lib.hid (one_step hx)
                obtain ⟨xp, xi, xd, xt⟩ := x
                dsimp only at c0 c1 c2 c3 Hst
                have hlti : (k : Int) < (f.es.length : Int) := by omega
                have hlt0 : (0 : Int) ≤ (k : Int) := by omega
                clear hx
                go_wp2_with (at_mapUpdate; refine wpList_mapUpdate_of rfl _ _ _ 50 rfl 9 3 mapK Tryd.underlying50 rfl hmk xp rfl _ rfl ?_)
                intro w6 hm6 hg6
                have hb6 := hb.grown hg6 hb.size (fun j ej => by cases ej; exact hbow)
                clear hg6
                go_wp2_with fail
                go_roundw
                case rel => exact ⟨k + 1, by omega, by go_num, by rw [Hst.out]; exact hm6, hb6⟩
                case measure => simp [RowKit.intOf]; omega
              · obtain rfl : k = f.es.length := by omega
                rw [List.take_length] at hmk
                obtain ⟨W6, rfl⟩ : ∃ W : World, W = wr := ⟨_, rfl⟩
                have hbB := hb
                have hmo := hmk.mono (show f.es.length ≤ 1000 by omega)
                clear hb hmk hlt hk
                go_wp2_with fail
                go_loopw [10] (fun i wr => ∃ k n : Nat, k ≤ want.length ∧ i = .int .i64 k ∧ MapOf Value.string wr bo n (oddF f.es (want.take k)) ∧ Below w3.heap.size w3 wr) (fun i _ => want.length - (RowKit.intOf i).toNat)
                case atStart => exact ⟨0, _, Nat.zero_le _, rfl, hmo.congr (fun _ => rfl), hbB⟩
                case round =>
                  clear hmo hbB
                  obtain ⟨k, nn, hk, rfl, hmk, hb⟩ := hrel
                  by_cases hlt : k < want.length
                  · obtain ⟨z, hz⟩ := at_some hlt
                    obtain ⟨b, off, hae, hbl, c0, c1, c2, c3⟩ := ent_at (HR3.out.keeps hb) hz
                    subst hae
                    have Hz := Lib.hid hz
                    have hzs := HZ.out z (List.mem_of_getElem? hz)
                    have HGp := Lib.hid (HGet.out z.path wr (Hfe.out.below hb) (by unfold maxLen; omega))
                    have Hst := Lib.hid (odd_step (now := f.es) HWr.out hz)
                    have Hsm := Lib.hid fun (y : Ent) (h1 : findE f.es z.path = some y) h2 h3 => odd_same HWr.out hz h1 h2 h3
                    have hlti : (k : Int) < (want.length : Int) := by omega
                    have hlt0 : (0 : Int) ≤ (k : Int) := by omega
                    obtain ⟨zp, zi, zd, zs⟩ := z
                    dsimp only at c0 c1 c2 c3 Hst Hsm HGp
                    clear hz hzs
                    have CE := Lib.hid fun (W : World) (h : Below wr.heap.size wr W) => (⟨(h.cell (p := ⟨b, off + k * 4, none⟩) hbl).trans c0, (h.cell (p := ⟨b, off + k * 4 + 2, none⟩) hbl).trans c2, (h.cell (p := ⟨b, off + k * 4 + 3, none⟩) hbl).trans c3⟩ : W.cell? ⟨b, off + k * 4, none⟩ = some (.string zp) ∧ W.cell? ⟨b, off + k * 4 + 2, none⟩ = some (.bool zd) ∧ W.cell? ⟨b, off + k * 4 + 3, none⟩ = some (.string zs))
                    have hmlt := hmk.lt
                    cases hf : findE f.es zp with
                    | none =>
                      rw [show getF f zp = (noEnt, 25) by unfold getF; rw [hf]] at HGp
                      rw [show oddV f.es ⟨zp, zi, zd, zs⟩ = 1 by unfold oddV; rw [hf]] at Hst
                      rw [show noEnt.val = .agg #[.string ⟨#[]⟩, .int .i64 0, .bool false, .string ⟨#[]⟩] from rfl] at HGp
                      dsimp only at HGp
                      clear hf Hsm
                      go_wp2_with fail
                      refine HGp.out.mono ?_
                      rintro e w7 ⟨rfl, hb7⟩
                      have hA := hb7.alloc hb7.size (.cells #[.string ⟨#[]⟩, .int .i64 0, .bool false, .string ⟨#[]⟩] 38)
                      obtain ⟨e0, e2, e3⟩ := CE.out _ hA
                      have hb8 := hb.trans (hA.mono hb.size)
                      have hm8 := (hmk.below hb7 hmlt).alloc (.cells #[.string ⟨#[]⟩, .int .i64 0, .bool false, .string ⟨#[]⟩] 38)
                      clear c0 c1 c2 c3 HGp hA hb7 hmk hb hmlt hbl
                      go_wp2_with (at_mapUpdate; refine wpList_mapUpdate_of rfl _ _ _ 50 rfl 9 3 mapK Tryd.underlying50 rfl hm8 zp rfl _ rfl ?_)
                      intro w9 hm9 hg9
                      have hb9 := hb8.grown hg9 hb8.size (fun j ej => by cases ej; exact hbow)
                      clear hg9
                      go_wp2_with fail
                      go_roundw
                      case rel => exact ⟨k + 1, _, by omega, by go_num, by rw [Hst.out]; exact hm9, hb9⟩
                      case measure => simp [RowKit.intOf]; omega
                    | some y =>
                      rw [show getF f zp = (y, 0) by unfold getF; rw [hf]] at HGp
                      replace Hsm := Lib.hid (Hsm.out y hf)
                      obtain ⟨yp, yi, yd, ys⟩ := y
                      rw [show Ent.val ⟨yp, yi, yd, ys⟩ = .agg #[.string yp, .int .i64 yi, .bool yd, .string ys] from rfl] at HGp
                      dsimp only at HGp Hsm
                      have Hf := Lib.hid hf
                      clear hf
                      have hV := fun W : World => VarAt.new W #[.string yp, .int .i64 yi, .bool yd, .string ys] 38
                      replace hV := Lib.hid hV
                      go_wp2_with fail
                      refine HGp.out.mono ?_
                      rintro e w7 ⟨rfl, hb7⟩
                      have hA := hb7.alloc hb7.size (.cells #[.string yp, .int .i64 yi, .bool yd, .string ys] 38)
                      obtain ⟨e0, e2, e3⟩ := CE.out _ hA
                      have hb8 := hb.trans (hA.mono hb.size)
                      have hm8 := (hmk.below hb7 hmlt).alloc (.cells #[.string yp, .int .i64 yi, .bool yd, .string ys] 38)
                      have hVy := hV.out w7
                      obtain ⟨yb, hyb⟩ : ∃ yb, yb = w7.heap.size := ⟨_, rfl⟩
                      rw [← hyb] at hVy
                      have Hyb := Lib.hid hyb
                      clear c0 c1 c2 c3 HGp hA hb7 hmk hb hmlt hbl hyb CE hV
                      go_upto_region 20 with fail
                      rw [← Hyb.out]
                      generalize w7.alloc (.cells #[.string yp, .int .i64 yi, .bool yd, .string ys] 38) = W8 at *
                      have y2 : W8.cell? ⟨yb, 2, none⟩ = some (.bool yd) := hVy.2.2 2 _ rfl
                      have y3 : W8.cell? ⟨yb, 3, none⟩ = some (.string ys) := hVy.2.2 3 _ rfl
                      clear hVy
                      by_cases hd : yd = zd
                      · subst hd
                        by_cases ht : ys = zs
                        · subst ht
                          have Hst2 := Lib.hid (show oddF f.es (want.take (k + 1)) = putAt (oddF f.es (want.take k)) zp (.int .i64 0) by
                            rw [Hst.out]
                            unfold oddV
                            rw [Hf.out]
                            simp)
                          clear Hst Hsm
                          go_wp2_with fail
                          go_quiet (fail)
                          go_wp2_with fail
                          go_quiet (fail)
                          go_wp2_with (at_mapUpdate; refine wpList_mapUpdate_of rfl _ _ _ 50 rfl 9 3 mapK Tryd.underlying50 rfl (hm8.of_block rfl) zp rfl _ rfl ?_)
                          intro w9 hm9 hg9
                          have hb9 := (belowDrew hb8 _).grown hg9 hb8.size (fun j ej => by cases ej; exact hbow)
                          clear hg9
                          go_wp2_with fail
                          go_roundw
                          case rel => exact ⟨k + 1, _, by omega, by go_num, by rw [Hst2.out]; exact hm9, hb9⟩
                          case measure => simp [RowKit.intOf]; omega
                        · have q1 := str_ne ht
                          have Hst2 := Lib.hid (Hsm.out rfl ht)
                          clear Hst Hsm ht
                          go_wp2_with fail
                          go_quiet (fail)
                          go_wp2_with fail
                          go_quiet (fail)
                          go_wp2_with fail
                          go_roundw
                          case rel => exact ⟨k + 1, _, by omega, by go_num, by rw [Hst2.out]; exact hm8.of_block rfl, belowDrew hb8 _⟩
                          case measure => simp [RowKit.intOf]; omega
                      · have q1 : (yd == zd) = false := beq_eq_false_iff_ne.2 hd
                        have q2 : (yd != zd) = true := bne_iff_ne.2 hd
                        have Hst2 := Lib.hid (show oddF f.es (want.take (k + 1)) = putAt (oddF f.es (want.take k)) zp (.int .i64 2) by
                          rw [Hst.out]
                          unfold oddV
                          rw [Hf.out]
                          dsimp only
                          rw [if_neg hd])
                        clear Hst Hsm hd
                        go_wp2_with fail
                        go_quiet (fail)
                        go_wp2_with (at_mapUpdate; refine wpList_mapUpdate_of rfl _ _ _ 50 rfl 9 3 mapK Tryd.underlying50 rfl (hm8.of_block rfl) zp rfl _ rfl ?_)
                        intro w9 hm9 hg9
                        have hb9 := (belowDrew hb8 _).grown hg9 hb8.size (fun j ej => by cases ej; exact hbow)
                        clear hg9
                        go_wp2_with fail
                        go_roundw
                        case rel => exact ⟨k + 1, _, by omega, by go_num, by rw [Hst2.out]; exact hm9, hb9⟩
                        case measure => simp [RowKit.intOf]; omega
                  · obtain rfl : k = want.length := by omega
                    rw [List.take_length] at hmk
                    obtain ⟨W7, rfl⟩ : ∃ W : World, W = wr := ⟨_, rfl⟩
                    have hbC := hb
                    clear hb hlt hk
                    go_wp2_with fail
                    refine (HPl.out _ hbC).mono ?_
                    rintro e w8 ⟨v8, rfl, hov8, hb8⟩
                    obtain ⟨ap, cp, rfl, hrp, hcp⟩ := hov8.read
                    have hbD := hbC.trans (hb8.mono hbC.size)
                    have hmD := hmk.below hb8 hmk.lt
                    have hmlt := hmD.lt
                    obtain ⟨pl, hpl2⟩ : ∃ pl, planA f.es want = pl := ⟨_, rfl⟩
                    have hov9 := hov8
                    rw [hpl2] at hov9 hpl HPO ⊢
                    have hbl7 := hmk.lt
                    have hbow8 := hb8.size
                    clear hpl2 hov8 hrp hb8 hmk HPl
                    obtain ⟨g0, hg0⟩ : ∃ g0, oddF f.es want = g0 := ⟨_, rfl⟩
                    have hLF := Lib.hid (left_start f.es want pl)
                    rw [hg0] at hmD hLF
                    clear hg0
                    go_wp2_with fail
                    go_loopw [14] (fun i wr => ∃ (k n : Nat) (g : ByteArray → Option Value), k ≤ pl.length ∧ i = .int .i64 k ∧ MapOf Value.string wr bo n g ∧ Hid (LeftF f.es want (pl.take k) g) ∧ OwnRows act3Lay wr W7.heap.size 54 (.slice ap pl.length cp) pl ∧ W7.heap.size ≤ wr.heap.size ∧ Below w3.heap.size w3 wr) (fun i _ => pl.length - (RowKit.intOf i).toNat)
                    case atStart => exact ⟨0, _, g0, Nat.zero_le _, rfl, hmD, hLF, hov9, hbow8, hbD⟩
                    case round =>
                      clear hmD hLF hov9 hbow8 hbD hmlt
                      obtain ⟨k, nn, g, hk, rfl, hmk, HLF, hov, hsz, hb⟩ := hrel
                      by_cases hlt : k < pl.length
                      · obtain ⟨x, hx⟩ := at_some hlt
                        obtain ⟨a', c', hae, hrr, _⟩ := hov.read
                        cases hae
                        obtain ⟨b, off, hae, hbl, c0, c1, c2⟩ := act3_at hrr hx
                        subst hae
                        have hod := HPO.out k x hx
                        have ho2 := oddP_le f.es want x.path
                        have Hst := Lib.hid (left_step hx HLF.out)
                        have hlk := hmk.lookup mapK Tryd.underlying50 x.path (zeroInt _)
                        rw [HLF.out x.path] at hlk
                        obtain ⟨c, hc⟩ : ∃ c : Int, ((oddP f.es want x.path : Nat) : Int) - ((List.countP (atP x.path) (pl.take k) : Nat) : Int) = c := ⟨_, rfl⟩
                        rw [hc] at hlk Hst
                        have hc1 : 1 ≤ c := by omega
                        have hc2 : c ≤ 2 := by omega
                        have q1 : ¬ c < 1 := by omega
                        clear hc hod ho2 hx HLF
                        obtain ⟨xk, xp, xd⟩ := x
                        dsimp only at c0 c1 c2 hlk Hst
                        have hlti : (k : Int) < (pl.length : Int) := by omega
                        have hlt0 : (0 : Int) ≤ (k : Int) := by omega
                        go_wp2_with (at_mapUpdate; refine wpList_mapUpdate_of rfl _ _ _ 50 rfl 9 3 mapK Tryd.underlying50 rfl hmk xp rfl _ rfl ?_)
                        intro w9 hm9 hg9
                        have hb9 := hb.grown hg9 hb.size (fun j ej => by cases ej; exact hbow)
                        have hov9 := hov.kept hg9 (.inr (fun e => by
                          have := (hov.lt e).1
                          omega))
                        have hsz9 := Nat.le_trans hsz hg9.size
                        clear hg9 hov hsz hb hlk c0 c1 c2 hmk hrr
                        go_wp2_with fail
                        go_roundw
                        case rel => exact ⟨k + 1, _, _, by omega, by go_num, hm9, Hst, hov9, hsz9, hb9⟩
                        case measure => simp [RowKit.intOf]; omega
                      · obtain rfl : k = pl.length := by omega
                        have hbE := hb3w.trans (hb.mono hb3w.size)
                        go_wp2_with fail
                        refine (HAW.out _).mono ?_
                        rintro e wq ⟨rfl, hbq⟩
                        go_wp2_with fail
                        go_ret
                        exact ⟨rfl, hbE.trans (hbq.mono hbE.size)⟩
  · have g1 : (xs.length : Int) > 60 := by omega
    go_wp2_with fail
    refine (HAW.out _).mono ?_
    rintro e wq ⟨rfl, hbq⟩
    go_wp2_with fail
    go_ret
    exact ⟨rfl, hb1.trans (hbq.mono hb1.size)⟩
end Go.Proofs.YtgjgeojhhglidaaDoor
