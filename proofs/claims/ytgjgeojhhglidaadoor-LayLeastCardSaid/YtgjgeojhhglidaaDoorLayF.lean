/-
  LayMakes.
-/
import Derived.Test.YtgjgeojhhglidaaDoorLayE
import Derived.Test.YtgjgeojhhglidaaDoorLayL
import Derived.Test.YtgjgeojhhglidaaDoorLayW8
import Derived.Test.YtgjgeojhhglidaaDoorFsArgs
namespace Go.Proofs.YtgjgeojhhglidaaDoor
open Go Go.RowKit Go.Lib

theorem ids_len {f : Fs} (hf : FsOK f) (hi : IdsOK f) : f.es.length ≤ f.n := by
  have h1 : (f.es.map (·.id)).Nodup := by
    refine List.pairwise_map.2 ((rising_nodup hf.rise).imp_of_mem fun {a b} ha hb hne e => hne (hi.one a ha b hb e))
  have h2 := nodup_len (m := (List.range f.n).map (fun (k : Nat) => (k : Int) + 1)) h1 fun x hx => by
    obtain ⟨e, he, rfl⟩ := List.mem_map.1 hx
    have := hi.low e he
    exact List.mem_map.2 ⟨(e.id - 1).toNat, List.mem_range.2 (by omega), by show ((e.id - 1).toNat : Int) + 1 = e.id; omega⟩
  rw [List.length_map, List.length_map, List.length_range] at h2
  exact h2
theorem plan_paths (now want : List Ent) : ∀ a ∈ planA now want, (∃ x ∈ now, x.path = a.path) ∨ ∃ x ∈ want, x.path = a.path := by
  have p1 : ∀ k, ∀ a ∈ remA now want k, (∃ x ∈ now, x.path = a.path) ∨ ∃ x ∈ want, x.path = a.path := by
    intro k
    induction k with
    | zero => exact fun a h => nomatch h
    | succ k ih =>
      intro a h
      unfold remA at h
      split at h
      · rename_i x hx
        split at h
        · rcases List.mem_append.1 h with h | h
          · exact ih a h
          · rw [List.mem_singleton.1 h]
            exact .inl ⟨x, List.mem_of_getElem? hx, rfl⟩
        · exact ih a h
      · exact ih a h
  have p2 : ∀ k, ∀ a ∈ mkA now want k, (∃ x ∈ now, x.path = a.path) ∨ ∃ x ∈ want, x.path = a.path := by
    intro k
    induction k with
    | zero => exact p1 _
    | succ k ih =>
      intro a h
      unfold mkA at h
      split at h
      · rename_i x hx
        split at h
        · rcases List.mem_append.1 h with h | h
          · exact ih a h
          · rw [List.mem_singleton.1 h]
            exact .inr ⟨x, List.mem_of_getElem? hx, rfl⟩
        · exact ih a h
      · exact ih a h
  have p3 : ∀ k, ∀ a ∈ wrA now want k, (∃ x ∈ now, x.path = a.path) ∨ ∃ x ∈ want, x.path = a.path := by
    intro k
    induction k with
    | zero => exact p2 _
    | succ k ih =>
      intro a h
      unfold wrA at h
      split at h
      · rename_i x hx
        split at h
        · rcases List.mem_append.1 h with h | h
          · exact ih a h
          · rw [List.mem_singleton.1 h]
            exact .inr ⟨x, List.mem_of_getElem? hx, rfl⟩
        · exact ih a h
      · exact ih a h
  exact p3 _
theorem plan_len (now want : List Ent) : (planA now want).length ≤ now.length + want.length + want.length := wrA_length _ _ _
theorem makes_cases {f : Fs} (hf : FsOK f) (hfi : IdsOK f) {want : List Ent} (hw : RightW want) : ∃ g : Fs, doF f (planA f.es want) = (g, 0) ∧ FsOK g ∧ g.es.length = want.length ∧ (∀ (k : Nat) (y z : Ent), g.es[k]? = some y → want[k]? = some z → y.path = z.path ∧ y.dir = z.dir ∧ y.data = z.data) ∧ (∀ x ∈ f.es, ∀ e ∈ g.es, x.path = e.path → x.dir = e.dir → x.id = e.id) ∧ planA g.es want = [] := by
  obtain ⟨h1, h2, h3, h4⟩ := plan_makes hf hfi hw
  refine ⟨(doF f (planA f.es want)).1, Prod.ext rfl h1, ok_do _ hf, ?_, fun k y z hy hz => ?_, h3, h4⟩
  · have := congrArg List.length h2
    rwa [List.length_map, List.length_map] at this
  · have := congrArg (fun l => l[k]?) h2
    rw [List.getElem?_map, List.getElem?_map, hy, hz] at this
    have h5 := Option.some.inj this
    unfold bareE at h5
    injection h5 with e1 _ e2 e3
    exact ⟨e1, e2, e3⟩
set_option maxRecDepth 100000 in
set_option maxHeartbeats 6400000 in
theorem law_layMakes (a : Option Addr) (cap : Nat) (xs : List Ask) (a2 : Option Addr) (cap2 : Nat) (want : List Ent) (w : World) (_ : xs.length ≤ 140737488351232) (ha : RowsAt askLay w a xs) (_ : want.length ≤ 140737488351232) (hb2 : RowsAt entLay w a2 want) (hm : MaxAt w) :
    Calls Tryd.prog 12 #[.slice a xs.length cap, .slice a2 want.length cap2] w fun e w' => e = .returned (.bool true) ∧ Below w.heap.size w w' := by
  have HN := Lib.hid (fnew_any w)
  have HAW := Lib.hid fun W => awake21_any W
  have HA := Lib.hid ha
  have HB := Lib.hid hb2
  clear ha hb2
  go_enter Tryd.func12, Tryd.ntmps12
  go_wp2_with fail
  refine HN.out.mono ?_
  rintro e w1 ⟨rfl, hF1, hb1, hs1⟩
  obtain ⟨fb, hfb⟩ : ∃ fb, fb = w.heap.size + 1 := ⟨_, rfl⟩
  obtain ⟨mb, hmb⟩ : ∃ mb, mb = w.heap.size := ⟨_, rfl⟩
  rw [← hfb] at hF1 ⊢
  rw [← hmb] at hF1
  have hfw : w.heap.size ≤ fb := by omega
  have hmw : w.heap.size ≤ mb := by omega
  clear hfb hmb hs1 HN
  by_cases hl1 : xs.length ≤ 60
  · have g1 : ¬ ((xs.length : Int) > 60) := by omega
    have HF := Lib.hid (few21_any a2 cap2 want w1 (HB.out.keeps hb1))
    cases hfe : fewE 500 5000 want with
    | false =>
      rw [hfe] at HF
      clear hfe
      go_wp2_with fail
      refine HF.out.mono ?_
      rintro e w2 ⟨rfl, rfl⟩
      go_wp2_with fail
      refine (HAW.out _).mono ?_
      rintro e wq ⟨rfl, hbq⟩
      go_wp2_with fail
      go_ret
      exact ⟨rfl, hb1.trans (hbq.mono hb1.size)⟩
    | true =>
      rw [hfe] at HF
      obtain ⟨hlw, hszw⟩ := fewE_parts hfe
      have HR := Lib.hid (wantR_any a2 cap2 want w1 hlw (fun x hx => (hszw x hx).1) (HB.out.keeps hb1) (hm.keeps hb1))
      clear hfe hszw
      go_wp2_with fail
      refine HF.out.mono ?_
      rintro e w2 ⟨rfl, rfl⟩
      clear HF
      go_wp2_with fail
      refine HR.out.mono ?_
      rintro e w2 ⟨bw, rfl, hbw, hb2⟩
      have hb2w := hb1.trans (hb2.mono hb1.size)
      have hF2 := hF1.below hb2
      clear HR hb1 hb2 hF1
      cases bw with
      | false =>
        clear hbw
        go_wp2_with fail
        refine (HAW.out _).mono ?_
        rintro e wq ⟨rfl, hbq⟩
        go_wp2_with fail
        go_ret
        exact ⟨rfl, hb2w.trans (hbq.mono hb2w.size)⟩
      | true =>
        have HW := Lib.hid (hbw rfl)
        clear hbw
        go_wp2_with fail
        go_loopw [6] (fun i wr => ∃ (k : Nat) (f : Fs) (mb : Nat), k ≤ xs.length ∧ i = .int .i64 k ∧ f.n ≤ k ∧ FAt wr fb mb f ∧ Hid (FsOK f ∧ IdsOK f) ∧ w.heap.size ≤ mb ∧ Below w.heap.size w wr) (fun i _ => xs.length - (RowKit.intOf i).toNat)
        case atStart => exact ⟨0, ⟨0, []⟩, mb, Nat.zero_le _, rfl, Nat.zero_le _, hF2, Lib.hid ⟨ok_new, ids_new⟩, hmw, hb2w⟩
        case round =>
          clear hmw hF2 hb2w mb
          obtain ⟨k, f, mb, hk, rfl, hnk, hF, Hok0, hmw, hb⟩ := hrel
          by_cases hlt : k < xs.length
          · obtain ⟨x, hx⟩ := at_some hlt
            obtain ⟨b, off, hae, hbl, c0, c1, c2, c3⟩ := ask_at (HA.out.keeps hb) hx
            subst hae
            have hlti : (k : Int) < (xs.length : Int) := by omega
            have Hst := Lib.hid (step_op Hok0.out.2 x)
            have Hok2 := Lib.hid (ok_op Hok0.out.1 x)
            have hopn := op_n Hok0.out.2 x
            have HDo := Lib.hid fun W hF hp ht hM => fdo_any fb mb f x W hF Hok0.out.1 (by omega) hp ht hM
            obtain ⟨r, hr⟩ : ∃ r, opF f x = r := ⟨_, rfl⟩
            rw [hr] at Hst Hok2 HDo hopn
            obtain ⟨f', er⟩ := r
            obtain ⟨xk, xp, xt, xd⟩ := x
            dsimp only at c0 c1 c2 c3 HDo hopn
            clear hx hr
            by_cases hp1 : xp.size ≤ 300
            · have g3 : ¬ ((xp.size : Int) > 300) := by omega
              by_cases hp2 : xt.size ≤ 300
              · have g4 : ¬ ((xt.size : Int) > 300) := by omega
                by_cases hp3 : xd.size ≤ 5000
                · have g5 : ¬ ((xd.size : Int) > 5000) := by omega
                  go_wp2_with fail
                  refine (HDo.out _ hF (by omega) (by omega) (hm.keeps hb)).mono ?_
                  rintro e w4 ⟨rfl, mb', hF4, hmb', ht4⟩
                  have hb4w := hb.trans (ht4.below hb.size (fun j hj e => by rcases e with rfl | rfl <;> omega))
                  have hmw4 : w.heap.size ≤ mb' := by
                    rcases hmb' with rfl | h1
                    · exact hmw
                    · exact Nat.le_trans hb.size h1
                  clear HDo hF hb ht4 hmb' hmw c0 c1 c2 c3
                  go_wp2_with fail
                  go_roundw
                  case rel => exact ⟨k + 1, f', mb', by omega, by go_num, by omega, hF4, Lib.hid ⟨Hok2.out, Hst.out.ids⟩, hmw4, hb4w⟩
                  case measure => simp [RowKit.intOf]; omega
                · have g5 : (xd.size : Int) > 5000 := by omega
                  go_wp2_with fail
                  refine (HAW.out _).mono ?_
                  rintro e wq ⟨rfl, hbq⟩
                  go_wp2_with fail
                  go_ret
                  exact ⟨rfl, hb.trans (hbq.mono hb.size)⟩
              · have g4 : (xt.size : Int) > 300 := by omega
                go_wp2_with fail
                refine (HAW.out _).mono ?_
                rintro e wq ⟨rfl, hbq⟩
                go_wp2_with fail
                go_ret
                exact ⟨rfl, hb.trans (hbq.mono hb.size)⟩
            · have g3 : (xp.size : Int) > 300 := by omega
              go_wp2_with fail
              refine (HAW.out _).mono ?_
              rintro e wq ⟨rfl, hbq⟩
              go_wp2_with fail
              go_ret
              exact ⟨rfl, hb.trans (hbq.mono hb.size)⟩
          · obtain rfl : k = xs.length := by omega
            obtain ⟨W9, hW9⟩ : ∃ W9, W9 = wr := ⟨_, rfl⟩
            rw [← hW9] at hF hb ⊢
            clear hW9 wr
            have hfn : f.n ≤ 60 := by omega
            have hfl : f.es.length ≤ 60 := Nat.le_trans (ids_len Hok0.out.1 Hok0.out.2) hfn
            have HL := Lib.hid (flist_any fb mb f W9 hF Hok0.out.1.rise Hok0.out.1.few (fun y hy => path_size (Hok0.out.1.path y hy)))
            have hfl1 := hF.1.1
            have hml1 := hF.2.lt
            clear hk hnk HA
            go_wp2_with fail
            refine HL.out.mono ?_
            rintro e w3 ⟨v3, rfl, hov3, hb3⟩
            obtain ⟨av, cv, rfl, hrow3, hcv, hlow3⟩ := own_low hov3
            have hb3w := hb.trans (hb3.mono hb.size)
            have hF3 := hF.below hb3
            have hz3 := hb3.size
            clear HL hov3 hF hb hb3
            have HW9 := HW.out
            have HPl := Lib.hid (plan_any av a2 cv cap2 f.es want w3 (by omega) hlw (fun x hx => by have := path_size (Hok0.out.1.path x hx); omega) hrow3 (HB.out.keeps hb3w))
            obtain ⟨g, hdo, hgok, hgl, hgat, hgid, hgpl⟩ := makes_cases Hok0.out.1 Hok0.out.2 HW9
            have hgok' := hgok
            have Hgat := Lib.hid hgat
            have Hgid := Lib.hid hgid
            have Hgpl := Lib.hid hgpl
            have Hgok := Lib.hid hgok
            have Hgl := Lib.hid hgl
            have Hdo := Lib.hid hdo
            have hpz : ∀ x ∈ planA f.es want, x.path.size ≤ 100000 := fun x hx => by
              rcases plan_paths _ _ x hx with ⟨y, hy, e⟩ | ⟨y, hy, e⟩
              · have := path_size (Hok0.out.1.path y hy)
                rw [e] at this
                omega
              · have := path_size (HW9.ok.path y hy)
                rw [e] at this
                omega
            have Hpz := Lib.hid hpz
            have hpl := plan_len f.es want
            clear HW9 hdo hgok hgl hgat hgid hgpl hgok' hpz
            go_wp2_with fail
            refine HPl.out.mono ?_
            rintro e w4 ⟨v4, rfl, hov4, hb4⟩
            obtain ⟨ap, cp, rfl, hrp, hcp, hlp⟩ := own_low hov4
            have hb4w := hb3w.trans (hb4.mono hb3w.size)
            have hF4 := hF3.below hb4
            have hz4 := hb4.size
            have HLa := lays_any fb mb f ap cp (planA f.es want) w4 hF4 Hok0.out.1 Hok0.out.2 (by omega) (by omega) Hpz.out (hm.keeps hb4w) hrp (fun _ ad e => by
              have := (hlp ad e).1
              rintro (e2 | e2) <;> omega) (by
              have := hm.lt
              rintro (e2 | e2) <;> omega)
            rw [Hdo.out] at HLa
            dsimp only at HLa
            replace HLa := Lib.hid HLa
            have hrow4 := hrow3.keeps hb4
            generalize planA f.es want = pl at *
            clear HPl hov4 hF3 hF4 hrow3 hb4 hrp hlp
            go_wp2_with fail
            refine HLa.out.mono ?_
            rintro e w5 ⟨rfl, hF5, ht5⟩
            have hb5w := hb4w.trans (ht5.below hb4w.size (fun j hj (e : j = fb ∨ j = mb) => by omega))
            have hrow5 := hrow4.turned2 ht5 (fun ad e _ (e2 : ad.block = fb ∨ ad.block = mb) => by have := (hlow3 ad e).1; omega)
            have HL := Lib.hid (flist_any fb mb g w5 hF5 Hgok.out.rise Hgok.out.few (fun y hy => path_size (Hgok.out.path y hy)))
            clear HLa hrow4 ht5 hlow3 hF5
            go_wp2_with fail
            refine HL.out.mono ?_
            rintro e w6 ⟨v6, rfl, hov6, hb6⟩
            obtain ⟨al, cl, rfl, hrl, hcl⟩ := hov6.read
            have hb6w := hb5w.trans (hb6.mono hb5w.size)
            have HR1 := Lib.hid (hrow5.keeps hb6)
            have HR2 := Lib.hid hrl
            have HR3 := Lib.hid (HB.out.keeps hb6w)
            have hq : ((g.es.length : Int) != (want.length : Int)) = false := by rw [Hgl.out]; simp
            have HPl := Lib.hid fun n => plan_any al a2 cl cap2 g.es want (w6.drewN n) (by have := Hgl.out; omega) hlw (fun x hx => by have := path_size (Hgok.out.path x hx); omega) (HR2.out.keeps (belowDrew (Below.refl _ w6) n)) (HR3.out.keeps (belowDrew (Below.refl _ w6) n))
            clear HL hov6 hrl hrow5 hb6 hb5w hb4w hb3w
            go_wp2_with fail
            go_loopw [9] (fun i wr => ∃ k : Nat, k ≤ g.es.length ∧ i = .int .i64 k ∧ ∃ n, wr = w6.drewN n) (fun i _ => g.es.length - (RowKit.intOf i).toNat)
            case atStart => exact ⟨0, Nat.zero_le _, rfl, Drawn.refl _⟩
            case round =>
              obtain ⟨k, hk, rfl, n, rfl⟩ := hrel
              by_cases hlt : k < g.es.length
              · obtain ⟨y, hy⟩ := at_some hlt
                obtain ⟨z, hz⟩ := at_some (show k < want.length by have := Hgl.out; omega)
                obtain ⟨by', oy, ey, hby, c0, c1, c2, c3⟩ := ent_at HR2.out hy
                obtain ⟨bz, oz, ez, hbz, d0, d1, d2, d3⟩ := ent_at HR3.out hz
                subst ey
                subst ez
                obtain ⟨s1, s2, s3⟩ := Hgat.out k y z hy hz
                have Hy := Lib.hid hy
                have hlti : (k : Int) < (g.es.length : Int) := by omega
                have hltj : (k : Int) < (want.length : Int) := by have := Hgl.out; omega
                have hlt0 : (0 : Int) ≤ (k : Int) := by omega
                obtain ⟨yp, yi, yd, ys⟩ := y
                obtain ⟨zp, zi, zd, zs⟩ := z
                dsimp only at c0 c1 c2 c3 d0 d1 d2 d3 s1 s2 s3
                subst s1 s2 s3
                clear hy hz hq
                go_wp2_with fail
                go_quiet (fail)
                clear d0 d1 d2 d3
                obtain ⟨N1, hN1⟩ : ∃ N1, (w6.drewN n).drewN nq = w6.drewN N1 := ⟨n + nq, by simp⟩
                try rw [hN1]
                clear hN1
                go_wp2_with fail
                go_loopw [10] (fun i wr => ∃ m : Nat, m ≤ f.es.length ∧ i = .int .i64 m ∧ ∃ n, wr = w6.drewN n) (fun i _ => f.es.length - (RowKit.intOf i).toNat)
                case atStart => exact ⟨0, Nat.zero_le _, rfl, _, rfl⟩
                case round =>
                  obtain ⟨m, hm2, rfl, n2, rfl⟩ := hrel
                  by_cases hml : m < f.es.length
                  · obtain ⟨x, hx⟩ := at_some hml
                    obtain ⟨bx, ox, ex, hbx, d0, d1, d2, d3⟩ := ent_at HR1.out hx
                    subst ex
                    have hsame := Hgid.out x (List.mem_of_getElem? hx) _ (List.mem_of_getElem? Hy.out)
                    have hmi : (m : Int) < (f.es.length : Int) := by omega
                    have hmi0 : (0 : Int) ≤ (m : Int) := by omega
                    obtain ⟨xp, xi, xd, xs'⟩ := x
                    dsimp only at d0 d1 d2 d3 hsame
                    have Hsame := Lib.hid hsame
                    clear hx hsame
                    by_cases hp : xp = yp
                    · by_cases hd : xd = yd
                      · have hi := Hsame.out hp hd
                        subst hp hd hi
                        clear Hsame
                        go_wp2_with fail
                        go_quiet (fail)
                        go_wp2_with fail
                        go_roundw
                        case rel => exact ⟨m + 1, by omega, by go_num, n2 + nq, by simp⟩
                        case measure => simp [RowKit.intOf]; omega
                      · subst hp
                        have e2 : (xd == yd) = false := beq_eq_false_iff_ne.2 hd
                        clear Hsame hd
                        go_wp2_with fail
                        go_quiet (fail)
                        go_wp2_with fail
                        go_roundw
                        case rel => exact ⟨m + 1, by omega, by go_num, n2 + nq, by simp⟩
                        case measure => simp [RowKit.intOf]; omega
                    · have e1 := str_ne hp
                      clear Hsame hp
                      go_wp2_with fail
                      go_quiet (fail)
                      go_wp2_with fail
                      go_roundw
                      case rel => exact ⟨m + 1, by omega, by go_num, n2 + nq, by simp⟩
                      case measure => simp [RowKit.intOf]; omega
                  · obtain rfl : m = f.es.length := by omega
                    go_wp2_with fail
                    go_roundw
                    case rel => exact ⟨k + 1, by omega, by go_num, _, rfl⟩
                    case measure => simp [RowKit.intOf]; omega
              · obtain rfl : k = g.es.length := by omega
                have hbn := belowDrew hb6w n
                have HQ := HPl.out n
                rw [Hgpl.out] at HQ
                replace HQ := Lib.hid HQ
                clear HPl hq
                generalize w6.drewN n = w7 at *
                go_wp2_with fail
                refine HQ.out.mono ?_
                rintro e w8 ⟨v8, rfl, hov8, hb8⟩
                obtain ⟨ae, ce, rfl, _, _⟩ := hov8.read
                have hb8w := hbn.trans (hb8.mono hbn.size)
                rw [List.length_nil]
                go_wp2_with fail
                refine (HAW.out _).mono ?_
                rintro e wq ⟨rfl, hbq⟩
                go_wp2_with fail
                go_ret
                exact ⟨rfl, hb8w.trans (hbq.mono hb8w.size)⟩
  · have g1 : (xs.length : Int) > 60 := by omega
    go_wp2_with fail
    refine (HAW.out _).mono ?_
    rintro e wq ⟨rfl, hbq⟩
    go_wp2_with fail
    go_ret
    exact ⟨rfl, hb1.trans (hbq.mono hb1.size)⟩
end Go.Proofs.YtgjgeojhhglidaaDoor
