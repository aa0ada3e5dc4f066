/-
  FilesRight.
-/
import Derived.Test.YtgjgeojhhglidaaDoorFsX4
import Derived.Test.YtgjgeojhhglidaaDoorMaps
import Derived.BigQuiet
import Derived.Deep.CutRange
import Derived.Laws.Cover1
namespace Go.Proofs.YtgjgeojhhglidaaDoor
open Go Go.RowKit Go.Lib

/-- Does an entry have a number? -/
def idIn (es : List Ent) (c : Int) : Bool := es.any fun x => decide (x.id = c)
def yesI (f : Int → Bool) : Int → Option Value := fun c => if f c then some (.bool true) else none
theorem yesI_get (f : Int → Bool) (c : Int) : (yesI f c).getD (.bool false) = .bool (f c) := by
  unfold yesI
  cases f c <;> rfl
theorem idIn_snoc (l : List Ent) (x : Ent) (c : Int) : idIn (l ++ [x]) c = (idIn l c || decide (x.id = c)) := by
  unfold idIn
  rw [List.any_append, List.any_cons, List.any_nil, Bool.or_false]
theorem yesI_put (l : List Ent) (x : Ent) (c : Int) : yesI (idIn (l ++ [x])) c = putAt (yesI (idIn l)) x.id (.bool true) c := by
  unfold yesI putAt
  rw [idIn_snoc]
  by_cases h : c = x.id
  · rw [if_pos h, decide_eq_true h.symm, Bool.or_true, if_pos rfl]
  · rw [if_neg h, decide_eq_false (fun e => h e.symm), Bool.or_false]
theorem yesI_nil (c : Int) : yesI (idIn []) c = none := rfl
theorem idIn_iff {l : List Ent} {c : Int} : idIn l c = true ↔ ∃ x ∈ l, x.id = c := by
  unfold idIn
  rw [List.any_eq_true]
  constructor
  · rintro ⟨x, hx, h⟩
    exact ⟨x, hx, of_decide_eq_true h⟩
  · rintro ⟨x, hx, h⟩
    exact ⟨x, hx, decide_eq_true h⟩
theorem seen_no {f : Fs} (hok : FsOK f) (h : IdsOK f) {k : Nat} {x : Ent} (hx : f.es[k]? = some x) : idIn (f.es.take k) x.id = false := by
  refine bool_f fun e => ?_
  obtain ⟨y, hy, e2⟩ := idIn_iff.1 e
  obtain ⟨j, hj⟩ := List.mem_iff_getElem?.1 hy
  have hj2 := (List.getElem?_eq_some_iff.1 hj).1
  rw [List.length_take] at hj2
  rw [List.getElem?_take_of_lt (by omega)] at hj
  have := h.one y (List.mem_of_getElem? hj) x (List.mem_of_getElem? hx) e2
  rw [this] at hj
  have := nodup_at (rising_nodup hok.rise) hj hx
  omega
theorem dir_size (p : ByteArray) : (dirE p).size ≤ p.size := by
  unfold dirE
  split
  · exact Nat.zero_le _
  · rw [ByteArray.size_extract]
    omega
def topK (n : Int) (es : List Ent) : Int := es.foldl (fun t x => max t x.id) n
theorem topK_snoc (n : Int) (l : List Ent) (x : Ent) : topK n (l ++ [x]) = max (topK n l) x.id := by
  unfold topK
  rw [List.foldl_append]
  rfl
theorem topK_le : ∀ (es : List Ent) (n m : Int), n ≤ m → (∀ x ∈ es, x.id ≤ m) → topK n es ≤ m
  | [], _, _, h, _ => h
  | x :: r, n, m, h, h2 => topK_le r (max n x.id) m (by have := h2 x List.mem_cons_self; omega) (fun y hy => h2 y (List.mem_cons_of_mem _ hy))
theorem topK_ge : ∀ (es : List Ent) (n : Int), n ≤ topK n es
  | [], n => Int.le_refl n
  | x :: r, n => Int.le_trans (by omega) (topK_ge r (max n x.id))
theorem topK_mem : ∀ (es : List Ent) (n : Int) (x : Ent), x ∈ es → x.id ≤ topK n es
  | y :: r, n, x, h => by
    rcases List.mem_cons.1 h with rfl | h
    · exact Int.le_trans (by omega) (topK_ge r (max n x.id))
    · exact topK_mem r _ x h
theorem top_all {f : Fs} {r : Fs × Int} (h : StepOK f r) : topK (f.n : Int) r.1.es = r.1.n := by
  have hle : topK (f.n : Int) r.1.es ≤ r.1.n := topK_le _ _ _ (by rcases h.num with h1 | ⟨h1, _⟩ <;> omega) (fun x hx => (h.ids.low x hx).2)
  rcases h.num with h1 | ⟨h1, y, hy, h2⟩
  · have := topK_ge r.1.es (f.n : Int)
    omega
  · have := topK_mem r.1.es (f.n : Int) y hy
    omega
theorem rising_at {es : List Ent} (h : Rising es) {k : Nat} {x y : Ent} (hx : es[k]? = some x) (hy : es[k + 1]? = some y) : Op.bytesLess x.path.toList y.path.toList = true := by
  obtain ⟨hx1, hx2⟩ := List.getElem?_eq_some_iff.1 hx
  obtain ⟨hy1, hy2⟩ := List.getElem?_eq_some_iff.1 hy
  have := List.pairwise_iff_getElem.1 h k (k + 1) hx1 hy1 (Nat.lt_succ_self k)
  rw [hx2, hy2] at this
  rw [less_before, toList_data, toList_data]
  exact this
theorem dir_up {f : Fs} (h : FsOK f) {x : Ent} (hx : x ∈ f.es) (hd : dirE x.path ≠ ⟨#[]⟩) : ∃ u, findE f.es (dirE x.path) = some u ∧ u.dir = true := by
  have h1 := (stands_of h.rise).1 (h.up x hx)
  unfold dirE at *
  split
  · rename_i h2
    rw [if_pos h2] at hd
    exact absurd rfl hd
  · rename_i h2
    obtain ⟨u, hu, e, hd2⟩ := h1.resolve_left h2
    rw [← e]
    exact ⟨u, find_of h.rise hu, hd2⟩
theorem own_low {α : Type} {L : Lay α} {w : World} {base : Nat} {e : TypeId} {v : Value} {xs : List α} (h : OwnRows L w base e v xs) : ∃ a cap, v = .slice a xs.length cap ∧ RowsAt L w a xs ∧ xs.length ≤ cap ∧ ∀ ad, a = some ad → base ≤ ad.block ∧ ad.block < w.heap.size := by
  obtain ⟨a, cap, rfl, h1, h2⟩ := h.read
  refine ⟨a, cap, rfl, h1, h2, fun ad e => ?_⟩
  subst e
  rcases h.2 with ⟨h3, _⟩ | ⟨g, cap', cur, h3, hg, hgg, _⟩
  · cases h3
  · cases h3
    exact ⟨hg, (Array.getElem?_eq_some_iff.1 hgg).1⟩
set_option maxRecDepth 100000 in
set_option maxHeartbeats 6400000 in
theorem law_filesRight (a : Option Addr) (cap : Nat) (xs : List Ask) (w : World) (_ : xs.length ≤ 140737488351232) (ha : RowsAt askLay w a xs) (hm : MaxAt w) :
    Calls Tryd.prog 4 #[.slice a xs.length cap] w fun e w' => e = .returned (.bool true) ∧ Below w.heap.size w w' := by
  have HN := Lib.hid (fnew_any w)
  have HAW := Lib.hid fun W hM => awake19_any W hM
  have HA := Lib.hid ha
  clear ha
  go_enter Tryd.func4, Tryd.ntmps4
  go_wp2_with fail
  refine HN.out.mono ?_
  rintro e w1 ⟨rfl, hF1, hb1, hs1⟩
  obtain ⟨fb, hfb⟩ : ∃ fb, fb = w.heap.size + 1 := ⟨_, rfl⟩
  obtain ⟨mb, hmb⟩ : ∃ mb, mb = w.heap.size := ⟨_, rfl⟩
  rw [← hfb] at hF1 ⊢
  rw [← hmb] at hF1
  have hfw : w.heap.size ≤ fb := by omega
  have hmw : w.heap.size ≤ mb := by omega
  clear hfb hmb hs1 HN
  go_wp2_with fail
  go_loopw [4, 5, 6, 7, 8, 9, 10, 11, 12, 13, 14, 15, 16, 17] (fun last i _ _ _ _ _ _ _ _ _ _ _ _ wr => ∃ (k : Nat) (f : Fs) (mb : Nat), k ≤ xs.length ∧ k ≤ 100 ∧ i = .int .i64 k ∧ last = .int .i64 f.n ∧ f.n ≤ k ∧ FAt wr fb mb f ∧ Hid (FsOK f ∧ IdsOK f) ∧ w.heap.size ≤ mb ∧ Below w.heap.size w wr) (fun _ i _ _ _ _ _ _ _ _ _ _ _ _ _ => xs.length - (RowKit.intOf i).toNat)
  case atStart => exact ⟨0, ⟨0, []⟩, mb, Nat.zero_le _, Nat.zero_le _, rfl, rfl, Nat.zero_le _, hF1, Lib.hid ⟨ok_new, ids_new⟩, hmw, hb1⟩
  case round =>
    clear hmw hF1 hb1 mb
    obtain ⟨k, f, mb, hk, hk100, rfl, rfl, hnk, hF, Hok, hmw, hb⟩ := hrel
    by_cases hlt : k < xs.length
    · by_cases hc : k < 100
      · obtain ⟨x, hx⟩ := at_some hlt
        obtain ⟨b, off, rfl, hbl, c0, c1, c2, c3⟩ := ask_at (HA.out.keeps hb) hx
        have Hst := Lib.hid (step_op Hok.out.2 x)
        have Hok2 := Lib.hid (ok_op Hok.out.1 x)
        have HFew := Lib.hid fun W => few19_any x W
        have hsz := few_sizes (x := x)
        have HDo := Lib.hid fun W hF hp ht hM => fdo_any fb mb f x W hF Hok.out.1 (by omega) hp ht hM
        obtain ⟨r, hr⟩ : ∃ r, opF f x = r := ⟨_, rfl⟩
        rw [hr] at Hst Hok2 HDo
        obtain ⟨f', er⟩ := r
        obtain ⟨xk, xp, xt, xd⟩ := x
        dsimp only at c0 c1 c2 c3 hsz HDo
        clear hx hr
        go_wp2_with fail
        refine (HFew.out _).mono ?_
        rintro e w2 ⟨rfl, hb2⟩
        have hb2w := hb.trans (hb2.mono hb.size)
        cases hfew : fewA ⟨xk, xp, xt, xd⟩ with
        | false =>
          go_wp2_with fail
          refine (HAW.out _ (hm.keeps hb2w)).mono ?_
          rintro e wq ⟨rfl, hbq⟩
          go_wp2_with fail
          go_ret
          exact ⟨rfl, hb2w.trans (hbq.mono hb2w.size)⟩
        | true =>
          obtain ⟨hz1, hz2, _⟩ := hsz hfew
          have hF2 := hF.below hb2
          have e0 := (hb2.cell (p := ⟨b, off + k * 4, none⟩) hbl).trans c0
          have e1 := (hb2.cell (p := ⟨b, off + k * 4 + 1, none⟩) hbl).trans c1
          have e2 := (hb2.cell (p := ⟨b, off + k * 4 + 2, none⟩) hbl).trans c2
          have e3 := (hb2.cell (p := ⟨b, off + k * 4 + 3, none⟩) hbl).trans c3
          have hbl2 := Nat.lt_of_lt_of_le hbl hb2.size
          clear c0 c1 c2 c3 hb hb2 hF hsz hfew HFew hbl
          have HL := Lib.hid (flist_any fb mb f w2 hF2 Hok.out.1.rise Hok.out.1.few (fun y hy => path_size (Hok.out.1.path y hy)))
          go_wp2_with fail
          refine HL.out.mono ?_
          rintro e w3 ⟨v, rfl, hov, hb3⟩
          obtain ⟨av, cv, rfl, hrow, hcv, hlow⟩ := own_low hov
          have hb3w := hb2w.trans (hb3.mono hb2w.size)
          have hF3 := hF2.below hb3
          replace e0 := (hb3.cell (p := ⟨b, off + k * 4, none⟩) hbl2).trans e0
          replace e1 := (hb3.cell (p := ⟨b, off + k * 4 + 1, none⟩) hbl2).trans e1
          replace e2 := (hb3.cell (p := ⟨b, off + k * 4 + 2, none⟩) hbl2).trans e2
          replace e3 := (hb3.cell (p := ⟨b, off + k * 4 + 3, none⟩) hbl2).trans e3
          clear HL hov
          go_wp2_with fail
          have hl2 := hF2.1.1
          have hl3 := hF2.2.lt
          refine (HDo.out _ hF3 (by omega) (by omega) (hm.keeps hb3w)).mono ?_
          rintro e w4 ⟨rfl, mb', hF4, hmb', ht4⟩
          have hb4w := hb3w.trans (ht4.below hb3w.size (fun j hj e => by rcases e with rfl | rfl <;> omega))
          have hrow4 := hrow.turned ht4 (fun ad e => ⟨(hlow ad e).2, by have := (hlow ad e).1; rintro (e2 | e2) <;> omega⟩)
          have hmw' : w.heap.size ≤ mb' := by
            rcases hmb' with rfl | h1
            · exact hmw
            · exact Nat.le_trans hb3w.size h1
          have HL := Lib.hid (flist_any fb mb' f' w4 hF4 Hok2.out.rise Hok2.out.few (fun y hy => path_size (Hok2.out.path y hy)))
          clear hF3 hF2 hb3 hb2w hb3w hrow hlow hl2 hl3 hmb' HDo ht4 e0 e1 e2 e3 hbl2 hmw hz1 hz2
          go_wp2_with fail
          refine HL.out.mono ?_
          rintro e w5 ⟨v, rfl, hov, hb5⟩
          obtain ⟨al, cl, rfl, hrl, hcl, _⟩ := own_low hov
          have hb5w := hb4w.trans (hb5.mono hb4w.size)
          have hF5 := hF4.below hb5
          have hrow5 := hrow4.keeps hb5
          clear HL hov hF4 hrow4 hb5 hb4w
          have hfew5 : f'.es.length ≤ 300 := Hok2.out.few
          have hfewo : f.es.length ≤ 300 := Hok.out.1.few
          go_upto_region 13 with fail
          go_cut [55] from 21 to 189 (fun c wx => c = .bool false ∧ ∃ n, wx = w5.drewN n)
          case first =>
            by_cases he : er = 0
            · subst he
              go_wp2_with fail
              go_meet
              exact ⟨rfl, 0, (World.drewN_zero _).symm⟩
            · have hq : (er != 0) = true := bne_iff_ne.2 he
              have hsm : f' = f := Hst.out.same he
              have HS := Lib.hid (esame_any al av cl cv f'.es f.es w5 (by omega) hrl hrow5)
              rw [show decide (f'.es = f.es) = true from decide_eq_true (by rw [hsm])] at HS
              clear he hsm
              go_wp2_with fail
              refine HS.out.mono ?_
              rintro e w6 ⟨rfl, n6, rfl⟩
              go_wp2_with fail
              go_meet
              exact ⟨rfl, n6, rfl⟩
          case rest =>
            obtain ⟨rfl, n6, rfl⟩ := hcut
            replace hb5w := belowDrew hb5w n6
            replace hF5 : FAt (w5.drewN n6) fb mb' f' := ⟨hF5.1, hF5.2.same rfl⟩
            replace hrow5 := hrow5.keeps (belowDrew (Below.refl w5.heap.size w5) n6)
            replace hrl := hrl.keeps (belowDrew (Below.refl w5.heap.size w5) n6)
            generalize w5.drewN n6 = w7 at *
            have hM0 := (MapOf.made (inj := Value.int .i64) w7).congr (g' := yesI (idIn (f'.es.take 0))) (fun c => by rw [List.take_zero]; exact yesI_nil c)
            have hbM := (Below.refl w7.heap.size w7).alloc (Nat.le_refl _) (.map #[] 0)
            have hmm := @run_makeMap Tryd.prog
            have HRl := Lib.hid hrl
            have HRw := Lib.hid hrow5
            clear hrl hrow5
            go_wp2_with fail
            go_loopw [10, 11, 12, 13, 14] (fun t i _ _ _ wr => ∃ k n : Nat, k ≤ f'.es.length ∧ i = .int .i64 k ∧ t = .int .i64 (topK f.n (f'.es.take k)) ∧ MapOf (Value.int .i64) wr w7.heap.size n (yesI (idIn (f'.es.take k))) ∧ Below w7.heap.size w7 wr) (fun _ i _ _ _ _ => f'.es.length - (RowKit.intOf i).toNat)
            case atStart => exact ⟨0, 0, Nat.zero_le _, rfl, rfl, hM0, hbM⟩
            case round =>
              obtain ⟨k1, n1, hk1, rfl, rfl, hmp, hbz⟩ := hrel
              have hF6 := hF5.below hbz
              by_cases hlt1 : k1 < f'.es.length
              · obtain ⟨y, hy⟩ := at_some hlt1
                have hym := List.mem_of_getElem? hy
                obtain ⟨lb, lo, rfl, hlbl, z0, z1, z2, z3⟩ := ent_at HRl.out hy
                have d0 := (hbz.cell (p := ⟨lb, lo + k1 * 4, none⟩) hlbl).trans z0
                have d1 := (hbz.cell (p := ⟨lb, lo + k1 * 4 + 1, none⟩) hlbl).trans z1
                have d2 := (hbz.cell (p := ⟨lb, lo + k1 * 4 + 2, none⟩) hlbl).trans z2
                have d3 := (hbz.cell (p := ⟨lb, lo + k1 * 4 + 3, none⟩) hlbl).trans z3
                have Hz := Lib.hid (show ∀ W, Below w7.heap.size w7 W → W.cell? ⟨lb, lo + k1 * 4, none⟩ = some (.string y.path) ∧ W.cell? ⟨lb, lo + k1 * 4 + 1, none⟩ = some (.int .i64 y.id) from fun W h => ⟨(h.cell (p := ⟨lb, lo + k1 * 4, none⟩) hlbl).trans z0, (h.cell (p := ⟨lb, lo + k1 * 4 + 1, none⟩) hlbl).trans z1⟩)
                have Hy := Lib.hid hy
                have hlow1 : 1 ≤ y.id := (Hst.out.ids.low y hym).1
                have hbare : y.dir = true → y.data = ⟨#[]⟩ := Hst.out.ids.bare y hym
                have hup := dir_up Hok2.out (x := y) hym
                have hps := path_size (Hok2.out.path y hym)
                have hds := dir_size y.path
                have hlk : ∀ n, (Instr.lookup 44 (.map (some w7.heap.size)) (.int .i64 y.id) false).run Tryd.prog (wr.drewN n) = .ok (.bool false) (wr.drewN n) := fun n => by
                  have h1 := (hmp.drewN n).lookup intK Tryd.underlying44 y.id (zeroBool _)
                  rw [yesI_get, seen_no Hok2.out Hst.out.ids hy] at h1
                  exact h1
                have Hsn := Lib.hid (show f'.es.take (k1 + 1) = f'.es.take k1 ++ [y] by rw [List.take_add_one, hy]; rfl)
                have HD := Lib.hid fun W => rdir_any y.path W (by omega)
                have HG := Lib.hid fun W hF => fget_any fb mb' f' (dirE y.path) W hF (by unfold maxLen; omega)
                have Hup : Hid (dirE y.path ≠ ⟨#[]⟩ → (getF f' (dirE y.path)).2 = 0 ∧ (getF f' (dirE y.path)).1.dir = true) := Lib.hid fun h => by
                  obtain ⟨u, h1, h2⟩ := hup h
                  rw [getF_some h1]
                  exact ⟨rfl, h2⟩
                obtain ⟨G, hG⟩ : ∃ G, getF f' (dirE y.path) = G := ⟨_, rfl⟩
                rw [hG] at HG Hup
                clear hG hup
                obtain ⟨⟨up, ui, ud, us⟩, g⟩ := G
                rw [show Ent.val ⟨up, ui, ud, us⟩ = .agg #[.string up, .int .i64 ui, .bool ud, .string us] from rfl] at HG
                have hlti : (k1 : Int) < (f'.es.length : Int) := by omega
                have hlti0 : (0 : Int) ≤ (k1 : Int) := by omega
                obtain ⟨yp, yi, yd, ys⟩ := y
                dsimp only at d0 d1 d2 d3 hlow1 hbare hps hds hlk HD HG Hup Hz
                generalize dirE yp = dd at *
                have q1 : decide (yi < 1) = false := decide_eq_false (by omega)
                clear z0 z1 z2 z3 hym hps hds
                go_upto_region 20 with fail
                go_cut [111] from 58 to 147 (fun c wx => c = .bool false ∧ ∃ n, wx = wr.drewN n)
                case first =>
                  by_cases hk0 : k1 = 0
                  · have q0 : decide ((k1 : Int) > 0) = false := decide_eq_false (by omega)
                    have q0b : decide (0 < k1) = false := decide_eq_false (by omega)
                    have q0c : decide ((0 : Int) < (k1 : Int)) = false := decide_eq_false (by omega)
                    clear hk0 hy
                    cases yd with
                    | true =>
                      obtain rfl := hbare rfl
                      clear hbare
                      go_quiet (fail)
                      go_wp2_with fail
                      go_meet
                      exact ⟨rfl, nq, rfl⟩
                    | false =>
                      clear hbare
                      go_quiet (fail)
                      go_wp2_with fail
                      go_meet
                      exact ⟨rfl, nq, rfl⟩
                  · obtain ⟨k0, rfl⟩ : ∃ k0, k1 = k0 + 1 := ⟨k1 - 1, by omega⟩
                    obtain ⟨v, hv⟩ := at_some (show k0 < f'.es.length by omega)
                    have hls := rising_at Hok2.out.rise hv hy
                    obtain ⟨lb', lo', e, hlbl', y0, _⟩ := ent_at HRl.out hv
                    cases e
                    have b0 := (hbz.cell (p := ⟨lb, lo + k0 * 4, none⟩) hlbl').trans y0
                    dsimp only at hls
                    have q0 : decide (((k0 + 1 : Nat) : Int) > 0) = true := decide_eq_true (by omega)
                    have hk0a : (k0 : Int) < (f'.es.length : Int) := by omega
                    have hk0b : (0 : Int) ≤ (k0 : Int) := by omega
                    have hk0c : (k0 : Int) + 1 < (f'.es.length : Int) := by omega
                    have hk0d : (0 : Int) ≤ (k0 : Int) + 1 := by omega
                    clear hk0 hy hv y0 hlbl'
                    cases yd with
                    | true =>
                      obtain rfl := hbare rfl
                      clear hbare
                      go_quiet (fail)
                      go_wp2_with fail
                      go_meet
                      exact ⟨rfl, nq, rfl⟩
                    | false =>
                      clear hbare
                      go_quiet (fail)
                      go_wp2_with fail
                      go_meet
                      exact ⟨rfl, nq, rfl⟩
                case rest =>
                  obtain ⟨rfl, nq, rfl⟩ := hcut
                  clear hbare hy hlk
                  go_wp2_with (at_mapUpdate; refine wpList_mapUpdate_of rfl _ _ _ 44 rfl 3 4 intK Tryd.underlying44 rfl (hmp.drewN nq) yi rfl _ rfl ?_)
                  intro w9 hm9 hg9
                  replace hm9 := hm9.congr (g' := yesI (idIn (f'.es.take (k1 + 1)))) (fun c => by rw [Hsn.out]; exact yesI_put _ ⟨yp, yi, yd, ys⟩ c)
                  have hbz9 := (belowDrew hbz nq).grown hg9 hbz.size (fun j ej => by cases ej; exact Nat.le_refl _)
                  have hF9 := hF5.below hbz9
                  obtain ⟨p0, p1⟩ := Hz.out w9 hbz9
                  clear hg9 hbz hmp
                  go_wp2_with fail
                  refine (HD.out _).mono ?_
                  rintro e w10 ⟨rfl, rfl⟩
                  go_wp2_with fail
                  refine (HG.out _ hF9).mono ?_
                  rintro e w11 ⟨rfl, hb11⟩
                  have hm11 := hm9.below hb11 hm9.lt
                  have hbz11 := hbz9.trans (hb11.mono hbz9.size)
                  have hmx := hm11.alloc (.cells #[.string up, .int .i64 ui, .bool ud, .string us] 38)
                  have hbx := hbz11.alloc hbz11.size (.cells #[.string up, .int .i64 ui, .bool ud, .string us] 38)
                  clear hm9 hbz9 hF9 p0 p1 hb11 hm11 hbz11
                  by_cases hdd : dd = ⟨#[]⟩
                  · subst hdd
                    go_wp2_with fail
                    go_roundw
                    case rel => exact ⟨k1 + 1, n1 + 1, by omega, by go_num, by rw [Hsn.out, topK_snoc], hmx, hbx⟩
                    case measure => simp [RowKit.intOf]; omega
                  · have qd := empty_ne hdd
                    obtain ⟨rfl, rfl⟩ := Hup.out hdd
                    clear hdd
                    go_wp2_with fail
                    go_roundw
                    case rel => exact ⟨k1 + 1, n1 + 1, by omega, by go_num, by rw [Hsn.out, topK_snoc], hmx, hbx⟩
                    case measure => simp [RowKit.intOf]; omega
              · obtain rfl : k1 = f'.es.length := by omega
                have htop : topK (f.n : Int) f'.es = (f'.n : Int) := top_all Hst.out
                have hnum : (f'.n : Int) ≤ (f.n : Int) + 1 := by
                  have h1 : f'.n = f.n ∨ _ := Hst.out.num
                  rcases h1 with h1 | ⟨h1, _⟩
                  · omega
                  · have h2 : f'.n = f.n + 1 := h1
                    omega
                rw [List.take_length, htop]
                have hbw := hb5w.trans (hbz.mono hb5w.size)
                generalize hwo : wr = wo at *
                clear hwo wr hmp htop
                have hM1 := (MapOf.made (inj := Value.int .i64) wo).congr (g' := yesI (idIn (f.es.take 0))) (fun c => by rw [List.take_zero]; exact yesI_nil c)
                have hbM1 := (Below.refl wo.heap.size wo).alloc (Nat.le_refl _) (.map #[] 0)
                go_wp2_with fail
                go_loopw [16] (fun i wr => ∃ k2 n2 : Nat, k2 ≤ f.es.length ∧ i = .int .i64 k2 ∧ MapOf (Value.int .i64) wr wo.heap.size n2 (yesI (idIn (f.es.take k2))) ∧ Below wo.heap.size wo wr) (fun i _ => f.es.length - (RowKit.intOf i).toNat)
                case atStart => exact ⟨0, 0, Nat.zero_le _, rfl, hM1, hbM1⟩
                case round =>
                  obtain ⟨k2, n2, hk2, rfl, hmp, hbz2⟩ := hrel
                  have hbz3 := hbz.trans (hbz2.mono hbz.size)
                  by_cases hlt2 : k2 < f.es.length
                  · obtain ⟨y, hy⟩ := at_some hlt2
                    obtain ⟨ob, oo, rfl, hobl, z0, z1, z2, z3⟩ := ent_at HRw.out hy
                    have d1 := (hbz3.cell (p := ⟨ob, oo + k2 * 4 + 1, none⟩) hobl).trans z1
                    have Hsn := Lib.hid (show f.es.take (k2 + 1) = f.es.take k2 ++ [y] by rw [List.take_add_one, hy]; rfl)
                    have hlti : (k2 : Int) < (f.es.length : Int) := by omega
                    clear z0 z1 z2 z3 hy
                    go_wp2_with (at_mapUpdate; refine wpList_mapUpdate_of rfl _ _ _ 44 rfl 3 4 intK Tryd.underlying44 rfl hmp y.id rfl _ rfl ?_)
                    intro w9 hm9 hg9
                    replace hm9 := hm9.congr (g' := yesI (idIn (f.es.take (k2 + 1)))) (fun c => by rw [Hsn.out]; exact yesI_put _ y c)
                    have hbz9 := hbz2.grown hg9 hbz2.size (fun j ej => by cases ej; exact Nat.le_refl _)
                    clear hg9 hmp
                    go_wp2_with fail
                    go_roundw
                    case rel => exact ⟨k2 + 1, n2 + 1, by omega, by go_num, hm9, hbz9⟩
                    case measure => simp [RowKit.intOf]; omega
                  · obtain rfl : k2 = f.es.length := by omega
                    rw [List.take_length] at hmp
                    have hbw2 := hbw.trans (hbz2.mono hbw.size)
                    generalize hwp : wr = wp at *
                    clear hwp wr hbz2
                    go_wp2_with fail
                    go_loopw [17] (fun i wr => ∃ k3 : Nat, k3 ≤ f'.es.length ∧ i = .int .i64 k3 ∧ Below wp.heap.size wp wr) (fun i _ => f'.es.length - (RowKit.intOf i).toNat)
                    case atStart => exact ⟨0, Nat.zero_le _, rfl, Below.refl _ _⟩
                    case round =>
                      obtain ⟨k3, hk3, rfl, hbz4⟩ := hrel
                      by_cases hlt3 : k3 < f'.es.length
                      · obtain ⟨y, hy⟩ := at_some hlt3
                        obtain ⟨lb, lo, rfl, hlbl, z0, z1, z2, z3⟩ := ent_at HRl.out hy
                        have d1 := ((hbz3.trans (hbz4.mono hbz3.size)).cell (p := ⟨lb, lo + k3 * 4 + 1, none⟩) hlbl).trans z1
                        have hfr : (∃ x ∈ f.es, x.id = y.id) ∨ y.id = (f.n : Int) + 1 := Hst.out.fresh y (List.mem_of_getElem? hy)
                        have hlk := (hmp.below hbz4 hmp.lt).lookup intK Tryd.underlying44 y.id (zeroBool _)
                        rw [yesI_get] at hlk
                        have hlti : (k3 : Int) < (f'.es.length : Int) := by omega
                        clear z0 z1 z2 z3 hy
                        cases hin : idIn f.es y.id with
                        | true =>
                          rw [hin] at hlk
                          clear hin hfr
                          go_wp2_with fail
                          go_roundw
                          case rel => exact ⟨k3 + 1, by omega, by go_num, hbz4⟩
                          case measure => simp [RowKit.intOf]; omega
                        | false =>
                          rw [hin] at hlk
                          have hyn : y.id = (f.n : Int) + 1 := by
                            rcases hfr with h1 | h1
                            · rw [idIn_iff.2 h1] at hin
                              cases hin
                            · exact h1
                          have hq9 : (y.id != (f.n : Int) + 1) = false := by rw [hyn]; simp
                          generalize y.id = yi at *
                          clear hin hfr hyn
                          go_wp2_with fail
                          go_roundw
                          case rel => exact ⟨k3 + 1, by omega, by go_num, hbz4⟩
                          case measure => simp [RowKit.intOf]; omega
                      · obtain rfl : k3 = f'.es.length := by omega
                        have hq9 : ¬ ((f'.n : Int) > (f.n : Int) + 1) := by omega
                        have hbw3 := hbw2.trans (hbz4.mono hbw2.size)
                        have hF9 := hF5.below (hbz3.trans (hbz4.mono hbz3.size))
                        go_wp2_with fail
                        go_roundw
                        case rel => exact ⟨k + 1, f', mb', by omega, by omega, by go_num, rfl, by omega, hF9, Lib.hid ⟨Hok2.out, Hst.out.ids⟩, hmw', hbw3⟩
                        case measure => simp [RowKit.intOf]; omega
      · have h1 : ¬ ((k : Int) < 100) := by omega
        go_wp2_with fail
        refine (HAW.out _ (hm.keeps hb)).mono ?_
        rintro e wq ⟨rfl, hbq⟩
        go_wp2_with fail
        go_ret
        exact ⟨rfl, hb.trans (hbq.mono hb.size)⟩
    · have h1 : ¬ ((k : Int) < xs.length) := by omega
      go_wp2_with fail
      refine (HAW.out _ (hm.keeps hb)).mono ?_
      rintro e wq ⟨rfl, hbq⟩
      go_wp2_with fail
      go_ret
      exact ⟨rfl, hb.trans (hbq.mono hb.size)⟩
end Go.Proofs.YtgjgeojhhglidaaDoor
