/-
  ScanSame.
-/
import Derived.Test.YtgjgeojhhglidaaDoorFsS7
import Derived.Test.YtgjgeojhhglidaaDoorScanW
namespace Go.Proofs.YtgjgeojhhglidaaDoor
open Go Go.RowKit Go.Lib

/-- Entries by their numbers, as a map keeps them. -/
def numF (es : List Ent) : Int → Option Value := fun c => (getI es c).map Ent.val
theorem num_step {f : Fs} (hf : FsOK f) (hfi : IdsOK f) {k : Nat} {x : Ent} (hx : f.es[k]? = some x) : numF (f.es.take (k + 1)) = putAt (numF (f.es.take k)) x.id x.val := by
  have hno : getI (f.es.take k) x.id = none := getI_no fun y hy e => by
    have h1 := hfi.one y (List.mem_of_mem_take hy) x (List.mem_of_getElem? hx) e
    obtain ⟨j, hj⟩ := List.mem_iff_getElem?.1 hy
    have hjk : j < k := by
      have := (List.getElem?_eq_some_iff.1 hj).1
      rw [List.length_take] at this
      omega
    rw [List.getElem?_take_of_lt hjk, h1] at hj
    have := nodup_at (rising_nodup hf.rise) hj hx
    omega
  funext c
  unfold numF putAt
  rw [List.take_add_one, hx, Option.toList_some]
  unfold getI at hno ⊢
  rw [List.find?_append]
  by_cases hc : c = x.id
  · subst hc
    rw [if_pos rfl, hno]
    simp
  · rw [if_neg hc]
    have h2 : List.find? (fun y : Ent => decide (y.id = c)) [x] = none := by
      rw [List.find?_cons, decide_eq_false (fun e => hc e.symm)]
      rfl
    rw [h2]
    simp
theorem count_step {α : Type} {p : α → Bool} {l : List α} {k : Nat} {x : α} (h : l[k]? = some x) : (l.take (k + 1)).countP p = (l.take k).countP p + (if p x then 1 else 0) := by
  rw [List.take_add_one, h, Option.toList_some, List.countP_append, List.countP_cons, List.countP_nil, Nat.zero_add]
theorem flat_le {α β : Type} {g : α → List β} : ∀ {l : List α}, (∀ y ∈ l, (g y).length ≤ 2) → (l.flatMap g).length ≤ 2 * l.length
  | [], _ => Nat.le_refl _
  | c :: l, h => by
    have h1 := h c List.mem_cons_self
    have h2 := flat_le fun y hy => h y (List.mem_cons_of_mem _ hy)
    rw [List.flatMap_cons, List.length_append, List.length_cons]
    omega
theorem chgs_le (old now : List KEnt) (x : KEnt) : (chgsK old now x).length ≤ 2 := by
  unfold chgsK
  split
  · exact Nat.le_succ _
  · dsimp only
    rw [List.length_append]
    split <;> split <;> simp
theorem scan_len {f g : Fs} (hf : FsOK f) (hfi : IdsOK f) (hg : FsOK g) (hgi : IdsOK g) : (scanK (f.es.map toK) g.es).length ≤ 900 := by
  rw [scan_flat hf hfi hg hgi, List.length_append, List.length_map]
  have h1 := flat_le (l := g.es) fun y _ => chgs_le (knowF f) (knowF g) (toK y)
  have h2 := List.length_filter_le (dropQ (knowF f) (knowF g)) (knowF f)
  have h3 : (knowF f).length = f.es.length := List.length_map _
  have := hf.few
  have := hg.few
  omega
theorem same_cases {f g : Fs} (hf : FsOK f) (hfi : IdsOK f) (hg : FsOK g) (hgi : IdsOK g) {ys : List Ask} (h : g = playF f ys) :
    scanK (f.es.map toK) f.es = [] ∧ scanK (g.es.map toK) g.es = [] ∧ (∀ c ∈ scanK (f.es.map toK) g.es, ChOK f g (scanK (f.es.map toK) g.es).length c) ∧ (scanK (f.es.map toK) g.es).countP isMade = g.es.countP (isFresh f) ∧
    (scanK (f.es.map toK) g.es).countP isDrop ≤ f.es.countP (isFresh g) ∧ (0 < (scanK (f.es.map toK) g.es).countP isDrop ↔ 0 < f.es.countP (isFresh g)) := by
  have hr : PlayR f g := h ▸ play_rel ys hfi
  exact ⟨scan_same hf hfi, scan_same hg hgi, scan_asked hf hfi hg hgi hr, scan_made_n hf hfi hg hgi hr, (scan_gone hf hfi hg hgi hr).1, (scan_gone hf hfi hg hgi hr).2⟩
set_option maxRecDepth 100000 in
set_option maxHeartbeats 6400000 in
theorem law_scanSame (a : Option Addr) (cap : Nat) (xs : List Ask) (a9 : Option Addr) (cap9 : Nat) (ys : List Ask) (w : World) (_ : xs.length ≤ 140737488351232) (ha : RowsAt askLay w a xs) (_ : ys.length ≤ 140737488351232) (ha9 : RowsAt askLay w a9 ys) (hm : MaxAt w) :
    Calls Tryd.prog 9 #[.slice a xs.length cap, .slice a9 ys.length cap9] w fun e w' => e = .returned (.bool true) ∧ Below w.heap.size w w' := by
  have HAW := Lib.hid fun W => awake20_any W
  have hmm := @run_makeMap Tryd.prog
  have HP := Lib.hid (played_any a cap xs a9 cap9 ys w ha ha9 hm)
  clear ha ha9
  go_enter Tryd.func9, Tryd.ntmps9
  go_wp2_with fail
  refine HP.out.mono ?_
  rintro e w1 ⟨hb1, rfl | ⟨f, g, av, cv, v2, rfl, hf, hfi, hg, hgi, hpf, hpg, hrow, hov⟩⟩
  · go_wp2_with fail
    refine (HAW.out _).mono ?_
    rintro e wq ⟨rfl, hbq⟩
    go_wp2_with fail
    go_ret
    exact ⟨rfl, hb1.trans (hbq.mono hb1.size)⟩
  obtain ⟨a2, c2, rfl, hrow2, hc2⟩ := hov.read
  have HScan := Lib.hid (same_cases hf hfi hg hgi hpg)
  have HSl := Lib.hid (scan_len hf hfi hg hgi)
  have HE := Lib.hid (show ∀ x ∈ f.es, x.path.size ≤ 400 from fun x hx => path_size (hf.path x hx))
  have HE2 := Lib.hid (show ∀ x ∈ g.es, x.path.size ≤ 400 from fun x hx => path_size (hg.path x hx))
  have HK1 := Lib.hid (fun x hx => getI_of hfi (x := x) hx)
  have HNF := Lib.hid fun (k : Nat) (x : Ent) (hx : f.es[k]? = some x) => num_step hf hfi hx
  have HNG := Lib.hid fun (k : Nat) (x : Ent) (hx : g.es[k]? = some x) => num_step hg hgi hx
  have hl1 : f.es.length ≤ 300 := hf.few
  have hl2 : g.es.length ≤ 300 := hg.few
  have HLn := Lib.hid (learn_any av cv f.es w1 (by omega) hrow)
  have HLn2 := Lib.hid fun W (h : Below w1.heap.size w1 W) => learn_any a2 c2 g.es W (by omega) (hrow2.keeps h)
  have hml : (f.es.map toK).length = f.es.length := List.length_map _
  have hml2 : (g.es.map toK).length = g.es.length := List.length_map _
  have HR1 := Lib.hid hrow
  have HR2 := Lib.hid hrow2
  clear hf hfi hg hgi hpf hpg hov HP hrow hrow2
  go_wp2_with fail
  refine HLn.out.mono ?_
  rintro e w2 ⟨v3, rfl, hov3, hb2⟩
  obtain ⟨a3, c3, rfl, hrow3, hc3⟩ := hov3.read
  have hb2w := hb1.trans (hb2.mono hb1.size)
  have hsK : ∀ y ∈ f.es.map toK, y.path.size ≤ 100000 := fun y hy => by
    obtain ⟨u, hu, rfl⟩ := List.mem_map.1 hy
    have := HE.out u hu
    show u.path.size ≤ _
    omega
  have hsK2 : ∀ y ∈ g.es.map toK, y.path.size ≤ 100000 := fun y hy => by
    obtain ⟨u, hu, rfl⟩ := List.mem_map.1 hy
    have := HE2.out u hu
    show u.path.size ≤ _
    omega
  have HD1 := diff_any a3 av c3 cv (f.es.map toK) f.es w2 (by omega) (by omega) hsK (fun y hy => by have := HE.out y hy; omega) hrow3 (HR1.out.keeps hb2)
  have HD3 := fun W (h : Below w2.heap.size w2 W) => diff_any a3 a2 c3 c2 (f.es.map toK) g.es W (by omega) (by omega) hsK (fun y hy => by have := HE2.out y hy; omega) (hrow3.keeps h) ((HR2.out.keeps hb2).keeps h)
  have HD2 := fun W a4 c4 (h : RowsAt kLay W a4 (g.es.map toK)) (h2 : Below w2.heap.size w2 W) => diff_any a4 a2 c4 c2 (g.es.map toK) g.es W (by omega) (by omega) hsK2 (fun y hy => by have := HE2.out y hy; omega) h ((HR2.out.keeps hb2).keeps h2)
  rw [HScan.out.1] at HD1
  rw [hml] at HD1 HD3 ⊢
  rw [hml2, HScan.out.2.1] at HD2
  have HD1 := Lib.hid HD1
  have HD2 := Lib.hid HD2
  have HD3 := Lib.hid HD3
  have HLn3 := Lib.hid fun W (h : Below w2.heap.size w2 W) => HLn2.out W (hb2.trans (h.mono hb2.size))
  have HR1 := Lib.hid (HR1.out.keeps hb2)
  have HR2 := Lib.hid (HR2.out.keeps hb2)
  clear hov3 hrow3 HLn hml HLn2 hsK hsK2 HE HE2 hb1 hb2
  go_wp2_with fail
  refine HD1.out.mono ?_
  rintro e w3 ⟨v4, rfl, hov4, hb3⟩
  obtain ⟨a4, c4, rfl, hrow4, hc4⟩ := hov4.read
  clear hov4 hrow4 HD1
  rw [List.length_nil]
  go_wp2_with fail
  refine (HLn3.out _ hb3).mono ?_
  rintro e w4 ⟨v5, rfl, hov5, hb4⟩
  obtain ⟨a5, c5, rfl, hrow5, hc5⟩ := hov5.read
  rw [hml2]
  clear hml2 hov5
  have hb4 := hb3.trans (hb4.mono hb3.size)
  have HD2' := Lib.hid (HD2.out w4 a5 c5 hrow5 hb4)
  clear hrow5 HD2 HLn3 hb3
  go_wp2_with fail
  refine HD2'.out.mono ?_
  rintro e w5 ⟨v6, rfl, hov6, hb5⟩
  obtain ⟨a6, c6, rfl, hrow6, hc6⟩ := hov6.read
  clear hov6 hrow6 HD2'
  have hb5 := hb4.trans (hb5.mono hb4.size)
  rw [List.length_nil]
  have HR1 := Lib.hid (HR1.out.keeps hb5)
  have HR2 := Lib.hid (HR2.out.keeps hb5)
  have HD3 := Lib.hid fun W (h : Below w5.heap.size w5 W) => HD3.out W (hb5.trans (h.mono hb5.size))
  have hb5w := hb2w.trans (hb5.mono hb2w.size)
  clear hb4 hb5 hb2w
  go_wp2_with fail
  obtain ⟨bo, hbo⟩ : ∃ b, b = w5.heap.size := ⟨_, rfl⟩
  rw [← hbo]
  have hm0 : MapOf (Value.int .i64) (w5.alloc (.map #[] 0)) bo 0 (numF (f.es.take 0)) := by rw [hbo]; exact (MapOf.made _).congr (fun _ => rfl)
  have hbow : w5.heap.size ≤ bo := by rw [hbo]; exact Nat.le_refl _
  have hbA := (Below.refl w5.heap.size w5).alloc (Nat.le_refl _) (.map #[] 0)
  clear hbo
  go_loopw [10] (fun i wr => ∃ k : Nat, k ≤ f.es.length ∧ i = .int .i64 k ∧ MapOf (Value.int .i64) wr bo k (numF (f.es.take k)) ∧ Below w5.heap.size w5 wr) (fun i _ => f.es.length - (RowKit.intOf i).toNat)
  case atStart => exact ⟨0, Nat.zero_le _, rfl, hm0, hbA⟩
  case round =>
    clear hm0 hbA
    obtain ⟨k, hk, rfl, hmk, hb⟩ := hrel
    by_cases hlt : k < f.es.length
    · obtain ⟨x, hx⟩ := at_some hlt
      obtain ⟨b, off, hae, hbl, c0, c1, c2, c3⟩ := ent_at (HR1.out.keeps hb) hx
      subst hae
      have Hst := Lib.hid (HNF.out k x hx)
      obtain ⟨xp, xi, xd, xt⟩ := x
      dsimp only at c0 c1 c2 c3 Hst
      have hlti : (k : Int) < (f.es.length : Int) := by omega
      have hlt0 : (0 : Int) ≤ (k : Int) := by omega
      clear hx
      go_wp2_with fail
      have hraw : ∀ p, World.cell? { heap := wr.heap, tape := wr.tape, drawn := wr.drawn + 1, os := wr.os, output := wr.output } p = wr.cell? p := fun _ => rfl
      go_still_tail 10, (by kernel_rfl)
      change wpList _ _ _ _ _ wr.drew
      clear hraw
      go_wp2_with (at_mapUpdate; refine wpList_mapUpdate_of rfl _ _ _ 62 rfl 3 38 intK Tryd.underlying62 rfl (hmk.of_block rfl) xi rfl _ rfl ?_)
      intro w6 hm6 hg6
      have hb6 := hb.drew.grown hg6 (by simpa using hb.size) (fun j ej => by cases ej; exact hbow)
      clear hg6
      go_wp2_with fail
      go_roundw
      case rel => exact ⟨k + 1, by omega, by go_num, by rw [Hst.out]; exact hm6, hb6⟩
      case measure => simp [RowKit.intOf]; omega
    · obtain rfl : k = f.es.length := by omega
      rw [List.take_length] at hmk
      obtain ⟨W6, rfl⟩ : ∃ W : World, W = wr := ⟨_, rfl⟩
      have hbB := hb
      have hq0 := hmk.mono hl1
      clear hb hmk hlt hk
      go_wp2_with fail
      obtain ⟨bt, hbt⟩ : ∃ b, b = W6.heap.size := ⟨_, rfl⟩
      rw [← hbt]
      have hm0 : MapOf (Value.int .i64) (W6.alloc (.map #[] 0)) bt 0 (numF (g.es.take 0)) := by rw [hbt]; exact (MapOf.made _).congr (fun _ => rfl)
      have hbtw : w5.heap.size ≤ bt := by rw [hbt]; exact hbB.size
      have hbA := hbB.alloc (hbB.size) (.map #[] 0)
      have hne0 : bo ≠ bt := by rw [hbt]; exact Nat.ne_of_lt hq0.lt
      have hq0A := hq0.alloc (.map #[] 0)
      clear hbt
      go_loopw [12] (fun i wr => ∃ k : Nat, k ≤ g.es.length ∧ i = .int .i64 k ∧ MapOf (Value.int .i64) wr bt k (numF (g.es.take k)) ∧ MapOf (Value.int .i64) wr bo 300 (numF f.es) ∧ Below w5.heap.size w5 wr) (fun i _ => g.es.length - (RowKit.intOf i).toNat)
      case atStart => exact ⟨0, Nat.zero_le _, rfl, hm0, hq0A, hbA⟩
      case round =>
        clear hm0 hbA hq0A hq0 hbB
        obtain ⟨k, hk, rfl, hmk, hp0, hb⟩ := hrel
        by_cases hlt : k < g.es.length
        · obtain ⟨x, hx⟩ := at_some hlt
          obtain ⟨b, off, hae, hbl, c0, c1, c2, c3⟩ := ent_at (HR2.out.keeps hb) hx
          subst hae
          have Hst := Lib.hid (HNG.out k x hx)
          obtain ⟨xp, xi, xd, xt⟩ := x
          dsimp only at c0 c1 c2 c3 Hst
          have hlti : (k : Int) < (g.es.length : Int) := by omega
          have hlt0 : (0 : Int) ≤ (k : Int) := by omega
          clear hx
          go_wp2_with fail
          have hraw : ∀ p, World.cell? { heap := wr.heap, tape := wr.tape, drawn := wr.drawn + 1, os := wr.os, output := wr.output } p = wr.cell? p := fun _ => rfl
          go_still_tail 10, (by kernel_rfl)
          change wpList _ _ _ _ _ wr.drew
          clear hraw
          go_wp2_with (at_mapUpdate; refine wpList_mapUpdate_of rfl _ _ _ 62 rfl 3 38 intK Tryd.underlying62 rfl (hmk.of_block rfl) xi rfl _ rfl ?_)
          intro w6 hm6 hg6
          have hb6 := hb.drew.grown hg6 (by simpa using hb.size) (fun j ej => by cases ej; exact hbtw)
          have hp06 := (hp0.drewN 1).grown hg6 (fun e => hne0 (Option.some.inj e))
          clear hg6
          go_wp2_with fail
          go_roundw
          case rel => exact ⟨k + 1, by omega, by go_num, by rw [Hst.out]; exact hm6, hp06, hb6⟩
          case measure => simp [RowKit.intOf]; omega
        · obtain rfl : k = g.es.length := by omega
          rw [List.take_length] at hmk
          obtain ⟨W7, rfl⟩ : ∃ W : World, W = wr := ⟨_, rfl⟩
          have hbB := hb
          have hq0 := hp0
          have hq1 := hmk.mono hl2
          clear hb hmk hlt hk hp0 hne0
          go_wp2_with fail
          refine (HD3.out _ hbB).mono ?_
          rintro e W8 ⟨v7, rfl, hov7, hb8⟩
          obtain ⟨S, hS⟩ : ∃ S, scanK (f.es.map toK) g.es = S := ⟨_, rfl⟩
          rw [hS] at hov7 HScan HSl
          have hSl : S.length ≤ 900 := HSl.out
          obtain ⟨a7, c7, rfl, hrow7, hc7⟩ := hov7.read
          have HR7 := Lib.hid hrow7
          have hb8w : Below w.heap.size w W8 := hb5w.trans ((hbB.trans (hb8.mono hbB.size)).mono hb5w.size)
          have HR1 := Lib.hid ((HR1.out.keeps hbB).keeps hb8)
          have HR2 := Lib.hid ((HR2.out.keeps hbB).keeps hb8)
          have hn0 := hq0.lt
          have hn1 := hq1.lt
          have HM0 := Lib.hid (hq0.below hb8 hn0)
          have HM1 := Lib.hid (hq1.below hb8 hn1)
          have hz0 : bo < W8.heap.size := Nat.lt_of_lt_of_le hn0 hb8.size
          have hz1 : bt < W8.heap.size := Nat.lt_of_lt_of_le hn1 hb8.size
          clear hn0 hn1 hq0 hq1 hov7 hrow7 HD3 hb8 hbB hS hb5w hbow hbtw
          go_wp2_with fail
          go_loopw [14, 15, 16] (fun m d i wr => ∃ k : Nat, k ≤ S.length ∧ i = .int .i64 k ∧ m = .int .i64 (((S.take k).countP isMade : Nat) : Int) ∧ d = .int .i64 (((S.take k).countP isDrop : Nat) : Int) ∧ Below W8.heap.size W8 wr) (fun _ _ i _ => S.length - (RowKit.intOf i).toNat)
          case atStart => exact ⟨0, Nat.zero_le _, rfl, rfl, rfl, Below.refl _ _⟩
          case round =>
            obtain ⟨k, hk, rfl, rfl, rfl, hb⟩ := hrel
            by_cases hlt : k < S.length
            · obtain ⟨c, hc⟩ := at_some hlt
              obtain ⟨b4, o4, hae, hbl4, k0, k1, k2, k3, k4⟩ := ch_at (HR7.out.keeps hb) hc
              subst hae
              have hcm := count_step (p := isMade) hc
              have hcd := count_step (p := isDrop) hc
              have hok := HScan.out.2.2.1 c (List.mem_of_getElem? hc)
              have hb4lt : b4 < wr.heap.size := hbl4
              have hlm := (HM0.out.below hb hz0).lookup_ok intK Tryd.underlying62 c.id (zeroEnt _)
              rw [show numF f.es c.id = (getI f.es c.id).map Ent.val from rfl, getD_val, Option.isSome_map] at hlm
              obtain ⟨x, hx⟩ : ∃ x, (getI f.es c.id).getD noEnt = x := ⟨_, rfl⟩
              rw [hx] at hlm
              have hln := ((HM1.out.below hb hz1).alloc (.cells #[.string x.path, .int .i64 x.id, .bool x.dir, .string x.data] 38)).lookup_ok intK Tryd.underlying62 c.id (zeroEnt _)
              rw [show numF g.es c.id = (getI g.es c.id).map Ent.val from rfl, getD_val, Option.isSome_map] at hln
              obtain ⟨y, hy⟩ : ∃ y, (getI g.es c.id).getD noEnt = y := ⟨_, rfl⟩
              rw [hy] at hln
              have hmlt : (S.take k).countP isMade ≤ 1000000000 ∨ 1000000000 < (S.take k).countP isMade := by omega
              have hlen1 : (S.take k).countP isMade ≤ S.length := Nat.le_trans List.countP_le_length (List.length_take_le' _ _)
              have hlen2 : (S.take k).countP isDrop ≤ S.length := Nat.le_trans List.countP_le_length (List.length_take_le' _ _)
              clear hmlt hc
              generalize (S.take k).countP isMade = nm at *
              generalize (S.take k).countP isDrop = nd at *
              unfold Ent.val at hlm hln
              have hA := (Below.refl wr.heap.size wr).alloc (Nat.le_refl _) (.cells #[.string x.path, .int .i64 x.id, .bool x.dir, .string x.data] 38)
              have hB := hA.alloc hA.size (.cells #[.string y.path, .int .i64 y.id, .bool y.dir, .string y.data] 38)
              have hb2 := hb.trans (hB.mono hb.size)
              have hVx := (VarAt.new wr #[.string x.path, .int .i64 x.id, .bool x.dir, .string x.data] 38).keeps ((Below.refl _ _).alloc (Nat.le_refl _) (.cells #[.string y.path, .int .i64 y.id, .bool y.dir, .string y.data] 38)) (by simp)
              have hVy := VarAt.new (wr.alloc (.cells #[.string x.path, .int .i64 x.id, .bool x.dir, .string x.data] 38)) #[.string y.path, .int .i64 y.id, .bool y.dir, .string y.data] 38
              rw [show (wr.alloc (.cells #[.string x.path, .int .i64 x.id, .bool x.dir, .string x.data] 38)).heap.size = wr.heap.size + 1 by simp] at hVy
              obtain ⟨xb, hxb⟩ : ∃ xb, xb = wr.heap.size := ⟨_, rfl⟩
              obtain ⟨yb, hyb⟩ : ∃ yb, yb = wr.heap.size + 1 := ⟨_, rfl⟩
              rw [← hxb] at hVx
              rw [← hyb] at hVy
              have Hxb := Lib.hid hxb
              have Hyb := Lib.hid hyb
              have Hx := Lib.hid hx
              have Hy := Lib.hid hy
              have hlti : (k : Int) < (S.length : Int) := by omega
              have hlt0 : (0 : Int) ≤ (k : Int) := by omega
              obtain ⟨ck, ci, cp, cd, ct⟩ := c
              dsimp only at k0 k1 k2 k3 k4 hlm hln hok
              have l0 := (hB.cell (p := ⟨b4, o4 + k * 5, none⟩) hb4lt).trans k0
              have l2 := (hB.cell (p := ⟨b4, o4 + k * 5 + 2, none⟩) hb4lt).trans k2
              have l4 := (hB.cell (p := ⟨b4, o4 + k * 5 + 4, none⟩) hb4lt).trans k4
              have x0 := hVx.2.2 0 _ rfl
              have x2 := hVx.2.2 2 _ rfl
              have x3 := hVx.2.2 3 _ rfl
              have y0 := hVy.2.2 0 _ rfl
              have y2 := hVy.2.2 2 _ rfl
              have y3 := hVy.2.2 3 _ rfl
              have Hcm := Lib.hid hcm
              have Hcd := Lib.hid hcd
              have Hok := Lib.hid hok
              clear hxb hyb hx hy hcm hcd hok hVx hVy hA hB hbl4 hb
              go_upto_region 25 with fail
              rw [← Hyb.out, ← Hxb.out]
              clear k0 k1 k2 k3 k4 hlm hln
              obtain ⟨p, hp⟩ : ∃ p, (getI f.es ci).isSome = p := ⟨_, rfl⟩
              obtain ⟨q, hq⟩ : ∃ q, (getI g.es ci).isSome = q := ⟨_, rfl⟩
              rw [hp, hq]
              have Hp := Lib.hid hp
              have Hq := Lib.hid hq
              clear hp hq
              generalize (wr.alloc (.cells #[.string x.path, .int .i64 x.id, .bool x.dir, .string x.data] 38)).alloc (.cells #[.string y.path, .int .i64 y.id, .bool y.dir, .string y.data] 38) = W4 at *
              obtain ⟨xp, xi, xd, xt⟩ := x
              obtain ⟨yp, yi, yd, yt⟩ := y
              dsimp only at x0 x2 x3 y0 y2 y3
              rcases Hok.out with ⟨e1, u, e2, e3, e4, e5⟩ | ⟨e1, u, e2, e3, e4⟩ | ⟨e1, u, v, e2, e3, e4⟩ | ⟨e1, u, v, e2, e3, e4, e5⟩
              · dsimp only at e1 e2 e3 e4 e5
                have h1 := Hp.out
                have h2 := Hq.out
                have h3 := Hy.out
                dsimp only at h3
                rw [e2] at h1
                rw [e3] at h2 h3
                obtain rfl : false = p := h1
                obtain rfl : true = q := h2
                rw [Option.getD_some] at h3
                subst h3
                dsimp only at e4 e5
                subst e1 e4 e5
                have HK := Lib.hid (⟨Hcm.out, Hcd.out⟩ : _ ∧ _)
                clear e2 e3 Hcm Hcd Hok Hx Hy Hp Hq
                go_wp2_with fail
                go_quiet (fail)
                go_wp2_with fail
                go_roundw
                case rel => exact ⟨k + 1, by omega, by go_num, by rw [HK.out.1]; go_num, by rw [HK.out.2]; rfl, belowDrew hb2 _⟩
                case measure => simp [RowKit.intOf]; omega
              · dsimp only at e1 e2 e3 e4
                have h1 := Hp.out
                have h2 := Hq.out
                have h3 := Hx.out
                dsimp only at h3
                rw [e2] at h1 h3
                rw [e3] at h2
                obtain rfl : true = p := h1
                obtain rfl : false = q := h2
                rw [Option.getD_some] at h3
                subst h3
                dsimp only at e4
                subst e1 e4
                have HK := Lib.hid (⟨Hcm.out, Hcd.out⟩ : _ ∧ _)
                clear e2 e3 Hcm Hcd Hok Hx Hy Hp Hq
                go_wp2_with fail
                go_quiet (fail)
                go_wp2_with fail
                go_roundw
                case rel => exact ⟨k + 1, by omega, by go_num, by rw [HK.out.1]; rfl, by rw [HK.out.2]; go_num, belowDrew hb2 _⟩
                case measure => simp [RowKit.intOf]; omega
              · dsimp only at e1 e2 e3
                have h1 := Hp.out
                have h2 := Hq.out
                have h3 := Hx.out
                have h4 := Hy.out
                dsimp only at h3 h4
                rw [e2] at h1 h3
                rw [e3] at h2 h4
                obtain rfl : true = p := h1
                obtain rfl : true = q := h2
                rw [Option.getD_some] at h3 h4
                subst h3 h4
                dsimp only at e4
                subst e1
                have HK := Lib.hid (⟨Hcm.out, Hcd.out⟩ : _ ∧ _)
                have He := Lib.hid e4
                clear e2 e3 Hcm Hcd Hok Hx Hy Hp Hq e4
                have hb3 := hb2
                by_cases hpp : xp = yp
                · have hS1 : ((S.length : Int) == 1) = false := by
                    rw [beq_eq_false_iff_ne]
                    have := He.out
                    intro e
                    exact this ⟨hpp, by omega⟩
                  have q1 := str_eq hpp
                  clear hpp He
                  cases hd : (xd == yd) with
                  | false =>
                    go_wp2_with fail
                    go_roundw
                    case rel => exact ⟨k + 1, by omega, by go_num, by rw [HK.out.1]; rfl, by rw [HK.out.2]; rfl, hb3⟩
                    case measure => simp [RowKit.intOf]; omega
                  | true =>
                    cases hl : ((g.es.length : Int) == (f.es.length : Int)) with
                    | false =>
                      go_wp2_with fail
                      go_roundw
                      case rel => exact ⟨k + 1, by omega, by go_num, by rw [HK.out.1]; rfl, by rw [HK.out.2]; rfl, hb3⟩
                      case measure => simp [RowKit.intOf]; omega
                    | true =>
                      go_wp2_with fail
                      go_roundw
                      case rel => exact ⟨k + 1, by omega, by go_num, by rw [HK.out.1]; rfl, by rw [HK.out.2]; rfl, hb3⟩
                      case measure => simp [RowKit.intOf]; omega
                · have q1 := str_ne hpp
                  clear hpp He
                  go_wp2_with fail
                  go_roundw
                  case rel => exact ⟨k + 1, by omega, by go_num, by rw [HK.out.1]; rfl, by rw [HK.out.2]; rfl, hb3⟩
                  case measure => simp [RowKit.intOf]; omega
              · dsimp only at e1 e2 e3
                have h1 := Hp.out
                have h2 := Hq.out
                have h3 := Hx.out
                have h4 := Hy.out
                dsimp only at h3 h4
                rw [e2] at h1 h3
                rw [e3] at h2 h4
                obtain rfl : true = p := h1
                obtain rfl : true = q := h2
                rw [Option.getD_some] at h3 h4
                subst h3 h4
                dsimp only at e4 e5
                subst e1 e5
                have HK := Lib.hid (⟨Hcm.out, Hcd.out⟩ : _ ∧ _)
                have q1 := str_ne e4
                clear e2 e3 Hcm Hcd Hok Hx Hy Hp Hq e4
                go_wp2_with fail
                go_quiet (fail)
                go_wp2_with fail
                go_roundw
                case rel => exact ⟨k + 1, by omega, by go_num, by rw [HK.out.1]; rfl, by rw [HK.out.2]; rfl, belowDrew hb2 _⟩
                case measure => simp [RowKit.intOf]; omega
            · obtain rfl : k = S.length := by omega
              rw [List.take_length]
              obtain ⟨W9, rfl⟩ : ∃ W : World, W = wr := ⟨_, rfl⟩
              have hbZ := hb
              obtain ⟨h51, h52, h53, h54⟩ := HScan.out.2.2
              have hna : S.countP isMade ≤ S.length := List.countP_le_length
              have hnd : S.countP isDrop ≤ S.length := List.countP_le_length
              have Hna := Lib.hid h52
              have hng : f.es.countP (isFresh g) ≤ f.es.length := List.countP_le_length
              have Hd1 := Lib.hid h53
              have Hd2 := Lib.hid h54
              clear hb hk hlt h51 h52 h53 h54
              generalize S.countP isMade = na at *
              generalize S.countP isDrop = nd at *
              go_wp2_with fail
              go_loopw [21, 22] (fun m i wr => ∃ k : Nat, k ≤ g.es.length ∧ i = .int .i64 k ∧ m = .int .i64 (((g.es.take k).countP (isFresh f) : Nat) : Int) ∧ Below W8.heap.size W8 wr) (fun _ i _ => g.es.length - (RowKit.intOf i).toNat)
              case atStart => exact ⟨0, Nat.zero_le _, rfl, rfl, hbZ⟩
              case round =>
                clear hbZ
                obtain ⟨k, hk, rfl, rfl, hb⟩ := hrel
                by_cases hlt : k < g.es.length
                · obtain ⟨x, hx⟩ := at_some hlt
                  obtain ⟨b, off, hae, hbl, c0, c1, c2, c3⟩ := ent_at (HR2.out.keeps hb) hx
                  subst hae
                  have hcm := count_step (p := isFresh f) hx
                  have hlen1 : (g.es.take k).countP (isFresh f) ≤ g.es.length := Nat.le_trans List.countP_le_length (by rw [List.length_take]; omega)
                  have hlm := (HM0.out.below hb hz0).lookup_ok intK Tryd.underlying62 x.id (zeroEnt _)
                  rw [show numF f.es x.id = (getI f.es x.id).map Ent.val from rfl, getD_val, Option.isSome_map] at hlm
                  have hfr : isFresh f x = !(getI f.es x.id).isSome := by
                    unfold isFresh
                    cases getI f.es x.id <;> rfl
                  rw [hfr] at hcm
                  generalize (getI f.es x.id).getD noEnt = y at hlm
                  generalize (getI f.es x.id).isSome = p at hlm hcm
                  obtain ⟨xp, xi, xd, xt⟩ := x
                  dsimp only at c0 c1 c2 c3 hlm
                  unfold Ent.val at hlm
                  have hb2 := hb.alloc hb.size (.cells #[.string y.path, .int .i64 y.id, .bool y.dir, .string y.data] 38)
                  have HK := Lib.hid hcm
                  have hlti : (k : Int) < (g.es.length : Int) := by omega
                  have hlt0 : (0 : Int) ≤ (k : Int) := by omega
                  clear hcm hx hfr hb
                  generalize (g.es.take k).countP (isFresh f) = nm at *
                  cases p with
                  | true =>
                    go_wp2_with fail
                    go_roundw
                    case rel => exact ⟨k + 1, by omega, by go_num, by rw [HK.out]; rfl, hb2⟩
                    case measure => simp [RowKit.intOf]; omega
                  | false =>
                    go_wp2_with fail
                    go_roundw
                    case rel => exact ⟨k + 1, by omega, by go_num, by rw [HK.out]; rfl, hb2⟩
                    case measure => simp [RowKit.intOf]; omega
                · obtain rfl : k = g.es.length := by omega
                  rw [List.take_length]
                  obtain ⟨WA, rfl⟩ : ∃ W : World, W = wr := ⟨_, rfl⟩
                  have hbZ := hb
                  clear hb hk hlt
                  rw [← Hna.out]
                  go_wp2_with fail
                  go_loopw [25, 26] (fun m i wr => ∃ k : Nat, k ≤ f.es.length ∧ i = .int .i64 k ∧ m = .int .i64 (((f.es.take k).countP (isFresh g) : Nat) : Int) ∧ Below W8.heap.size W8 wr) (fun _ i _ => f.es.length - (RowKit.intOf i).toNat)
                  case atStart => exact ⟨0, Nat.zero_le _, rfl, rfl, hbZ⟩
                  case round =>
                    clear hbZ
                    obtain ⟨k, hk, rfl, rfl, hb⟩ := hrel
                    by_cases hlt : k < f.es.length
                    · obtain ⟨x, hx⟩ := at_some hlt
                      obtain ⟨b, off, hae, hbl, c0, c1, c2, c3⟩ := ent_at (HR1.out.keeps hb) hx
                      subst hae
                      have hcm := count_step (p := isFresh g) hx
                      have hlen1 : (f.es.take k).countP (isFresh g) ≤ f.es.length := Nat.le_trans List.countP_le_length (by rw [List.length_take]; omega)
                      have hlm := (HM1.out.below hb hz1).lookup_ok intK Tryd.underlying62 x.id (zeroEnt _)
                      rw [show numF g.es x.id = (getI g.es x.id).map Ent.val from rfl, getD_val, Option.isSome_map] at hlm
                      have hfr : isFresh g x = !(getI g.es x.id).isSome := by
                        unfold isFresh
                        cases getI g.es x.id <;> rfl
                      rw [hfr] at hcm
                      generalize (getI g.es x.id).getD noEnt = y at hlm
                      generalize (getI g.es x.id).isSome = p at hlm hcm
                      obtain ⟨xp, xi, xd, xt⟩ := x
                      dsimp only at c0 c1 c2 c3 hlm
                      unfold Ent.val at hlm
                      have hb2 := hb.alloc hb.size (.cells #[.string y.path, .int .i64 y.id, .bool y.dir, .string y.data] 38)
                      have HK := Lib.hid hcm
                      have hlti : (k : Int) < (f.es.length : Int) := by omega
                      have hlt0 : (0 : Int) ≤ (k : Int) := by omega
                      clear hcm hx hfr hb
                      generalize (f.es.take k).countP (isFresh g) = nm at *
                      cases p with
                      | true =>
                        go_wp2_with fail
                        go_roundw
                        case rel => exact ⟨k + 1, by omega, by go_num, by rw [HK.out]; rfl, hb2⟩
                        case measure => simp [RowKit.intOf]; omega
                      | false =>
                        go_wp2_with fail
                        go_roundw
                        case rel => exact ⟨k + 1, by omega, by go_num, by rw [HK.out]; rfl, hb2⟩
                        case measure => simp [RowKit.intOf]; omega
                    · obtain rfl : k = f.es.length := by omega
                      rw [List.take_length]
                      obtain ⟨WB, rfl⟩ : ∃ W : World, W = wr := ⟨_, rfl⟩
                      have hbZ := hb
                      clear hb hk hlt
                      have hgo : f.es.countP (isFresh g) ≤ 300 := by omega
                      have hle : ((nd : Nat) : Int) ≤ ((f.es.countP (isFresh g) : Nat) : Int) := by have := Hd1.out; omega
                      have hio : 0 < nd ↔ 0 < f.es.countP (isFresh g) := Hd2.out
                      generalize f.es.countP (isFresh g) = ng at *
                      have hWB := hb8w.trans (hbZ.mono hb8w.size)
                      clear Hna Hd1 Hd2
                      by_cases hp : 0 < nd
                      · have hq : 0 < ng := hio.1 hp
                        have p1 : ((nd : Nat) : Int) > 0 := by omega
                        have p2 : ((ng : Nat) : Int) > 0 := by omega
                        clear hio
                        go_wp2_with fail
                        refine (HAW.out _).mono ?_
                        rintro e wq ⟨rfl, hbq⟩
                        go_wp2_with fail
                        go_ret
                        exact ⟨rfl, hWB.trans (hbq.mono hWB.size)⟩
                      · have hq : ¬ 0 < ng := fun h => hp (hio.2 h)
                        have p1 : ¬ ((nd : Nat) : Int) > 0 := by omega
                        have p2 : ¬ ((ng : Nat) : Int) > 0 := by omega
                        clear hio
                        go_wp2_with fail
                        refine (HAW.out _).mono ?_
                        rintro e wq ⟨rfl, hbq⟩
                        go_wp2_with fail
                        go_ret
                        exact ⟨rfl, hWB.trans (hbq.mono hWB.size)⟩
end Go.Proofs.YtgjgeojhhglidaaDoor
