import Derived.Test.YtgjgeojhhglidaaDoorCut
import Derived.Test.YtgjgeojhhglidaaDoorLayW4
namespace Go.Proofs.YtgjgeojhhglidaaDoor
open Go.RowKit Go.Lib

theorem ownDis_ne {vo vg : Value} (h : ∀ j, vo.ownBlock = some j → vg.ownBlock = some j → False) : vg.ownBlock = none ∨ vg.ownBlock ≠ vo.ownBlock := by
  cases hg : vg.ownBlock with
  | none => exact .inl rfl
  | some j => exact .inr fun e => h j e.symm hg
theorem cell_two {w : World} {o1 o2 : Obj} {b i : Nat} {v : Value} (hb : b < w.heap.size) (h : w.cell? ⟨b, i, none⟩ = some v) : ((w.alloc o1).alloc o2).cell? ⟨b, i, none⟩ = some v :=
  ((((Below.refl w.heap.size w).alloc (Nat.le_refl _) o1).alloc (by simp) o2).cell (p := ⟨b, i, none⟩) hb).trans h
theorem box_two (w : World) (x y : Ent) (t : TypeId) : ((w.alloc (.cells #[.string x.path, .int .i64 x.id, .bool x.dir, .string x.data] t)).alloc (.cells #[.string y.path, .int .i64 y.id, .bool y.dir, .string y.data] t)).cell? ⟨w.heap.size, 0, none⟩ = some (.string x.path) ∧
    ((w.alloc (.cells #[.string x.path, .int .i64 x.id, .bool x.dir, .string x.data] t)).alloc (.cells #[.string y.path, .int .i64 y.id, .bool y.dir, .string y.data] t)).cell? ⟨w.heap.size, 2, none⟩ = some (.bool x.dir) ∧
    w.heap.size + 2 ≤ ((w.alloc (.cells #[.string x.path, .int .i64 x.id, .bool x.dir, .string x.data] t)).alloc (.cells #[.string y.path, .int .i64 y.id, .bool y.dir, .string y.data] t)).heap.size := by
  refine ⟨?_, ?_, by simp⟩
  · exact (((Below.refl _ _).alloc (Nat.le_refl _) _).cell (p := ⟨w.heap.size, 0, none⟩) (by simp)).trans (by simp)
  · exact (((Below.refl _ _).alloc (Nat.le_refl _) _).cell (p := ⟨w.heap.size, 2, none⟩) (by simp)).trans (by simp)
theorem getD_val (o : Option Ent) : (o.map Ent.val).getD noEnt.val = (o.getD noEnt).val := by cases o <;> rfl
theorem firstFn_get (l : List Ent) (q : Ent → Bool) (p : ByteArray) : ∃ (z : Ent) (had : Bool), (firstFn l q p).getD noEnt.val = z.val ∧ (firstFn l q p).isSome = had ∧ (firstFn l q p).isNone = !had := by
  unfold firstFn
  rw [getD_val, Option.isSome_map]
  refine ⟨_, _, rfl, rfl, ?_⟩
  rw [Option.isNone_map]
  cases (l.find? fun x => decide (x.path = p) && q x) <;> rfl
theorem firstFn_find (l : List Ent) (p : ByteArray) : firstFn l (fun _ => true) p = (findE l p).map Ent.val := by
  unfold firstFn findE
  simp

set_option maxRecDepth 100000 in
set_option maxHeartbeats 1600000 in
theorem removes_any (a : Option Addr) (cap bm nb : Nat) (now want : List Ent) (w : World) (hl : now.length ≤ 100) (hsz : ∀ x ∈ now, x.path.size ≤ 500) (ha : RowsAt entLay w a now) (hmw : MapOf Value.string w bm nb (firstFn want fun _ => true)) :
    Calls Tryd.prog 54 #[.slice a now.length cap, .map (some bm)] w fun e w' => ∃ v bk n, e = .returned (.tuple #[v, .map (some bk)]) ∧ OwnRows act3Lay w' w.heap.size 54 v (remA now want now.length) ∧ MapOf Value.string w' bk n (firstFn now fun x => staysE x want) ∧ w.heap.size ≤ bk ∧ Below w.heap.size w w' := by
  have HA := Lib.hid ha
  have HS := Lib.hid hsz
  have hmm := @run_makeMap Tryd.prog
  obtain ⟨i0, hi, hz0, hz1, hz2⟩ := info_parts actInfo
  have Hi := Lib.hid hi
  have Hz0 := Lib.hid hz0
  have Hz1 := Lib.hid hz1
  have Hz2 := Lib.hid hz2
  obtain ⟨j0, si, sz0, sz1, sz2⟩ := info_parts strInfo
  have Si := Lib.hid si
  have Sz0 := Lib.hid sz0
  have Sz1 := Lib.hid sz1
  have Sz2 := Lib.hid sz2
  have hbm := hmw.lt
  clear hi hz0 hz1 hz2 si sz0 sz1 sz2 ha hsz
  go_enter Tryd.func54, Tryd.ntmps54
  go_wp2
  go_loopw [6, 7, 23] (fun va vg i wr => ∃ k : Nat, k ≤ now.length ∧ i = .int .i64 k ∧ OwnRows act3Lay wr w.heap.size 54 va (remA now want k) ∧ OwnRows strLay wr w.heap.size 9 vg (goneA now want k) ∧ Hid (∀ j, va.ownBlock = some j → vg.ownBlock = some j → False) ∧ MapOf Value.string wr w.heap.size k (firstFn (now.take k) fun x => staysE x want) ∧ Below w.heap.size w wr) (fun _ _ i _ => now.length - (RowKit.intOf i).toNat)
  case atStart => exact ⟨0, Nat.zero_le _, rfl, OwnRows.nil _ _ _ _, OwnRows.nil _ _ _ _, (fun j h => by cases h), MapOf.made _, (Below.refl _ _).alloc (Nat.le_refl _) _⟩
  case round =>
    obtain ⟨k, hk, rfl, hoa, hog, hdis, hmk, hb⟩ := hrel
    by_cases hlt : k < now.length
    · obtain ⟨x, hx⟩ := at_some hlt
      have hx5 := HS.out x (List.mem_of_getElem? hx)
      obtain ⟨b, off, rfl, hbl, c0, c1, c2, c3⟩ := ent_at (HA.out.keeps hb) hx
      have Hx := Lib.hid hx
      have htk : now.take (k + 1) = now.take k ++ [x] := by rw [List.take_add_one, hx]; rfl
      have Htk := Lib.hid htk
      clear hx htk
      have hmw2 := hmw.below hb hbm
      have hl1 := (hmw2.alloc (.cells #[.string x.path, .int .i64 x.id, .bool x.dir, .string x.data] 38)).lookup_ok mapK Tryd.underlying68 x.path (zeroEnt _)
      rw [firstFn_find, getD_val, Option.isSome_map] at hl1
      have hst : staysE x want = ((findE want x.path).isSome && (x.dir == ((findE want x.path).getD noEnt).dir)) := by
        unfold staysE; cases findE want x.path <;> rfl
      generalize (findE want x.path).getD noEnt = y at hl1 hst
      generalize (findE want x.path).isSome = ok at hl1 hst
      unfold Ent.val at hl1
      have hl2 := ((hmk.alloc (.cells #[.string x.path, .int .i64 x.id, .bool x.dir, .string x.data] 38)).alloc (.cells #[.string y.path, .int .i64 y.id, .bool y.dir, .string y.data] 38)).lookup_ok mapK Tryd.underlying68 x.path (zeroEnt _)
      obtain ⟨z, had, hz1, hz2, hz3⟩ := firstFn_get (now.take k) (fun x => staysE x want) x.path
      rw [hz1, hz2] at hl2
      clear hz1 hz2
      unfold Ent.val at hl2
      have hkf := firstFn_snoc (now.take k) (fun x => staysE x want) x
      rw [hz3, ← Htk.out] at hkf
      clear hz3
      have Hra := Lib.hid (remA_step (want := want) Hx.out)
      have Hga := Lib.hid (goneA_step (want := want) Hx.out)
      have Hkf := Lib.hid hkf
      clear hkf
      by_cases hs : staysE x want = true
      · have Hs := Lib.hid hs
        rw [hs] at hst
        have h2 : ok = true ∧ (x.dir == y.dir) = true := by simpa using hst.symm
        obtain ⟨rfl, hd⟩ := h2
        clear hst hs
        cases had with
        | true =>
          go_wp2_with fail
          go_roundw
          case rel =>
            refine ⟨k + 1, by omega, by go_num, ?_, ?_, hdis, ?_, ?_⟩
            · rw [Hra.out, Hs.out]; exact (((hoa.alloc _).alloc _).alloc _)
            · rw [Hga.out, Hs.out]; exact (((hog.alloc _).alloc _).alloc _)
            · rw [Hkf.out]
              simp only [Bool.not_true, Bool.and_false, if_false, Bool.false_eq_true]
              exact (((hmk.alloc _).alloc _).alloc _).mono (by omega)
            · exact ((hb.alloc hb.size _).alloc (by have := hb.size; simp; omega) _).alloc (by have := hb.size; simp; omega) _
          case measure => simp [RowKit.intOf]; omega
        | false =>
          go_wp2_with (at_mapUpdate; refine wpList_mapUpdate_of rfl _ _ _ 68 rfl 9 38 mapK Tryd.underlying68 rfl (((hmk.alloc _).alloc _).alloc _) x.path rfl _ rfl ?_)
          intro w3 hmk3 hg3
          have hoa3 := (((hoa.alloc _).alloc _).alloc _).kept hg3 (.inr fun e => hoa.ne_map hmk e.symm)
          have hog3 := (((hog.alloc _).alloc _).alloc _).kept hg3 (.inr fun e => hog.ne_map hmk e.symm)
          have hb3 := (((hb.alloc hb.size _).alloc (by have := hb.size; simp; omega) _).alloc (by have := hb.size; simp; omega) _).grown hg3 (by have := hb.size; simp; omega) (fun j ej => by cases ej; exact Nat.le_refl _)
          clear hl1 hl2 hoa hog hmk hg3 c0 c1 c2 c3
          go_wp2_with fail
          go_roundw
          case rel =>
            refine ⟨k + 1, by omega, by go_num, ?_, ?_, hdis, ?_, hb3⟩
            · rw [Hra.out, Hs.out]; exact hoa3
            · rw [Hga.out, Hs.out]; exact hog3
            · rw [Hkf.out, Hs.out]
              exact hmk3
          case measure => simp [RowKit.intOf]; omega
      · have hs : staysE x want = false := by simpa using hs
        have Hs := Lib.hid hs
        rw [hs] at hst
        have hdx : goneA now want (k + 1) = if x.dir then goneA now want k ++ [x.path] else goneA now want k := by rw [Hga.out, hs]; simp
        have hra : remA now want (k + 1) = if !(goneA now want k).any (fun d => underB x.path d) then remA now want k ++ [⟨1, x.path, ⟨#[]⟩⟩] else remA now want k := by
          rw [Hra.out, hs, inB_gone now want x.path k hk]; simp
        have Hdx := Lib.hid hdx
        have Hra2 := Lib.hid hra
        have hgl := goneA_length now want k
        have hrl := remA_length now want k
        have HGs : Hid (∀ d ∈ goneA now want k, d.size ≤ 500) := fun d hd => by
          obtain ⟨u, hu, rfl⟩ := goneA_sub now want k d hd
          exact HS.out u hu
        clear hs hdx hra Hra Hga hl2
        generalize goneA now want k = gone at *
        generalize remA now want k = rem at *
        have hcase : ok = false ∨ (ok = true ∧ (x.dir == y.dir) = false) := by
          cases ok with
          | false => exact .inl rfl
          | true => exact .inr ⟨rfl, by simpa using hst.symm⟩
        clear hst
        obtain ⟨wo, rfl⟩ : ∃ wo : World, wo = wr := ⟨_, rfl⟩
        obtain ⟨ga, gc, rfl, hgr, hgc⟩ := hog.read
        rcases hcase with rfl | ⟨rfl, hd⟩
        all_goals
          go_wp2_with fail
          go_loop [15, 57] (fun inn i => ∃ m : Nat, m ≤ gone.length ∧ i = .int .i64 m ∧ inn = .bool ((gone.take m).any fun d => underB x.path d)) (fun _ i => gone.length - (RowKit.intOf i).toNat)
          case atStart => exact ⟨0, Nat.zero_le _, rfl, rfl⟩
          case round =>
            obtain ⟨m, hm, rfl, rfl⟩ := hrel
            by_cases hlm : m < gone.length
            · obtain ⟨d, hd0⟩ := at_some hlm
              obtain ⟨gb, go, rfl, hgb, gc0⟩ := str_at hgr hd0
              have hd5 := HGs.out d (List.mem_of_getElem? hd0)
              obtain ⟨r, c, hu, hcut⟩ := cut_call x.path d
              have HCut := Lib.hid hcut
              have hst : (gone.take (m + 1)).any (fun d => underB x.path d) = ((gone.take m).any (fun d => underB x.path d) || (c && !r.toList.isEmpty)) := by
                rw [List.take_add_one, hd0, Option.toList_some, List.any_append, ← hu]; simp
              have Hst := Lib.hid hst
              generalize (gone.take m).any (fun d => underB x.path d) = b0 at *
              have hgc0 := fun o1 o2 => cell_two (o1 := o1) (o2 := o2) hgb gc0
              clear hst hu hcut hd0 hl1
              go_wp2_with fail
              refine (HCut.out _).mono ?_
              rintro e w' ⟨rfl, rfl⟩
              cases b0 <;> cases c
              all_goals
                go_wp2_with fail
                go_round
                case rel => exact ⟨m + 1, by omega, by go_num, by rw [Hst.out]; simp⟩
                case measure => simp [RowKit.intOf]; omega
            · obtain rfl : m = gone.length := by omega
              rw [List.take_length]
              have hoa2 := (hoa.alloc (.cells #[.string x.path, .int .i64 x.id, .bool x.dir, .string x.data] 38)).alloc (.cells #[.string y.path, .int .i64 y.id, .bool y.dir, .string y.data] 38)
              have hog2 := (hog.alloc (.cells #[.string x.path, .int .i64 x.id, .bool x.dir, .string x.data] 38)).alloc (.cells #[.string y.path, .int .i64 y.id, .bool y.dir, .string y.data] 38)
              have hmk2 := (hmk.alloc (.cells #[.string x.path, .int .i64 x.id, .bool x.dir, .string x.data] 38)).alloc (.cells #[.string y.path, .int .i64 y.id, .bool y.dir, .string y.data] 38)
              have hb2 := (hb.alloc hb.size (.cells #[.string x.path, .int .i64 x.id, .bool x.dir, .string x.data] 38)).alloc (by have := hb.size; simp; omega) (.cells #[.string y.path, .int .i64 y.id, .bool y.dir, .string y.data] 38)
              obtain ⟨e0, e2, hszb⟩ := box_two wo x y 38
              generalize (wo.alloc (.cells #[.string x.path, .int .i64 x.id, .bool x.dir, .string x.data] 38)).alloc (.cells #[.string y.path, .int .i64 y.id, .bool y.dir, .string y.data] 38) = wb at *
              generalize hbb : gone.any (fun d => underB x.path d) = bb
              have Hbb := Lib.hid hbb
              clear hbb hl1
              cases hxd : x.dir with
              | true =>
                rw [hxd] at e2
                cases bb with
                | true =>
                  go_wp2_with (at_builtin; refine wpList_append_rows _ rfl _ _ 76 rfl strLay w.heap.size 9 j0 (.string ⟨#[]⟩) 16 Tryd.underlying76 Si.out Sz0.out Sz1.out Sz2.out rfl (by decide) _ _ rfl (hog2.alloc _) ⟨wb.heap.size, 0, none⟩ 1 x.path rfl (cells_new wb #[.string x.path] 9) (by unfold maxLen; omega) (by omega) (by have := hb2.size; simp; omega) ?_)
                  intro vg w3 hog3 hg3 hat3
                  have hoa3 := (hoa2.alloc (.cells #[.string x.path] 9)).kept hg3 (ownDis_ne fun i h1 h2 => hdis.out i h2 h1)
                  have hmk3 := (hmk2.alloc (.cells #[.string x.path] 9)).grown hg3 (fun e => hog2.ne_map hmk2 e)
                  have hb3 := (hb2.alloc hb2.size (.cells #[.string x.path] 9)).grown hg3 (by have := hb2.size; simp; omega) (fun j ej => (hog2.lt ej).1)
                  have Hdis3 : Hid (∀ i, u6.ownBlock = some i → vg.ownBlock = some i → False) := fun i h1 h2 => by
                    rcases hat3 with h | h
                    · exact hdis.out i h1 (by rw [← h]; exact h2)
                    · rw [h2] at h
                      have := (hoa2.lt h1).2
                      simp at h
                      omega
                  have hbx : ∀ i v, wb.cell? ⟨wo.heap.size, i, none⟩ = some v → w3.cell? ⟨wo.heap.size, i, none⟩ = some v := fun i v hv =>
                    (World.cell?_of_block (w := wb.alloc (.cells #[.string x.path] 9)) (hg3.block wo.heap.size (by simp; omega) (fun e => by have := (hog.lt e.symm).2; omega))).trans (((Below.refl wb.heap.size wb).alloc (Nat.le_refl _) _).cell (p := ⟨wo.heap.size, i, none⟩) (by simp; omega) |>.trans hv)
                  have d0 := hbx 0 _ e0
                  have hsz3 : wo.heap.size + 2 ≤ w3.heap.size := by have := hg3.size; simp at this; omega
                  have ho : goneA now want (k + 1) = gone ++ [x.path] := by rw [Hdx.out, hxd]; simp
                  have Ho := Lib.hid ho
                  clear ho hbx hg3 hat3 hog2 hoa2 hmk2 hb2 e0 e2
                  have hoa4 := hoa3
                  have hog4 := hog3
                  have hmk4 := hmk3
                  have hb4 := hb3
                  have Hdis4 := Hdis3
                  have hr1 : remA now want (k + 1) = rem := by rw [Hra2.out]; simp [Hbb.out]
                  have Hr1 := Lib.hid hr1
                  clear hr1 hoa3 hog3 hmk3 hb3
                  go_wp2_with fail
                  go_roundw
                  case rel =>
                    refine ⟨k + 1, by omega, by go_num, ?_, ?_, Hdis4, ?_, hb4⟩
                    · rw [Hr1.out]; exact hoa4
                    · rw [Ho.out]; exact hog4
                    · rw [Hkf.out, Hs.out]; exact hmk4.mono (by omega)
                  case measure => simp [RowKit.intOf]; omega
                | false =>
                  go_wp2_with (at_builtin; refine wpList_append_rows _ rfl _ _ 76 rfl strLay w.heap.size 9 j0 (.string ⟨#[]⟩) 16 Tryd.underlying76 Si.out Sz0.out Sz1.out Sz2.out rfl (by decide) _ _ rfl (hog2.alloc _) ⟨wb.heap.size, 0, none⟩ 1 x.path rfl (cells_new wb #[.string x.path] 9) (by unfold maxLen; omega) (by omega) (by have := hb2.size; simp; omega) ?_)
                  intro vg w3 hog3 hg3 hat3
                  have hoa3 := (hoa2.alloc (.cells #[.string x.path] 9)).kept hg3 (ownDis_ne fun i h1 h2 => hdis.out i h2 h1)
                  have hmk3 := (hmk2.alloc (.cells #[.string x.path] 9)).grown hg3 (fun e => hog2.ne_map hmk2 e)
                  have hb3 := (hb2.alloc hb2.size (.cells #[.string x.path] 9)).grown hg3 (by have := hb2.size; simp; omega) (fun j ej => (hog2.lt ej).1)
                  have Hdis3 : Hid (∀ i, u6.ownBlock = some i → vg.ownBlock = some i → False) := fun i h1 h2 => by
                    rcases hat3 with h | h
                    · exact hdis.out i h1 (by rw [← h]; exact h2)
                    · rw [h2] at h
                      have := (hoa2.lt h1).2
                      simp at h
                      omega
                  have hbx : ∀ i v, wb.cell? ⟨wo.heap.size, i, none⟩ = some v → w3.cell? ⟨wo.heap.size, i, none⟩ = some v := fun i v hv =>
                    (World.cell?_of_block (w := wb.alloc (.cells #[.string x.path] 9)) (hg3.block wo.heap.size (by simp; omega) (fun e => by have := (hog.lt e.symm).2; omega))).trans (((Below.refl wb.heap.size wb).alloc (Nat.le_refl _) _).cell (p := ⟨wo.heap.size, i, none⟩) (by simp; omega) |>.trans hv)
                  have d0 := hbx 0 _ e0
                  have hsz3 : wo.heap.size + 2 ≤ w3.heap.size := by have := hg3.size; simp at this; omega
                  have ho : goneA now want (k + 1) = gone ++ [x.path] := by rw [Hdx.out, hxd]; simp
                  have Ho := Lib.hid ho
                  clear ho hbx hg3 hat3 hog2 hoa2 hmk2 hb2 e0 e2
                  go_wp2_with (at_builtin; refine wpList_append_rows _ rfl _ _ 51 rfl act3Lay w.heap.size 54 i0 (.agg #[.int .i64 0, .string ⟨#[]⟩, .string ⟨#[]⟩]) 40 Tryd.underlying51 Hi.out Hz0.out Hz1.out Hz2.out rfl (by decide) _ _ rfl (hoa3.alloc _) ⟨w3.heap.size, 0, none⟩ 1 ⟨1, x.path, ⟨#[]⟩⟩ rfl (cells_new w3 #[.int .i64 1, .string x.path, .string ⟨#[]⟩] 54) (by unfold maxLen; omega) (by omega) (by have := hb3.size; simp; omega) ?_)
                  intro va w4 hoa4 hg4 hat4
                  have hog4 := (hog3.alloc (.cells #[.int .i64 1, .string x.path, .string ⟨#[]⟩] 54)).kept hg4 (ownDis_ne Hdis3.out)
                  have hmk4 := (hmk3.alloc (.cells #[.int .i64 1, .string x.path, .string ⟨#[]⟩] 54)).grown hg4 (fun e => hoa3.ne_map hmk3 e)
                  have hb4 := (hb3.alloc hb3.size (.cells #[.int .i64 1, .string x.path, .string ⟨#[]⟩] 54)).grown hg4 (by have := hb3.size; simp; omega) (fun j ej => (hoa3.lt ej).1)
                  have Hdis4 : Hid (∀ i, va.ownBlock = some i → (vg).ownBlock = some i → False) := fun i h1 h2 => by
                    rcases hat4 with h | h
                    · exact Hdis3.out i (by rw [← h]; exact h1) h2
                    · rw [h1] at h
                      have := (hog3.lt h2).2
                      simp at h
                      omega
                  have hr1 : remA now want (k + 1) = rem ++ [⟨1, x.path, ⟨#[]⟩⟩] := by rw [Hra2.out]; simp [Hbb.out]
                  have Hr1 := Lib.hid hr1
                  clear hr1 hg4 hat4 hoa3 hog3 hmk3 hb3
                  go_wp2_with fail
                  go_roundw
                  case rel =>
                    refine ⟨k + 1, by omega, by go_num, ?_, ?_, Hdis4, ?_, hb4⟩
                    · rw [Hr1.out]; exact hoa4
                    · rw [Ho.out]; exact hog4
                    · rw [Hkf.out, Hs.out]; exact hmk4.mono (by omega)
                  case measure => simp [RowKit.intOf]; omega
              | false =>
                rw [hxd] at e2
                cases bb with
                | true =>
                  have hog3 := hog2
                  have hoa3 := hoa2
                  have hmk3 := hmk2
                  have hb3 := hb2
                  have Hdis3 := hdis
                  have d0 := e0
                  have hsz3 := hszb
                  obtain ⟨w3, rfl⟩ : ∃ w3, w3 = wb := ⟨_, rfl⟩
                  have ho : goneA now want (k + 1) = gone := by rw [Hdx.out, hxd]; simp
                  have Ho := Lib.hid ho
                  clear ho hog2 hoa2 hmk2 hb2 e0
                  have hoa4 := hoa3
                  have hog4 := hog3
                  have hmk4 := hmk3
                  have hb4 := hb3
                  have Hdis4 := Hdis3
                  have hr1 : remA now want (k + 1) = rem := by rw [Hra2.out]; simp [Hbb.out]
                  have Hr1 := Lib.hid hr1
                  clear hr1 hoa3 hog3 hmk3 hb3
                  go_wp2_with fail
                  go_roundw
                  case rel =>
                    refine ⟨k + 1, by omega, by go_num, ?_, ?_, Hdis4, ?_, hb4⟩
                    · rw [Hr1.out]; exact hoa4
                    · rw [Ho.out]; exact hog4
                    · rw [Hkf.out, Hs.out]; exact hmk4.mono (by omega)
                  case measure => simp [RowKit.intOf]; omega
                | false =>
                  have hog3 := hog2
                  have hoa3 := hoa2
                  have hmk3 := hmk2
                  have hb3 := hb2
                  have Hdis3 := hdis
                  have d0 := e0
                  have hsz3 := hszb
                  obtain ⟨w3, rfl⟩ : ∃ w3, w3 = wb := ⟨_, rfl⟩
                  have ho : goneA now want (k + 1) = gone := by rw [Hdx.out, hxd]; simp
                  have Ho := Lib.hid ho
                  clear ho hog2 hoa2 hmk2 hb2 e0
                  go_wp2_with (at_builtin; refine wpList_append_rows _ rfl _ _ 51 rfl act3Lay w.heap.size 54 i0 (.agg #[.int .i64 0, .string ⟨#[]⟩, .string ⟨#[]⟩]) 40 Tryd.underlying51 Hi.out Hz0.out Hz1.out Hz2.out rfl (by decide) _ _ rfl (hoa3.alloc _) ⟨w3.heap.size, 0, none⟩ 1 ⟨1, x.path, ⟨#[]⟩⟩ rfl (cells_new w3 #[.int .i64 1, .string x.path, .string ⟨#[]⟩] 54) (by unfold maxLen; omega) (by omega) (by have := hb3.size; simp; omega) ?_)
                  intro va w4 hoa4 hg4 hat4
                  have hog4 := (hog3.alloc (.cells #[.int .i64 1, .string x.path, .string ⟨#[]⟩] 54)).kept hg4 (ownDis_ne Hdis3.out)
                  have hmk4 := (hmk3.alloc (.cells #[.int .i64 1, .string x.path, .string ⟨#[]⟩] 54)).grown hg4 (fun e => hoa3.ne_map hmk3 e)
                  have hb4 := (hb3.alloc hb3.size (.cells #[.int .i64 1, .string x.path, .string ⟨#[]⟩] 54)).grown hg4 (by have := hb3.size; simp; omega) (fun j ej => (hoa3.lt ej).1)
                  have Hdis4 : Hid (∀ i, va.ownBlock = some i → (Value.slice ga gone.length gc).ownBlock = some i → False) := fun i h1 h2 => by
                    rcases hat4 with h | h
                    · exact Hdis3.out i (by rw [← h]; exact h1) h2
                    · rw [h1] at h
                      have := (hog3.lt h2).2
                      simp at h
                      omega
                  have hr1 : remA now want (k + 1) = rem ++ [⟨1, x.path, ⟨#[]⟩⟩] := by rw [Hra2.out]; simp [Hbb.out]
                  have Hr1 := Lib.hid hr1
                  clear hr1 hg4 hat4 hoa3 hog3 hmk3 hb3
                  go_wp2_with fail
                  go_roundw
                  case rel =>
                    refine ⟨k + 1, by omega, by go_num, ?_, ?_, Hdis4, ?_, hb4⟩
                    · rw [Hr1.out]; exact hoa4
                    · rw [Ho.out]; exact hog4
                    · rw [Hkf.out, Hs.out]; exact hmk4.mono (by omega)
                  case measure => simp [RowKit.intOf]; omega
    · obtain rfl : k = now.length := by omega
      rw [List.take_length] at hmk
      go_wp2_with fail
      go_ret2
      exact ⟨_, _, _, rfl, hoa, hmk, Nat.le_refl _, hb⟩
end Go.Proofs.YtgjgeojhhglidaaDoor
