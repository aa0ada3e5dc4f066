import Derived.Test.YtgjgeojhhglidaaDoorLayW5
import Derived.Outline
namespace Go.Proofs.YtgjgeojhhglidaaDoor
open Go.RowKit Go.Lib

theorem firstFn_there (now want : List Ent) (p : ByteArray) : firstFn now (fun x => staysE x want) p = (thereE now want p).map Ent.val := rfl

set_option maxRecDepth 100000 in
set_option maxHeartbeats 3200000 in
theorem plan_any (a a' : Option Addr) (cap cap' : Nat) (now want : List Ent) (w : World) (hl : now.length ≤ 100) (hl' : want.length ≤ 100) (hsz : ∀ x ∈ now, x.path.size ≤ 500) (ha : RowsAt entLay w a now) (ha' : RowsAt entLay w a' want) :
    Calls Tryd.prog 33 #[.slice a now.length cap, .slice a' want.length cap'] w fun e w' => ∃ v, e = .returned v ∧ OwnRows act3Lay w' w.heap.size 54 v (planA now want) ∧ Below w.heap.size w w' := by
  have HB := Lib.hid (byPath_any a' cap' want w (by omega) ha')
  have HR := Lib.hid fun W (hb : Below w.heap.size w W) bm nb hm => removes_any a cap bm nb now want W hl hsz (ha.keeps hb) hm
  have HA' := Lib.hid ha'
  obtain ⟨i0, hi, hz0, hz1, hz2⟩ := info_parts actInfo
  have Hi := Lib.hid hi
  have Hz0 := Lib.hid hz0
  have Hz1 := Lib.hid hz1
  have Hz2 := Lib.hid hz2
  clear hi hz0 hz1 hz2 ha ha' hsz
  go_enter Tryd.func33, Tryd.ntmps33
  go_wp2_with fail
  refine HB.out.mono ?_
  rintro e w1 ⟨rfl, hm1, hb1⟩
  go_wp2_with fail
  refine (HR.out _ hb1 _ _ hm1).mono ?_
  rintro e w2 ⟨v0, bk, n0, rfl, hoa0, hmk0, hbk, hb2⟩
  have hb20 := hb1.trans (hb2.mono hb1.size)
  have hoa0 := hoa0.lower hb1.size
  have hkn := hmk0.mono (Nat.le_max_left n0 0)
  generalize max n0 0 = nk at hkn
  clear hmk0 hm1 hb1 hb2
  go_wp2_with fail
  go_loopw [5, 24] (fun va i wr => ∃ k : Nat, k ≤ want.length ∧ i = .int .i64 k ∧ OwnRows act3Lay wr w.heap.size 54 va (mkA now want k) ∧ MapOf Value.string wr bk nk (firstFn now fun x => staysE x want) ∧ Below w.heap.size w wr) (fun _ i _ => want.length - (RowKit.intOf i).toNat)
  case atStart => exact ⟨0, Nat.zero_le _, rfl, hoa0, hkn, hb20⟩
  case round =>
    obtain ⟨k, hk, rfl, hoa, hmk, hb⟩ := hrel
    clear hoa0 hkn hb20
    by_cases hlt : k < want.length
    · obtain ⟨x, hx⟩ := at_some hlt
      obtain ⟨b, off, rfl, hbl, c0, c1, c2, c3⟩ := ent_at (HA'.out.keeps hb) hx
      obtain ⟨xp, xi, xd, xt⟩ := x
      dsimp only at c0 c1 c2 c3
      have hsl := mkA_length now want k
      have hst := mkA_step (now := now) hx
      dsimp only at hst
      have Hst := Lib.hid hst
      clear hx hst
      have hl1 := (hmk.alloc (.cells #[.string xp, .int .i64 xi, .bool xd, .string xt] 38)).lookup_ok mapK Tryd.underlying68 xp (zeroEnt _)
      rw [firstFn_there, getD_val, Option.isSome_map] at hl1
      generalize (thereE now want xp).getD noEnt = y at hl1
      generalize hok : (thereE now want xp).isSome = ok at hl1
      unfold Ent.val at hl1
      have Hok := Lib.hid hok
      clear hok
      generalize mkA now want k = acts at *
      have hoa2 := (hoa.alloc (.cells #[.string xp, .int .i64 xi, .bool xd, .string xt] 38)).alloc (.cells #[.string y.path, .int .i64 y.id, .bool y.dir, .string y.data] 38)
      have hmk2 := (hmk.alloc (.cells #[.string xp, .int .i64 xi, .bool xd, .string xt] 38)).alloc (.cells #[.string y.path, .int .i64 y.id, .bool y.dir, .string y.data] 38)
      have hb2 := (hb.alloc hb.size (.cells #[.string xp, .int .i64 xi, .bool xd, .string xt] 38)).alloc (by have := hb.size; simp; omega) (.cells #[.string y.path, .int .i64 y.id, .bool y.dir, .string y.data] 38)
      clear hoa hmk
      cases xd with
      | true =>
        cases ok with
        | true =>
          have hoa4 := hoa2
          have hmk4 := hmk2
          have hb4 := hb2
          clear hoa2 hmk2 hb2
          go_wp2_with fail
          go_roundw
          case rel =>
            refine ⟨k + 1, by omega, by go_num, ?_, hmk4, hb4⟩
            rw [Hst.out]
            simpa [Hok.out] using hoa4
          case measure => simp [RowKit.intOf]; omega
        | false =>
          go_wp2_with (at_builtin; refine wpList_append_rows _ rfl _ _ 51 rfl act3Lay w.heap.size 54 i0 (.agg #[.int .i64 0, .string ⟨#[]⟩, .string ⟨#[]⟩]) 40 Tryd.underlying51 Hi.out Hz0.out Hz1.out Hz2.out rfl (by decide) _ _ rfl (hoa2.alloc _) ⟨wr.heap.size + 1 + 1, 0, none⟩ 1 ⟨2, xp, ⟨#[]⟩⟩ rfl (cells_new_at (((wr.alloc (.cells #[.string xp, .int .i64 xi, .bool true, .string xt] 38)).alloc (.cells #[.string y.path, .int .i64 y.id, .bool y.dir, .string y.data] 38))) (wr.heap.size + 1 + 1) #[.int .i64 2, .string xp, .string ⟨#[]⟩] 54 (by simp)) (by unfold maxLen; omega) (by omega) (by have := hb.size; simp; omega) ?_)
          intro va w4 hoa4 hg4 _
          have hmk4 := (hmk2.alloc (.cells #[.int .i64 2, .string xp, .string ⟨#[]⟩] 54)).grown hg4 (fun e => hoa2.ne_map hmk2 e)
          have hb4 := (hb2.alloc hb2.size (.cells #[.int .i64 2, .string xp, .string ⟨#[]⟩] 54)).grown hg4 (by have := hb.size; simp; omega) (fun j ej => (hoa2.lt ej).1)
          clear hg4 hoa2 hmk2 hb2
          go_wp2_with fail
          go_roundw
          case rel =>
            refine ⟨k + 1, by omega, by go_num, ?_, hmk4, hb4⟩
            rw [Hst.out]
            simpa [Hok.out] using hoa4
          case measure => simp [RowKit.intOf]; omega
      | false =>
        cases ok with
        | true =>
          have hoa4 := hoa2
          have hmk4 := hmk2
          have hb4 := hb2
          clear hoa2 hmk2 hb2
          go_wp2_with fail
          go_roundw
          case rel =>
            refine ⟨k + 1, by omega, by go_num, ?_, hmk4, hb4⟩
            rw [Hst.out]
            simpa [Hok.out] using hoa4
          case measure => simp [RowKit.intOf]; omega
        | false =>
          have hoa4 := hoa2
          have hmk4 := hmk2
          have hb4 := hb2
          clear hoa2 hmk2 hb2
          go_wp2_with fail
          go_roundw
          case rel =>
            refine ⟨k + 1, by omega, by go_num, ?_, hmk4, hb4⟩
            rw [Hst.out]
            simpa [Hok.out] using hoa4
          case measure => simp [RowKit.intOf]; omega
    · obtain rfl : k = want.length := by omega
      obtain ⟨wo, rfl⟩ : ∃ wo : World, wo = wr := ⟨_, rfl⟩
      go_wp2_with fail
      go_loopw [5, 50] (fun va i wr => ∃ k : Nat, k ≤ want.length ∧ i = .int .i64 k ∧ OwnRows act3Lay wr w.heap.size 54 va (wrA now want k) ∧ MapOf Value.string wr bk nk (firstFn now fun x => staysE x want) ∧ Below w.heap.size w wr) (fun _ i _ => want.length - (RowKit.intOf i).toNat)
      case atStart => exact ⟨0, Nat.zero_le _, rfl, hoa, hmk, hb⟩
      case round =>
        clear hoa hmk hb
        obtain ⟨k, hk, rfl, hoa, hmk, hb⟩ := hrel
        by_cases hlt : k < want.length
        · obtain ⟨x, hx⟩ := at_some hlt
          obtain ⟨b, off, rfl, hbl, c0, c1, c2, c3⟩ := ent_at (HA'.out.keeps hb) hx
          obtain ⟨xp, xi, xd, xt⟩ := x
          dsimp only at c0 c1 c2 c3
          have hsl := wrA_length now want k
          have hst := wrA_step (now := now) hx
          have hwb : wrB now want ⟨xp, xi, xd, xt⟩ = (!xd && (!(thereE now want xp).isSome || decide (¬ ((thereE now want xp).getD noEnt).data = xt))) := by
            unfold wrB; cases thereE now want xp <;> simp
          rw [hwb] at hst
          dsimp only at hst
          have Hst := Lib.hid hst
          clear hx hst hwb
          have hl1 := (hmk.alloc (.cells #[.string xp, .int .i64 xi, .bool xd, .string xt] 38)).lookup_ok mapK Tryd.underlying68 xp (zeroEnt _)
          rw [firstFn_there, getD_val, Option.isSome_map] at hl1
          generalize hy : (thereE now want xp).getD noEnt = y at hl1
          generalize hok : (thereE now want xp).isSome = ok at hl1
          unfold Ent.val at hl1
          have Hok := Lib.hid hok
          have Hy := Lib.hid hy
          clear hok hy
          generalize wrA now want k = acts at *
          have hoa2 := (hoa.alloc (.cells #[.string xp, .int .i64 xi, .bool xd, .string xt] 38)).alloc (.cells #[.string y.path, .int .i64 y.id, .bool y.dir, .string y.data] 38)
          have hmk2 := (hmk.alloc (.cells #[.string xp, .int .i64 xi, .bool xd, .string xt] 38)).alloc (.cells #[.string y.path, .int .i64 y.id, .bool y.dir, .string y.data] 38)
          have hb2 := (hb.alloc hb.size (.cells #[.string xp, .int .i64 xi, .bool xd, .string xt] 38)).alloc (by have := hb.size; simp; omega) (.cells #[.string y.path, .int .i64 y.id, .bool y.dir, .string y.data] 38)
          clear hoa hmk
          cases xd with
          | true =>
            cases ok with
            | true =>
              have hoa4 := hoa2
              have hmk4 := hmk2
              have hb4 := hb2
              clear hoa2 hmk2 hb2
              go_wp2_with fail
              go_roundw
              case rel =>
                refine ⟨k + 1, by omega, by go_num, ?_, hmk4, hb4⟩
                rw [Hst.out]
                simpa [Hok.out] using hoa4
              case measure => simp [RowKit.intOf]; omega
            | false =>
              have hoa4 := hoa2
              have hmk4 := hmk2
              have hb4 := hb2
              clear hoa2 hmk2 hb2
              go_wp2_with fail
              go_roundw
              case rel =>
                refine ⟨k + 1, by omega, by go_num, ?_, hmk4, hb4⟩
                rw [Hst.out]
                simpa [Hok.out] using hoa4
              case measure => simp [RowKit.intOf]; omega
          | false =>
            cases ok with
            | true =>
              by_cases hd : y.data = xt
              · have hd' := str_eq hd
                have Hd := Lib.hid hd
                clear hd
                have hoa4 := hoa2
                have hmk4 := hmk2
                have hb4 := hb2
                clear hoa2 hmk2 hb2
                go_wp2_with fail
                go_roundw
                case rel =>
                  refine ⟨k + 1, by omega, by go_num, ?_, hmk4, hb4⟩
                  rw [Hst.out]
                  simpa [Hok.out, Hy.out, Hd.out] using hoa4
                case measure => simp [RowKit.intOf]; omega
              · have hd' := str_ne hd
                have Hd := Lib.hid hd
                clear hd
                go_wp2_with (at_builtin; refine wpList_append_rows _ rfl _ _ 51 rfl act3Lay w.heap.size 54 i0 (.agg #[.int .i64 0, .string ⟨#[]⟩, .string ⟨#[]⟩]) 40 Tryd.underlying51 Hi.out Hz0.out Hz1.out Hz2.out rfl (by decide) _ _ rfl (hoa2.alloc _) ⟨wr.heap.size + 1 + 1, 0, none⟩ 1 ⟨3, xp, xt⟩ rfl (cells_new_at (((wr.alloc (.cells #[.string xp, .int .i64 xi, .bool false, .string xt] 38)).alloc (.cells #[.string y.path, .int .i64 y.id, .bool y.dir, .string y.data] 38))) (wr.heap.size + 1 + 1) #[.int .i64 3, .string xp, .string xt] 54 (by simp)) (by unfold maxLen; omega) (by omega) (by have := hb.size; simp; omega) ?_)
                intro va w4 hoa4 hg4 _
                have hmk4 := (hmk2.alloc (.cells #[.int .i64 3, .string xp, .string xt] 54)).grown hg4 (fun e => hoa2.ne_map hmk2 e)
                have hb4 := (hb2.alloc hb2.size (.cells #[.int .i64 3, .string xp, .string xt] 54)).grown hg4 (by have := hb.size; simp; omega) (fun j ej => (hoa2.lt ej).1)
                clear hg4 hoa2 hmk2 hb2
                go_wp2_with fail
                go_roundw
                case rel =>
                  refine ⟨k + 1, by omega, by go_num, ?_, hmk4, hb4⟩
                  rw [Hst.out]
                  simpa [Hok.out, Hy.out, Hd.out] using hoa4
                case measure => simp [RowKit.intOf]; omega
            | false =>
              go_wp2_with (at_builtin; refine wpList_append_rows _ rfl _ _ 51 rfl act3Lay w.heap.size 54 i0 (.agg #[.int .i64 0, .string ⟨#[]⟩, .string ⟨#[]⟩]) 40 Tryd.underlying51 Hi.out Hz0.out Hz1.out Hz2.out rfl (by decide) _ _ rfl (hoa2.alloc _) ⟨wr.heap.size + 1 + 1, 0, none⟩ 1 ⟨3, xp, xt⟩ rfl (cells_new_at (((wr.alloc (.cells #[.string xp, .int .i64 xi, .bool false, .string xt] 38)).alloc (.cells #[.string y.path, .int .i64 y.id, .bool y.dir, .string y.data] 38))) (wr.heap.size + 1 + 1) #[.int .i64 3, .string xp, .string xt] 54 (by simp)) (by unfold maxLen; omega) (by omega) (by have := hb.size; simp; omega) ?_)
              intro va w4 hoa4 hg4 _
              have hmk4 := (hmk2.alloc (.cells #[.int .i64 3, .string xp, .string xt] 54)).grown hg4 (fun e => hoa2.ne_map hmk2 e)
              have hb4 := (hb2.alloc hb2.size (.cells #[.int .i64 3, .string xp, .string xt] 54)).grown hg4 (by have := hb.size; simp; omega) (fun j ej => (hoa2.lt ej).1)
              clear hg4 hoa2 hmk2 hb2
              go_wp2_with fail
              go_roundw
              case rel =>
                refine ⟨k + 1, by omega, by go_num, ?_, hmk4, hb4⟩
                rw [Hst.out]
                simpa [Hok.out] using hoa4
              case measure => simp [RowKit.intOf]; omega
        · obtain rfl : k = want.length := by omega
          go_wp2_with fail
          go_ret
          exact ⟨_, rfl, hoa, hb⟩
end Go.Proofs.YtgjgeojhhglidaaDoor
