import Derived.Test.YtmbmaompoplbaaaLayW6
import Derived.Test.YtmbmaompoplbaaaDrawn
import Derived.Shelf.Small.Strs
namespace Go.Proofs.Ytmbmaompoplbaaa
open Go.RowKit Go.Lib

theorem inB_step {now want : List Ent} {k : Nat} {y : Ent} (h : now[k]? = some y) (p : ByteArray) : inB now want (k + 1) p = (inB now want k p || (y.dir && !staysE y want && underB p y.path)) := by
  unfold inB
  rw [List.take_add_one, h, Option.toList_some, List.any_append]
  simp

theorem extract_take (p : ByteArray) (n : Nat) : (p.extract 0 n).data.toList = p.data.toList.take n := by
  rw [ByteArray.data_extract]; simp
theorem under_yes {p d : ByteArray} (h1 : d.size + 1 < p.size) (h2 : p.extract 0 d.size = d) (h3 : p[d.size] = 47) : underB p d = true := by
  have h4 := extract_take p d.size
  rw [h2] at h4
  unfold underB
  simp only [Bool.and_eq_true, decide_eq_true_eq]
  refine ⟨⟨h1, h4.symm⟩, ?_⟩
  rw [List.getElem?_eq_getElem (by rw [← size_eq]; omega)]
  exact congrArg some h3
theorem under_no2 {p d : ByteArray} (h2 : ¬ p.extract 0 d.size = d) : underB p d = false := by
  have h4 := extract_take p d.size
  unfold underB
  have : ¬ p.data.toList.take d.size = d.data.toList := fun e => h2 (ba_ext (by rw [h4, e]))
  simp [this]
theorem under_no3 {p d : ByteArray} (hl : d.size < p.size) (h3 : ¬ p[d.size] = 47) : underB p d = false := by
  unfold underB
  have : ¬ p.data.toList[d.size]? = some 47 := by
    rw [List.getElem?_eq_getElem (by rw [← size_eq]; omega)]
    exact fun e => h3 (Option.some.inj e)
  simp only [this, decide_false, Bool.and_false]
theorem byte_ne {a : UInt8} (h : ¬ a = 47) : ((a.toNat : Int) == 47) = false := by
  rw [beq_eq_false_iff_ne]
  exact fun e => h (by rw [← UInt8.toNat_inj]; exact Int.ofNat.inj e)

theorem OwnRows.drewN {α : Type} {L : Lay α} {w : World} {base : Nat} {e : TypeId} {v : Value} {xs : List α} (h : OwnRows L w base e v xs) (n : Nat) : OwnRows L (w.drewN n) base e v xs := h.below (below_drewN (Below.refl _ _) n)

set_option maxRecDepth 100000 in
set_option maxHeartbeats 3200000 in
theorem ref_plan_any (a a' : Option Addr) (cap cap' : Nat) (now want : List Ent) (w : World) (hl : now.length ≤ 100) (hl' : want.length ≤ 100) (hsz : ∀ x ∈ now, x.path.size ≤ 500) (ha : RowsAt entLay w a now) (ha' : RowsAt entLay w a' want) :
    Calls Try.prog 8 #[.slice a now.length cap, .slice a' want.length cap'] w fun e w' => ∃ v, e = .returned v ∧ OwnRows act3Lay w' w.heap.size 39 v (planA now want) ∧ Below w.heap.size w w' := by
  have HS := Lib.hid fun x W (hb : Below w.heap.size w W) => stays_any x a' cap' want W (by omega) (ha'.keeps hb)
  have HT := Lib.hid fun p W (hb : Below w.heap.size w W) => there_any a a' cap cap' now want p W (by omega) (by omega) (ha.keeps hb) (ha'.keeps hb)
  have HA := Lib.hid ha
  have HA' := Lib.hid ha'
  have Hsz := Lib.hid hsz
  obtain ⟨i0, hi, hz0, hz1, hz2⟩ := info_parts actInfo'
  have Hi := Lib.hid hi
  have Hz0 := Lib.hid hz0
  have Hz1 := Lib.hid hz1
  have Hz2 := Lib.hid hz2
  clear hi hz0 hz1 hz2 ha ha' hsz
  go_enter Try.func8, Try.ntmps8
  go_wp2_with fail
  go_loopw [5, 6] (fun va i wr => ∃ k : Nat, k ≤ now.length ∧ i = .int .i64 k ∧ OwnRows act3Lay wr w.heap.size 39 va (remA now want k) ∧ Below w.heap.size w wr) (fun _ i _ => now.length - (RowKit.intOf i).toNat)
  case atStart => exact ⟨0, Nat.zero_le _, rfl, OwnRows.nil _ _ _ _, Below.refl _ _⟩
  case round =>
    obtain ⟨k, hk, rfl, hoa, hb⟩ := hrel
    by_cases hlt : k < now.length
    · obtain ⟨x, hx⟩ := at_some hlt
      obtain ⟨b, off, rfl, hbl, c0, c1, c2, c3⟩ := ent_at (HA.out.keeps hb) hx
      have hsx := Hsz.out x (List.mem_of_getElem? hx)
      have hsl := remA_length now want k
      have hst := remA_step (want := want) hx
      obtain ⟨xp, xi, xd, xt⟩ := x
      dsimp only at c0 c1 c2 c3 hsx hst
      have Hst := Lib.hid hst
      clear hx hst
      generalize remA now want k = acts at *
      have hoa1 := hoa.alloc (.cells #[.string xp, .int .i64 xi, .bool xd, .string xt] 36)
      have hb1 := hb.alloc hb.size (.cells #[.string xp, .int .i64 xi, .bool xd, .string xt] 36)
      obtain ⟨wo, hwo⟩ : ∃ wo : World, wo = wr := ⟨_, rfl⟩
      subst hwo
      go_wp2_with fail
      go_loopw [8, 9] (fun ins i wr => ∃ k2 : Nat, k2 ≤ k ∧ ins = .bool (inB now want k2 xp) ∧ i = .int .i64 k2 ∧ Below (wo.alloc (.cells #[.string xp, .int .i64 xi, .bool xd, .string xt] 36)).heap.size (wo.alloc (.cells #[.string xp, .int .i64 xi, .bool xd, .string xt] 36)) wr) (fun _ i _ => k - (RowKit.intOf i).toNat)
      case atStart => exact ⟨0, Nat.zero_le _, rfl, rfl, Below.refl _ _⟩
      case round =>
        obtain ⟨k2, hk2, rfl, rfl, hbi⟩ := hrel
        obtain ⟨f1, f2, f3⟩ := after_box hbi
        have hbw := hb1.trans (hbi.mono hb1.size)
        by_cases hlt2 : k2 < k
        · obtain ⟨y, hy⟩ := at_some (show k2 < now.length by omega)
          obtain ⟨_, _, he, _, d0, d1, d2, d3⟩ := ent_at (HA.out.keeps hbw) hy
          cases he
          have hsy := Hsz.out y (List.mem_of_getElem? hy)
          have hin := inB_step (want := want) hy xp
          obtain ⟨yp, yi, yd, yt⟩ := y
          dsimp only at d0 d1 d2 d3 hsy hin
          have HS' := HS.out ⟨yp, yi, yd, yt⟩ _ hbw
          have Hin := Lib.hid hin
          clear hin hy
          clear HT Hst
          generalize inB now want k2 xp = ins at *
          generalize staysE ⟨yp, yi, yd, yt⟩ want = st at *
          cases ins with
          | true =>
            go_wp2_with fail
            go_roundw
            case rel => exact ⟨k2 + 1, by omega, by rw [Hin.out]; simp, by go_num, hbi⟩
            case measure => simp [RowKit.intOf]; omega
          | false =>
            cases yd with
            | false =>
              go_wp2_with fail
              go_roundw
              case rel => exact ⟨k2 + 1, by omega, by rw [Hin.out]; simp, by go_num, hbi⟩
              case measure => simp [RowKit.intOf]; omega
            | true =>
              cases st with
              | true =>
                go_wp2_with fail
                refine HS'.mono ?_
                rintro e w1 ⟨rfl, hbj⟩
                have hbi := hbi.trans (hbj.mono hbi.size)
                go_wp2_with fail
                go_roundw
                case rel => exact ⟨k2 + 1, by omega, by rw [Hin.out]; simp, by go_num, hbi⟩
                case measure => simp [RowKit.intOf]; omega
              | false =>
                by_cases h1 : yp.size + 1 < xp.size
                · have e1 : decide ((xp.size : Int) > (yp.size : Int) + 1) = true := by rw [decide_eq_true_eq]; omega
                  have hlo : (yp.size : Int) < xp.size := by omega
                  have hlt3 : yp.size < xp.size := by omega
                  by_cases h2 : xp.extract 0 yp.size = yp
                  · have e2 := str_eq h2
                    by_cases h3 : xp[yp.size] = 47
                    · have e3 : ((xp[yp.size].toNat : Int) == 47) = true := by rw [h3]; rfl
                      have hu : underB xp yp = true := under_yes h1 h2 h3
                      have Hu := Lib.hid hu
                      clear hu h2 h3
                      go_wp2_with fail
                      refine HS'.mono ?_
                      rintro e w1 ⟨rfl, hbj⟩
                      have hbi := hbi.trans (hbj.mono hbi.size)
                      obtain ⟨f1, f2, f3⟩ := after_box hbi
                      go_wp2_with fail
                      go_roundw
                      case rel => exact ⟨k2 + 1, by omega, by rw [Hin.out, Hu.out]; simp, by go_num, hbi⟩
                      case measure => simp [RowKit.intOf]; omega
                    · have e3 : ((xp[yp.size].toNat : Int) == 47) = false := byte_ne h3
                      have hu : underB xp yp = false := under_no3 hlt3 h3
                      have Hu := Lib.hid hu
                      clear hu h2 h3
                      go_wp2_with fail
                      refine HS'.mono ?_
                      rintro e w1 ⟨rfl, hbj⟩
                      have hbi := hbi.trans (hbj.mono hbi.size)
                      obtain ⟨f1, f2, f3⟩ := after_box hbi
                      go_wp2_with fail
                      go_roundw
                      case rel => exact ⟨k2 + 1, by omega, by rw [Hin.out, Hu.out]; simp, by go_num, hbi⟩
                      case measure => simp [RowKit.intOf]; omega
                  · have e2 := str_ne h2
                    have hu : underB xp yp = false := under_no2 h2
                    have Hu := Lib.hid hu
                    clear hu h2
                    go_wp2_with fail
                    refine HS'.mono ?_
                    rintro e w1 ⟨rfl, hbj⟩
                    have hbi := hbi.trans (hbj.mono hbi.size)
                    obtain ⟨f1, f2, f3⟩ := after_box hbi
                    go_wp2_with fail
                    go_roundw
                    case rel => exact ⟨k2 + 1, by omega, by rw [Hin.out, Hu.out]; simp, by go_num, hbi⟩
                    case measure => simp [RowKit.intOf]; omega
                · have e1 : decide ((xp.size : Int) > (yp.size : Int) + 1) = false := by rw [decide_eq_false_iff_not]; omega
                  have hu : underB xp yp = false := by unfold underB; simp [h1]
                  have Hu := Lib.hid hu
                  clear hu
                  go_wp2_with fail
                  refine HS'.mono ?_
                  rintro e w1 ⟨rfl, hbj⟩
                  have hbi := hbi.trans (hbj.mono hbi.size)
                  obtain ⟨f1, f2, f3⟩ := after_box hbi
                  go_wp2_with fail
                  go_roundw
                  case rel => exact ⟨k2 + 1, by omega, by rw [Hin.out, Hu.out]; simp, by go_num, hbi⟩
                  case measure => simp [RowKit.intOf]; omega
        · obtain rfl : k2 = k := by omega
          have HS' := HS.out ⟨xp, xi, xd, xt⟩ _ hbw
          clear HT
          generalize inB now want k2 xp = ins at *
          generalize staysE ⟨xp, xi, xd, xt⟩ want = st at *
          have hoa2 := hoa1.below hbi
          clear hoa hoa1 c0 c1 c2 c3 hb1
          go_wp2_with fail
          refine HS'.mono ?_
          rintro e w1 ⟨rfl, hbj⟩
          have hbi1 := hbi.trans (hbj.mono hbi.size)
          have hoa3 := hoa2.below hbj
          have hbw1 := hbw.trans (hbj.mono hbw.size)
          clear f1 f2 f3 hbi hbj hoa2 hbw
          obtain ⟨f1, f2, f3⟩ := after_box hbi1
          cases st with
          | true =>
            go_wp2_with fail
            go_roundw
            case rel =>
              refine ⟨k2 + 1, by omega, by go_num, ?_, hbw1⟩
              rw [Hst.out]
              simpa using hoa3
            case measure => simp [RowKit.intOf]; omega
          | false =>
            cases ins with
            | true =>
              go_wp2_with fail
              go_roundw
              case rel =>
                refine ⟨k2 + 1, by omega, by go_num, ?_, hbw1⟩
                rw [Hst.out]
                simpa using hoa3
              case measure => simp [RowKit.intOf]; omega
            | false =>
              go_wp2_with (at_builtin; refine wpList_append_rows _ rfl _ _ 27 rfl act3Lay w.heap.size 39 i0 (.agg #[.int .i64 0, .string ⟨#[]⟩, .string ⟨#[]⟩]) 40 Try.underlying27 Hi.out Hz0.out Hz1.out Hz2.out rfl (by decide) _ _ rfl (hoa3.alloc _) ⟨w1.heap.size, 0, none⟩ 1 ⟨1, xp, ⟨#[]⟩⟩ rfl (cells_new_at w1 w1.heap.size #[.int .i64 1, .string xp, .string ⟨#[]⟩] 39 rfl) (by unfold maxLen; omega) (by omega) (by have := hbw1.size; simp; omega) ?_)
              intro va w4 hoa4 hg4 _
              have hb4 := (hbw1.alloc hbw1.size (.cells #[.int .i64 1, .string xp, .string ⟨#[]⟩] 39)).grown hg4 (by have := hbw1.size; simp; omega) (fun j ej => (hoa3.lt ej).1)
              clear hg4 hoa3 hbw1
              go_wp2_with fail
              go_roundw
              case rel =>
                refine ⟨k2 + 1, by omega, by go_num, ?_, hb4⟩
                rw [Hst.out]
                simpa using hoa4
              case measure => simp [RowKit.intOf]; omega
    · obtain rfl : k = now.length := by omega
      clear HS Hsz
      obtain ⟨wo, hwo⟩ : ∃ wo : World, wo = wr := ⟨_, rfl⟩
      subst hwo
      go_wp2_with fail
      go_loopw [5, 11] (fun va i wr => ∃ k : Nat, k ≤ want.length ∧ i = .int .i64 k ∧ OwnRows act3Lay wr w.heap.size 39 va (mkA now want k) ∧ Below w.heap.size w wr) (fun _ i _ => want.length - (RowKit.intOf i).toNat)
      case atStart => exact ⟨0, Nat.zero_le _, rfl, hoa, hb⟩
      case round =>
        clear hoa hb
        obtain ⟨k, hk, rfl, hoa, hb⟩ := hrel
        by_cases hlt : k < want.length
        · obtain ⟨x, hx⟩ := at_some hlt
          obtain ⟨b, off, rfl, hbl, c0, c1, c2, c3⟩ := ent_at (HA'.out.keeps hb) hx
          have hsl := mkA_length now want k
          have hst := mkA_step (now := now) hx
          obtain ⟨xp, xi, xd, xt⟩ := x
          dsimp only at c0 c1 c2 c3 hst
          have Hst := Lib.hid hst
          have HX := Lib.hid hx
          clear hx hst
          have HT' := HT.out xp _ hb
          generalize mkA now want k = acts at *
          generalize (thereE now want xp).getD noEnt = y at HT'
          generalize hok : (thereE now want xp).isSome = ok at HT'
          have Hok := Lib.hid hok
          clear hok
          unfold Ent.val at HT'
          go_wp2_with fail
          refine HT'.mono ?_
          rintro e w1 ⟨rfl, hbj⟩
          have hoa1 := hoa.below hbj
          have hb1 := hb.trans (hbj.mono hb.size)
          obtain ⟨_, _, he, _, d0, d1, d2, d3⟩ := ent_at (HA'.out.keeps hb1) HX.out
          cases he
          dsimp only at d0 d1 d2 d3
          clear hoa hb hbj c0 c1 c2 c3
          have hoa2 := hoa1.alloc (.cells #[.string y.path, .int .i64 y.id, .bool y.dir, .string y.data] 36)
          have hb2 := hb1.alloc hb1.size (.cells #[.string y.path, .int .i64 y.id, .bool y.dir, .string y.data] 36)
          clear hoa1
          cases xd with
          | false =>
            go_wp2_with fail
            go_roundw
            case rel =>
              refine ⟨k + 1, by omega, by go_num, ?_, hb2⟩
              rw [Hst.out]
              simpa using hoa2
            case measure => simp [RowKit.intOf]; omega
          | true =>
            cases ok with
            | true =>
              go_wp2_with fail
              go_roundw
              case rel =>
                refine ⟨k + 1, by omega, by go_num, ?_, hb2⟩
                rw [Hst.out]
                simpa [Hok.out] using hoa2
              case measure => simp [RowKit.intOf]; omega
            | false =>
              go_wp2_with (at_builtin; refine wpList_append_rows _ rfl _ _ 27 rfl act3Lay w.heap.size 39 i0 (.agg #[.int .i64 0, .string ⟨#[]⟩, .string ⟨#[]⟩]) 40 Try.underlying27 Hi.out Hz0.out Hz1.out Hz2.out rfl (by decide) _ _ rfl (hoa2.alloc _) ⟨w1.heap.size + 1, 0, none⟩ 1 ⟨2, xp, ⟨#[]⟩⟩ rfl (cells_new_at (w1.alloc (.cells #[.string y.path, .int .i64 y.id, .bool y.dir, .string y.data] 36)) (w1.heap.size + 1) #[.int .i64 2, .string xp, .string ⟨#[]⟩] 39 (by simp)) (by unfold maxLen; omega) (by omega) (by have := hb1.size; simp; omega) ?_)
              intro va w4 hoa4 hg4 _
              have hb4 := (hb2.alloc hb2.size (.cells #[.int .i64 2, .string xp, .string ⟨#[]⟩] 39)).grown hg4 (by have := hb1.size; simp; omega) (fun j ej => (hoa2.lt ej).1)
              clear hg4 hoa2 hb2
              go_wp2_with fail
              go_roundw
              case rel =>
                refine ⟨k + 1, by omega, by go_num, ?_, hb4⟩
                rw [Hst.out]
                simpa [Hok.out] using hoa4
              case measure => simp [RowKit.intOf]; omega
        · obtain rfl : k = want.length := by omega
          obtain ⟨wo, hwo⟩ : ∃ wo : World, wo = wr := ⟨_, rfl⟩
          subst hwo
          go_wp2_with fail
          go_loopw [5, 14] (fun va i wr => ∃ k : Nat, k ≤ want.length ∧ i = .int .i64 k ∧ OwnRows act3Lay wr w.heap.size 39 va (wrA now want k) ∧ Below w.heap.size w wr) (fun _ i _ => want.length - (RowKit.intOf i).toNat)
          case atStart => exact ⟨0, Nat.zero_le _, rfl, hoa, hb⟩
          case round =>
            clear hoa hb
            obtain ⟨k, hk, rfl, hoa, hb⟩ := hrel
            by_cases hlt : k < want.length
            · obtain ⟨x, hx⟩ := at_some hlt
              obtain ⟨b, off, rfl, hbl, c0, c1, c2, c3⟩ := ent_at (HA'.out.keeps hb) hx
              have hsl := wrA_length now want k
              obtain ⟨_, _, he, hbw0, _⟩ := ent_at HA'.out hx
              cases he
              have hst := wrA_step (now := now) hx
              obtain ⟨xp, xi, xd, xt⟩ := x
              dsimp only at c0 c1 c2 c3 hst
              have hwb : wrB now want ⟨xp, xi, xd, xt⟩ = (!xd && (!(thereE now want xp).isSome || decide (¬ ((thereE now want xp).getD noEnt).data = xt))) := by
                unfold wrB; cases thereE now want xp <;> simp
              rw [hwb] at hst
              have Hst := Lib.hid hst
              have HX := Lib.hid hx
              clear hx hst hwb
              have HT' := HT.out xp _ hb
              generalize wrA now want k = acts at *
              generalize hy : (thereE now want xp).getD noEnt = y at HT'
              generalize hok : (thereE now want xp).isSome = ok at HT'
              have Hok := Lib.hid hok
              have Hy := Lib.hid hy
              clear hok hy
              unfold Ent.val at HT'
              go_wp2_with fail
              refine HT'.mono ?_
              rintro e w1 ⟨rfl, hbj⟩
              have hoa1 := hoa.below hbj
              have hb1 := hb.trans (hbj.mono hb.size)
              obtain ⟨_, _, he, _, d0, d1, d2, d3⟩ := ent_at (HA'.out.keeps hb1) HX.out
              cases he
              dsimp only at d0 d1 d2 d3
              clear hoa hb hbj c0 c1 c2 c3
              have hoa2 := hoa1.alloc (.cells #[.string y.path, .int .i64 y.id, .bool y.dir, .string y.data] 36)
              have hb2 := hb1.alloc hb1.size (.cells #[.string y.path, .int .i64 y.id, .bool y.dir, .string y.data] 36)
              clear hoa1
              have hk2 : (0 : Int) ≤ k := by omega
              have hk3 : (k : Int) < want.length := by omega
              cases xd with
              | true =>
                go_wp2_with fail
                go_quiet (fail)
                go_wp2_with fail
                go_roundw
                case rel =>
                  refine ⟨k + 1, by omega, by go_num, ?_, below_drewN hb2 _⟩
                  rw [Hst.out]
                  simpa using hoa2.drewN _
                case measure => simp [RowKit.intOf]; omega
              | false =>
                cases ok with
                | true =>
                  by_cases hd : y.data = xt
                  · have e1 := str_eq hd
                    have Hd := Lib.hid hd
                    clear hd
                    go_wp2_with fail
                    go_quiet (fail)
                    go_wp2_with fail
                    go_roundw
                    case rel =>
                      refine ⟨k + 1, by omega, by go_num, ?_, below_drewN hb2 _⟩
                      rw [Hst.out, Hok.out, Hy.out]
                      simpa [Hd.out] using hoa2.drewN _
                    case measure => simp [RowKit.intOf]; omega
                  · have e1 := str_ne hd
                    have Hd := Lib.hid hd
                    clear hd
                    go_wp2_with fail
                    go_quiet (fail)
                    go_wp2_with fail
                    have hoa3 := hoa2.drewN nq
                    have hb3 := below_drewN hb2 nq
                    obtain ⟨_, _, he, _, q0, q1, q2, q3⟩ := ent_at (HA'.out.keeps hb3) HX.out
                    cases he
                    dsimp only at q0 q1 q2 q3
                    clear d0 d1 d2 d3 hoa2 hb2 hb1
                    generalize (w1.alloc (.cells #[.string y.path, .int .i64 y.id, .bool y.dir, .string y.data] 36)).drewN nq = wz at *
                    have hs3 := hb3.size
                    have hne : u5.ownBlock ≠ some b := fun e => by have := (hoa3.lt e).1; omega
                    go_region_held3 (fun w' => w'.cell? ⟨b, off + k * 4, none⟩ = some (.string xp) ∧ w'.cell? ⟨b, off + k * 4 + 3, none⟩ = some (.string xt))
                      (first | go_keep | (go_split_ands; refine ⟨?_, ?_⟩ <;> (rw [hg4.cell_far _ (by simp; omega) (Ne.symm hne)]; assumption)))
                      ((refine step_append_rows _ (by rfl) _ _ 27 (by rfl) act3Lay w.heap.size 39 i0 (.agg #[.int .i64 0, .string ⟨#[]⟩, .string ⟨#[]⟩]) 40 Try.underlying27 Hi.out Hz0.out Hz1.out Hz2.out rfl (by decide) _ _ (by rfl) ((hoa3.alloc _).drewN 1) ⟨wz.heap.size, 0, none⟩ 1 ⟨3, xp, xt⟩ (by rfl) (World.news_of_block (cs := #[.int .i64 3, .string xp, .string xt]) (t := 39) (fr := (0, 0)) (heap_alloc_new wz _)) (by unfold maxLen; omega) (by omega) (by have := hb3.size; simp; omega) ?_; intro va w4 hoa4 hg4))
                    have hb4 : Below w.heap.size w w4 := (below_drewN (hb3.alloc hb3.size (.cells #[.int .i64 3, .string xp, .string xt] 39)) 1).grown hg4 (by have := hb3.size; simp; omega) (fun j ej => (hoa3.lt ej).1)
                    clear hg4 hoa3 hb3
                    go_wp2_with fail
                    go_roundw
                    case rel =>
                      refine ⟨k + 1, by omega, by go_num, ?_, hb4⟩
                      rw [Hst.out, Hok.out, Hy.out]
                      simpa [Hd.out] using hoa4
                    case measure => simp [RowKit.intOf]; omega
                | false =>
                  go_wp2_with fail
                  go_quiet (fail)
                  go_wp2_with fail
                  have hoa3 := hoa2.drewN nq
                  have hb3 := below_drewN hb2 nq
                  obtain ⟨_, _, he, _, q0, q1, q2, q3⟩ := ent_at (HA'.out.keeps hb3) HX.out
                  cases he
                  dsimp only at q0 q1 q2 q3
                  clear d0 d1 d2 d3 hoa2 hb2 hb1
                  generalize (w1.alloc (.cells #[.string y.path, .int .i64 y.id, .bool y.dir, .string y.data] 36)).drewN nq = wz at *
                  have hs3 := hb3.size
                  have hne : u5.ownBlock ≠ some b := fun e => by have := (hoa3.lt e).1; omega
                  go_region_held3 (fun w' => w'.cell? ⟨b, off + k * 4, none⟩ = some (.string xp) ∧ w'.cell? ⟨b, off + k * 4 + 3, none⟩ = some (.string xt))
                    (first | go_keep | (go_split_ands; refine ⟨?_, ?_⟩ <;> (rw [hg4.cell_far _ (by simp; omega) (Ne.symm hne)]; assumption)))
                    ((refine step_append_rows _ (by rfl) _ _ 27 (by rfl) act3Lay w.heap.size 39 i0 (.agg #[.int .i64 0, .string ⟨#[]⟩, .string ⟨#[]⟩]) 40 Try.underlying27 Hi.out Hz0.out Hz1.out Hz2.out rfl (by decide) _ _ (by rfl) ((hoa3.alloc _).drewN 1) ⟨wz.heap.size, 0, none⟩ 1 ⟨3, xp, xt⟩ (by rfl) (World.news_of_block (cs := #[.int .i64 3, .string xp, .string xt]) (t := 39) (fr := (0, 0)) (heap_alloc_new wz _)) (by unfold maxLen; omega) (by omega) (by have := hb3.size; simp; omega) ?_; intro va w4 hoa4 hg4))
                  have hb4 : Below w.heap.size w w4 := (below_drewN (hb3.alloc hb3.size (.cells #[.int .i64 3, .string xp, .string xt] 39)) 1).grown hg4 (by have := hb3.size; simp; omega) (fun j ej => (hoa3.lt ej).1)
                  clear hg4 hoa3 hb3
                  go_wp2_with fail
                  go_roundw
                  case rel =>
                    refine ⟨k + 1, by omega, by go_num, ?_, hb4⟩
                    rw [Hst.out, Hok.out]
                    simpa using hoa4
                  case measure => simp [RowKit.intOf]; omega
            · obtain rfl : k = want.length := by omega
              go_wp2_with fail
              go_ret
              exact ⟨_, rfl, hoa, hb⟩
end Go.Proofs.Ytmbmaompoplbaaa

