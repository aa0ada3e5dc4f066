/-
  The reference's put.
-/
import Derived.Test.YtgjgeojhhglidaaDoorFsR1
import Derived.Test.YtgjgeojhhglidaaDoorAppends
import Derived.Deep.CutRange
namespace Go.Proofs.YtgjgeojhhglidaaDoor
open Go Go.RowKit Go.Lib

/-- What put has built behind k entries. -/
def putK (x : Ent) (l : List Ent) (k : Nat) (d : Bool) : List Ent := if d then insE x (l.take k) else l.take k
def PutR (x : Ent) (l : List Ent) (k : Nat) (d : Bool) : Prop := (d = true ∧ ∃ y ∈ l.take k, befE x y = true) ∨ (d = false ∧ ∀ y ∈ l.take k, befE x y = false)
theorem take_snoc {α : Type} {l : List α} {k : Nat} {y : α} (h : l[k]? = some y) : l.take (k + 1) = l.take k ++ [y] := by
  rw [List.take_add_one, h]
  rfl
theorem put_done {x y : Ent} {l : List Ent} {k : Nat} (h : PutR x l k true) (hy : l[k]? = some y) : putK x l (k + 1) true = putK x l k true ++ [y] ∧ PutR x l (k + 1) true := by
  rcases h with ⟨_, z, hz, hb⟩ | ⟨h, _⟩
  · unfold putK PutR
    rw [take_snoc hy, if_pos rfl, if_pos rfl]
    exact ⟨ins_some _ ⟨z, hz, hb⟩, .inl ⟨rfl, z, List.mem_append_left _ hz, hb⟩⟩
  · cases h
theorem put_now {x y : Ent} {l : List Ent} {k : Nat} (h : PutR x l k false) (hy : l[k]? = some y) (hb : befE x y = true) : putK x l (k + 1) true = putK x l k false ++ [x] ++ [y] ∧ PutR x l (k + 1) true := by
  rcases h with ⟨h, _⟩ | ⟨_, hn⟩
  · cases h
  · unfold putK PutR
    rw [take_snoc hy, if_pos rfl, if_neg Bool.false_ne_true]
    refine ⟨?_, .inl ⟨rfl, y, List.mem_append_right _ (List.mem_singleton.2 rfl), hb⟩⟩
    rw [ins_none _ hn, List.append_assoc]
    congr 1
    show (if befE x y then [x, y] else _) = _
    rw [if_pos hb]
    rfl
theorem put_not {x y : Ent} {l : List Ent} {k : Nat} (h : PutR x l k false) (hy : l[k]? = some y) (hb : befE x y = false) : putK x l (k + 1) false = putK x l k false ++ [y] ∧ PutR x l (k + 1) false := by
  rcases h with ⟨h, _⟩ | ⟨_, hn⟩
  · cases h
  · unfold putK PutR
    rw [take_snoc hy, if_neg Bool.false_ne_true, if_neg Bool.false_ne_true]
    refine ⟨rfl, .inr ⟨rfl, fun z hz => ?_⟩⟩
    rcases List.mem_append.1 hz with hz | hz
    · exact hn z hz
    · rw [List.mem_singleton.1 hz]
      exact hb
theorem put_end {x : Ent} {l : List Ent} {d : Bool} (h : PutR x l l.length d) : putK x l l.length d ++ (if d then [] else [x]) = insE x l := by
  unfold putK PutR at *
  rw [List.take_length] at *
  rcases h with ⟨rfl, _⟩ | ⟨rfl, hn⟩
  · rw [if_pos rfl, if_pos rfl, List.append_nil]
  · rw [if_neg Bool.false_ne_true, if_neg Bool.false_ne_true]
    have := ins_none [] hn
    rw [List.append_nil] at this
    exact this.symm
theorem putK_len (x : Ent) (l : List Ent) (k : Nat) (d : Bool) : (putK x l k d).length ≤ l.length + 1 := by
  have h := List.length_take_le' k l
  unfold putK
  split
  · rw [len_ins]
    omega
  · omega
theorem bef_facts {x y : Ent} (h : befE x y = true) : Op.bytesLess y.path.toList x.path.toList = false ∧ (y.path.toList == x.path.toList) = false := by
  constructor
  · refine bool_f fun e => ?_
    have h1 := less_iff.1 e
    unfold befE pB at h
    rw [before_lt, decide_eq_true_eq] at h
    exact List.lt_irrefl _ (List.lt_trans h h1)
  · exact str_ne (fun e => befE_ne h e.symm)
theorem bef_not {x y : Ent} (h : befE x y = false) : Op.bytesLess y.path.toList x.path.toList = true ∨ (Op.bytesLess y.path.toList x.path.toList = false ∧ (y.path.toList == x.path.toList) = true) := by
  by_cases e : x.path = y.path
  · refine .inr ⟨bool_f fun e2 => ?_, str_eq e.symm⟩
    have h1 := less_iff.1 e2
    rw [e] at h1
    exact List.lt_irrefl _ h1
  · rcases befE_total e with h1 | h1
    · rw [h] at h1
      cases h1
    · refine .inl (less_iff.2 ?_)
      unfold befE pB at h1
      rwa [before_lt, decide_eq_true_eq] at h1
set_option maxRecDepth 100000 in
set_option maxHeartbeats 3200000 in
/-- **put.** -/
theorem rput_any (a : Option Addr) (cap : Nat) (l : List Ent) (x : Ent) (w : World) (hR : RowsAt entLay w a l) (hl : l.length ≤ 1000) :
    Calls Tryd.prog 44 #[.slice a l.length cap, x.val] w fun e w' => ∃ v, e = .returned v ∧ OwnRows entLay w' w.heap.size 38 v (insE x l) ∧ Below w.heap.size w w' := by
  obtain ⟨i0, hi, hz0, hz1, hz2⟩ := info_parts fentInfo
  have Hi := Lib.hid hi
  have Hz0 := Lib.hid hz0
  have Hz1 := Lib.hid hz1
  have Hz2 := Lib.hid hz2
  clear hi hz0 hz1 hz2
  obtain ⟨xp, xi, xd, xs⟩ := x
  show Calls _ _ #[_, .agg #[.string xp, .int .i64 xi, .bool xd, .string xs]] _ _
  have hal := (Below.refl w.heap.size w).alloc (Nat.le_refl _) (.cells #[.string xp, .int .i64 xi, .bool xd, .string xs] 38)
  have HR := Lib.hid (hR.keeps hal)
  have hV := VarAt.new w #[.string xp, .int .i64 xi, .bool xd, .string xs] 38
  obtain ⟨bx, hbx⟩ : ∃ bx, bx = w.heap.size := ⟨_, rfl⟩
  rw [← hbx] at hV
  have Hbx := Lib.hid hbx
  clear hR hbx
  go_enter Tryd.func44, Tryd.ntmps44
  go_wp2_with fail
  rw [← Hbx.out]
  generalize w.alloc (.cells #[.string xp, .int .i64 xi, .bool xd, .string xs] 38) = W1 at *
  go_loopw [5, 6, 7] (fun v dn i wr => ∃ (k : Nat) (d : Bool), k ≤ l.length ∧ i = .int .i64 k ∧ dn = .bool d ∧ OwnRows entLay wr W1.heap.size 38 v (putK ⟨xp, xi, xd, xs⟩ l k d) ∧ Hid (PutR ⟨xp, xi, xd, xs⟩ l k d) ∧ Below W1.heap.size W1 wr) (fun _ _ i _ => l.length - (RowKit.intOf i).toNat)
  case atStart => exact ⟨0, false, Nat.zero_le _, rfl, rfl, OwnRows.nil _ _ _ _, Lib.hid (.inr ⟨rfl, fun y hy => by rw [List.take_zero] at hy; cases hy⟩), Below.refl _ _⟩
  case round =>
    obtain ⟨k, d, hk, rfl, rfl, ho, HP, hb⟩ := hrel
    have hVr := hV.keeps hb hV.1
    have v0 : wr.cell? ⟨bx, 0, none⟩ = some (.string xp) := hVr.2.2 0 _ rfl
    have v1 : wr.cell? ⟨bx, 1, none⟩ = some (.int .i64 xi) := hVr.2.2 1 _ rfl
    have v2 : wr.cell? ⟨bx, 2, none⟩ = some (.bool xd) := hVr.2.2 2 _ rfl
    have v3 : wr.cell? ⟨bx, 3, none⟩ = some (.string xs) := hVr.2.2 3 _ rfl
    have hlen := putK_len ⟨xp, xi, xd, xs⟩ l k d
    by_cases hlt : k < l.length
    · obtain ⟨y, hy⟩ := at_some hlt
      obtain ⟨b, off, rfl, hbl, d0, d1, d2, d3⟩ := ent_at (HR.out.keeps hb) hy
      have hlti : (k : Int) < (l.length : Int) := by omega
      have hlti0 : (0 : Int) ≤ (k : Int) := by omega
      have HC := Lib.hid (show ∀ W, Below W1.heap.size W1 W → W.cell? ⟨b, off + k * 4, none⟩ = some (.string y.path) ∧ W.cell? ⟨b, off + k * 4 + 1, none⟩ = some (.int .i64 y.id) ∧ W.cell? ⟨b, off + k * 4 + 2, none⟩ = some (.bool y.dir) ∧ W.cell? ⟨b, off + k * 4 + 3, none⟩ = some (.string y.data) from fun W h => by
        obtain ⟨b', off', e, _, g0, g1, g2, g3⟩ := ent_at (HR.out.keeps h) hy
        cases e
        exact ⟨g0, g1, g2, g3⟩)
      have Hy := Lib.hid hy
      obtain ⟨yp, yi, yd, ys⟩ := y
      dsimp only at d0 d1 d2 d3 HC
      clear hy
      go_upto_region 6 with fail
      go_cut [25] from 8 to 36 (fun c wx => c = .bool (!d && befE ⟨xp, xi, xd, xs⟩ ⟨yp, yi, yd, ys⟩) ∧ ∃ n, wx = wr.drewN n)
      case first =>
        cases d with
        | true =>
          go_quiet (fail)
          go_wp2_with fail
          go_meet
          exact ⟨rfl, nq, rfl⟩
        | false =>
          cases hq : befE ⟨xp, xi, xd, xs⟩ ⟨yp, yi, yd, ys⟩ with
          | true =>
            obtain ⟨f1, f2⟩ := bef_facts hq
            dsimp only at f1 f2
            have Hq := Lib.hid hq
            clear hq
            go_quiet (fail)
            go_wp2_with fail
            go_meet
            exact ⟨by rw [Hq.out]; rfl, nq, rfl⟩
          | false =>
            rcases bef_not hq with f1 | ⟨f1, f2⟩
            · dsimp only at f1
              have Hq := Lib.hid hq
              clear hq
              go_quiet (fail)
              go_wp2_with fail
              go_meet
              exact ⟨by rw [Hq.out]; rfl, nq, rfl⟩
            · dsimp only at f1 f2
              have Hq := Lib.hid hq
              clear hq
              go_quiet (fail)
              go_wp2_with fail
              go_meet
              exact ⟨by rw [Hq.out]; rfl, nq, rfl⟩
      case rest =>
        obtain ⟨hc, nq, hwc⟩ := hcut
        have ho2 := ho.drewN nq
        rw [← hwc] at ho2
        have hb2 := belowDrew hb nq
        rw [← hwc] at hb2
        replace v0 : wc.cell? ⟨bx, 0, none⟩ = some (.string xp) := by rw [hwc]; exact v0
        replace v1 : wc.cell? ⟨bx, 1, none⟩ = some (.int .i64 xi) := by rw [hwc]; exact v1
        replace v2 : wc.cell? ⟨bx, 2, none⟩ = some (.bool xd) := by rw [hwc]; exact v2
        replace v3 : wc.cell? ⟨bx, 3, none⟩ = some (.string xs) := by rw [hwc]; exact v3
        obtain ⟨g0, g1, g2, g3⟩ := HC.out wc hb2
        clear ho hb hVr d0 d1 d2 d3 hbl hwc wr
        cases d with
        | true =>
          obtain ⟨hn, hrel2⟩ := put_done HP.out Hy.out
          have HN := Lib.hid hn
          clear hn
          generalize putK ⟨xp, xi, xd, xs⟩ l k true = acc at *
          replace hc := hc.trans (show _ = Value.bool false from rfl)
          subst hc
          go_wp2_with (at_builtin; refine wpList_append_rows _ rfl _ _ 26 rfl entLay W1.heap.size 38 i0 (.agg #[.string ⟨#[]⟩, .int .i64 0, .bool false, .string ⟨#[]⟩]) 48 Tryd.underlying26 Hi.out Hz0.out Hz1.out Hz2.out rfl (by decide) _ acc rfl (ho2.alloc _) ⟨wc.heap.size, 0, none⟩ 1 ⟨yp, yi, yd, ys⟩ rfl (cells_new_at wc wc.heap.size #[.string yp, .int .i64 yi, .bool yd, .string ys] 38 rfl) (by unfold maxLen; omega) (by omega) (by have := hb2.size; simp; omega) ?_)
          intro va1 w5 ho5 hg1 _
          have hb5 := (hb2.alloc hb2.size (.cells #[.string yp, .int .i64 yi, .bool yd, .string ys] 38)).grown hg1 (by have := hb2.size; simp; omega) (fun j ej => (ho2.lt ej).1)
          clear hg1 ho2
          go_wp2_with fail
          go_roundw
          case rel => exact ⟨k + 1, true, by omega, by go_num, rfl, by rw [HN.out]; exact ho5, Lib.hid hrel2, hb5⟩
          case measure => simp [RowKit.intOf]; omega
        | false =>
          cases hq : befE ⟨xp, xi, xd, xs⟩ ⟨yp, yi, yd, ys⟩ with
          | true =>
            obtain ⟨hn, hrel2⟩ := put_now HP.out Hy.out hq
            have HN := Lib.hid hn
            replace hc := hc.trans (show _ = Value.bool true by rw [hq]; rfl)
            subst hc
            clear hn hq
            generalize putK ⟨xp, xi, xd, xs⟩ l k false = acc at *
            go_wp2_with (at_builtin; refine wpList_append_rows _ rfl _ _ 26 rfl entLay W1.heap.size 38 i0 (.agg #[.string ⟨#[]⟩, .int .i64 0, .bool false, .string ⟨#[]⟩]) 48 Tryd.underlying26 Hi.out Hz0.out Hz1.out Hz2.out rfl (by decide) _ acc rfl (ho2.alloc _) ⟨wc.heap.size, 0, none⟩ 1 ⟨xp, xi, xd, xs⟩ rfl (cells_new_at wc wc.heap.size #[.string xp, .int .i64 xi, .bool xd, .string xs] 38 rfl) (by unfold maxLen; omega) (by omega) (by have := hb2.size; simp; omega) ?_)
            intro va1 w5 ho5 hg1 _
            have hb5 := (hb2.alloc hb2.size (.cells #[.string xp, .int .i64 xi, .bool xd, .string xs] 38)).grown hg1 (by have := hb2.size; simp; omega) (fun j ej => (ho2.lt ej).1)
            clear hg1 ho2
            obtain ⟨g0, g1, g2, g3⟩ := HC.out w5 hb5
            have hlen2 : (acc ++ [(⟨xp, xi, xd, xs⟩ : Ent)]).length ≤ 1002 := by rw [List.length_append]; simp; omega
            obtain ⟨acc2, hacc2⟩ : ∃ acc2, acc ++ [(⟨xp, xi, xd, xs⟩ : Ent)] = acc2 := ⟨_, rfl⟩
            rw [hacc2] at ho5 hlen2 HN
            go_wp2_with (at_builtin; refine wpList_append_rows _ rfl _ _ 26 rfl entLay W1.heap.size 38 i0 (.agg #[.string ⟨#[]⟩, .int .i64 0, .bool false, .string ⟨#[]⟩]) 48 Tryd.underlying26 Hi.out Hz0.out Hz1.out Hz2.out rfl (by decide) _ acc2 rfl (ho5.alloc _) ⟨w5.heap.size, 0, none⟩ 1 ⟨yp, yi, yd, ys⟩ rfl (cells_new_at w5 w5.heap.size #[.string yp, .int .i64 yi, .bool yd, .string ys] 38 rfl) (by unfold maxLen; omega) (by omega) (by have := hb5.size; simp; omega) ?_)
            intro va2 w6 ho6 hg2 _
            have hb6 := (hb5.alloc hb5.size (.cells #[.string yp, .int .i64 yi, .bool yd, .string ys] 38)).grown hg2 (by have := hb5.size; simp; omega) (fun j ej => (ho5.lt ej).1)
            clear hg2 ho5
            go_wp2_with fail
            go_roundw
            case rel => exact ⟨k + 1, true, by omega, by go_num, rfl, by rw [HN.out]; exact ho6, Lib.hid hrel2, hb6⟩
            case measure => simp [RowKit.intOf]; omega
          | false =>
            obtain ⟨hn, hrel2⟩ := put_not HP.out Hy.out hq
            have HN := Lib.hid hn
            replace hc := hc.trans (show _ = Value.bool false by rw [hq]; rfl)
            subst hc
            clear hn hq
            generalize putK ⟨xp, xi, xd, xs⟩ l k false = acc at *
            go_wp2_with (at_builtin; refine wpList_append_rows _ rfl _ _ 26 rfl entLay W1.heap.size 38 i0 (.agg #[.string ⟨#[]⟩, .int .i64 0, .bool false, .string ⟨#[]⟩]) 48 Tryd.underlying26 Hi.out Hz0.out Hz1.out Hz2.out rfl (by decide) _ acc rfl (ho2.alloc _) ⟨wc.heap.size, 0, none⟩ 1 ⟨yp, yi, yd, ys⟩ rfl (cells_new_at wc wc.heap.size #[.string yp, .int .i64 yi, .bool yd, .string ys] 38 rfl) (by unfold maxLen; omega) (by omega) (by have := hb2.size; simp; omega) ?_)
            intro va1 w5 ho5 hg1 _
            have hb5 := (hb2.alloc hb2.size (.cells #[.string yp, .int .i64 yi, .bool yd, .string ys] 38)).grown hg1 (by have := hb2.size; simp; omega) (fun j ej => (ho2.lt ej).1)
            clear hg1 ho2
            go_wp2_with fail
            go_roundw
            case rel => exact ⟨k + 1, false, by omega, by go_num, rfl, by rw [HN.out]; exact ho5, Lib.hid hrel2, hb5⟩
            case measure => simp [RowKit.intOf]; omega
    · obtain rfl : k = l.length := by omega
      have hend := put_end HP.out
      have hbz := hal.trans (hb.mono hal.size)
      cases d with
      | true =>
        rw [if_pos rfl, List.append_nil] at hend
        rw [hend] at ho
        go_wp2_with fail
        go_ret
        exact ⟨_, rfl, ho.lower hal.size, hbz⟩
      | false =>
        rw [if_neg Bool.false_ne_true] at hend
        have HN := Lib.hid hend
        clear hend
        generalize putK ⟨xp, xi, xd, xs⟩ l l.length false = acc at *
        go_wp2_with (at_builtin; refine wpList_append_rows _ rfl _ _ 26 rfl entLay W1.heap.size 38 i0 (.agg #[.string ⟨#[]⟩, .int .i64 0, .bool false, .string ⟨#[]⟩]) 48 Tryd.underlying26 Hi.out Hz0.out Hz1.out Hz2.out rfl (by decide) _ acc rfl (ho.alloc _) ⟨wr.heap.size, 0, none⟩ 1 ⟨xp, xi, xd, xs⟩ rfl (cells_new_at wr wr.heap.size #[.string xp, .int .i64 xi, .bool xd, .string xs] 38 rfl) (by unfold maxLen; omega) (by omega) (by have := hb.size; simp; omega) ?_)
        intro va1 w5 ho5 hg1 _
        have hb5 := (hb.alloc hb.size (.cells #[.string xp, .int .i64 xi, .bool xd, .string xs] 38)).grown hg1 (by have := hb.size; simp; omega) (fun j ej => (ho.lt ej).1)
        clear hg1 ho
        rw [HN.out] at ho5
        go_wp2_with fail
        go_ret
        exact ⟨_, rfl, ho5.lower hal.size, hal.trans (hb5.mono hal.size)⟩
end Go.Proofs.YtgjgeojhhglidaaDoor
