/-
  oplog: Next. oplog's laws: first, texts. Operations and pieces that last: the chapter's example, in plain Lean. arbourlaw18: the chapter's example. The law OplogNil. Arguments that are slices of structs which hold slices: opened, leaf by leaf. Of no program. Operations that came in, opened.
-/
import Derived.Test.YtgglheelhbfgiaaGreatDoorMg26
import Derived.Test.YtgglheelhbfgiaaGreatDoorMg23
import Derived.Test.YtgglheelhbfgiaaGreatDoorMg3
import Derived.Test.YtgglheelhbfgiaaGreatDoorMg4
namespace Go.Proofs.YtgglheelhbfgiaaGreatDoor
open Go Go.RowKit Go.Lib
theorem snInfo : (Tryz.prog.info? 61).map (fun i => (i.zero, i.size, i.bytes)) = some (some (.agg #[.int .i64 0, .int .i64 0]), 2, 16) := by kernel_rfl
def stampsO (l : List Opr) : List (Int × Int) := l.map fun x => (x.cnt, x.who)
def cntN (l : List Opr) (who : Int) : Nat := 1 + (l.filter fun x => decide (x.who = who)).length
theorem lastO_eq (l : List Opr) : lastC (stampsO l) = lastO l := by
  unfold lastC lastO stampsO
  rw [List.foldl_map]
theorem nextO_eq (l : List Opr) (who : Int) : nextO l who = (((nextC2 (stampsO l) who).1.1, (nextC2 (stampsO l) who).1.2, if (nextC2 (stampsO l) who).2 = 0 then (cntN l who : Int) else 0), (nextC2 (stampsO l) who).2) := by
  unfold nextO nextC2
  rw [lastO_eq]
  split
  · rfl
  · split
    · rfl
    · simp [cntN]
theorem nextC2_bad (l : List (Int × Int)) (who : Int) (h : (nextC2 l who).2 ≠ 0) : (nextC2 l who).1 = (0, 0) := by
  unfold nextC2 at h ⊢
  split
  · rfl
  · rw [if_neg (by assumption)] at h
    split
    · rfl
    · rw [if_neg (by assumption)] at h
      exact absurd rfl h
theorem cntN_snoc {l : List Opr} {k : Nat} {x : Opr} (h : l[k]? = some x) (who : Int) : cntN (l.take (k + 1)) who = cntN (l.take k) who + (if x.who = who then 1 else 0) := by
  unfold cntN
  rw [List.take_add_one, h, List.filter_append, List.length_append]
  by_cases hx : x.who = who
  · simp [hx]
    omega
  · simp [hx]
theorem cntN_le (l : List Opr) (who : Int) : cntN l who ≤ l.length + 1 := by
  unfold cntN
  have := List.length_filter_le (fun x : Opr => decide (x.who = who)) l
  omega
theorem stampsO_snoc {l : List Opr} {k : Nat} {x : Opr} (h : l[k]? = some x) : stampsO (l.take (k + 1)) = stampsO (l.take k) ++ [(x.cnt, x.who)] := by
  unfold stampsO
  rw [List.take_add_one, h, List.map_append]
  rfl
theorem stampsO_len (l : List Opr) : (stampsO l).length = l.length := List.length_map _
set_option maxRecDepth 100000 in
set_option maxHeartbeats 6400000 in
theorem onext_any {w0 w : World} {db ob lb : Nat} {T : Nat → Prop} {d : Dk} {o : Ol} (h : OlIn w0 w db ob lb T d o) (hl : o.st.ops.length ≤ 10000) (who : Int) :
    Calls Tryz.prog 36 #[.pointer (some ⟨ob, 0, none⟩), .int .i64 who] w fun e w' => e = .returned (.tuple #[.agg #[.int .i64 (nextO o.st.ops who).1.1, .int .i64 (nextO o.st.ops who).1.2.1], .int .i64 (nextO o.st.ops who).1.2.2, .int .i64 (nextO o.st.ops who).2]) ∧ Below w.heap.size w w' := by
  obtain ⟨i0, hi, hz0, hz1, hz2⟩ := info_three snInfo
  have Hi := Lib.hid hi
  have Hz0 := Lib.hid hz0
  have Hz1 := Lib.hid hz1
  have Hz2 := Lib.hid hz2
  clear hi hz0 hz1 hz2
  obtain ⟨a, vp, hst, _, _⟩ := h.st
  obtain ⟨⟨cap, hc1, hc2⟩, _, _, _, _, _⟩ := hst
  have hR := VarAt.new w #[.int .i64 0, .int .i64 0] 61
  have hb0 : Below w.heap.size w (w.alloc (.cells #[.int .i64 0, .int .i64 0] 61)) := (Below.refl _ _).alloc (Nat.le_refl _) _
  have k0 := (hc1.keeps hb0 hc1.1).2.2 0 _ rfl
  have HO := Lib.hid hc2
  have HN := Lib.hid (nextO_eq o.st.ops who)
  generalize nextO o.st.ops who = N at *
  clear h hc1 hc2
  generalize o.st.ops = l at *
  go_enter Tryz.func36, Tryz.ntmps36
  go_wp2_with fail
  obtain ⟨W0, hW0⟩ : ∃ W0, w.alloc (.cells #[.int .i64 0, .int .i64 0] 61) = W0 := ⟨_, rfl⟩
  rw [hW0] at hR hb0 k0 ⊢
  clear hW0
  go_loopw [7, 8, 10, 22] (fun n v _ i wr => ∃ k : Nat, k ≤ l.length ∧ n = .int .i64 (cntN (l.take k) who) ∧ i = .int .i64 k ∧ OwnRows snLay wr W0.heap.size 61 v (stampsO (l.take k)) ∧ Below W0.heap.size W0 wr) (fun _ _ _ i _ => l.length - (RowKit.intOf i).toNat)
  case atStart => exact ⟨0, Nat.zero_le _, rfl, rfl, OwnRows.nil _ _ _ _, Below.refl _ _⟩
  case round =>
    obtain ⟨k, hk, rfl, rfl, ho, hb⟩ := hrel
    have hsl : (stampsO (l.take k)).length = k := by rw [stampsO_len, List.length_take]; omega
    obtain ⟨va, vc, rfl, hvr, _⟩ := ho.read
    rw [hsl] at ho ⊢
    by_cases hlt : k < l.length
    · obtain ⟨x, hx⟩ := at_some hlt
      obtain ⟨b, off, rfl, hbl, c0, c1, c2, c3, c4, c5, c6, c7, c8, c9, c10⟩ := opr_at (HO.out.rows.keeps (hb0.trans (hb.mono hb0.size))) hx
      have hlti : (k : Int) < (l.length : Int) := by omega
      have Hs := Lib.hid (stampsO_snoc hx)
      have Hc := Lib.hid (cntN_snoc hx who)
      have hcl := cntN_le (l.take k) who
      have hcl2 : (l.take k).length ≤ k := by rw [List.length_take]; omega
      have hX := box_VarAt wr x
      have hbx := hb.alloc hb.size (.cells #[.int .i64 x.cnt, .int .i64 x.who, .int .i64 x.seq, .int .i64 x.kind, .int .i64 x.nc, .int .i64 x.nw, .bool x.dir, .int .i64 x.pc, .int .i64 x.pw, .string x.name, .string x.man] 66)
      have Ho2 := Lib.hid (ho.alloc (.cells #[.int .i64 x.cnt, .int .i64 x.who, .int .i64 x.seq, .int .i64 x.kind, .int .i64 x.nc, .int .i64 x.nw, .bool x.dir, .int .i64 x.pc, .int .i64 x.pw, .string x.name, .string x.man] 66))
      have Hlt := Lib.hid (fun q (e : (Value.slice va k vc).ownBlock = some q) => (ho.lt e).2)
      clear hx ho hvr
      have x0 := hX.2.2 0 _ rfl
      have x1 := hX.2.2 1 _ rfl
      by_cases hw : x.who = who
      · have hwb : (x.who == who) = true := by rw [beq_iff_eq]; exact hw
        have Hc2 := Lib.hid (show (cntN (l.take (k + 1)) who : Int) = cntN (l.take k) who + 1 by rw [Hc.out, if_pos hw]; omega)
        clear hw Hc
        go_wp2_with (at_builtin; refine wpList_append_rows _ rfl _ _ 131 rfl snLay W0.heap.size 61 i0 (.agg #[.int .i64 0, .int .i64 0]) 16 Tryz.underlying131 Hi.out Hz0.out Hz1.out Hz2.out rfl (by decide) _ (stampsO (l.take k)) rfl (Ho2.out.alloc _) ⟨wr.heap.size + 1, 0, none⟩ 1 (x.cnt, x.who) rfl (cells_new_at (wr.alloc (.cells #[.int .i64 x.cnt, .int .i64 x.who, .int .i64 x.seq, .int .i64 x.kind, .int .i64 x.nc, .int .i64 x.nw, .bool x.dir, .int .i64 x.pc, .int .i64 x.pw, .string x.name, .string x.man] 66)) (wr.heap.size + 1) #[.int .i64 x.cnt, .int .i64 x.who] 61 (by simp)) (by rw [hsl]; unfold maxLen; omega) (by rw [hsl]; omega) (by have := hb.size; simp; omega) ?_; intro v3 w5 hrow5 hg5 hv5; have y1 : w5.cell? ⟨wr.heap.size, 1, none⟩ = some (.int .i64 x.who) := ((hX.keeps ((Below.refl _ _).alloc (Nat.le_refl _) _) hX.1).grown hg5 (fun e => Nat.lt_irrefl _ (Hlt.out _ e.symm))).2.2 1 _ rfl; rw [← Hs.out] at hrow5)
        have hb5 := (hbx.alloc hbx.size (.cells #[.int .i64 x.cnt, .int .i64 x.who] 61)).grown hg5 (by have := hb.size; simp; omega) (fun q eq => (Ho2.out.lt eq).1)
        clear hg5 hv5 y1
        obtain ⟨va2, vc2, rfl, _, _⟩ := hrow5.read
        go_roundw
        case rel => exact ⟨k + 1, hlt, by rw [Hc2.out], by go_num, hrow5, hb5⟩
        case measure => (show l.length - (k + 1) < l.length - k; omega)
      · have hwb : (x.who == who) = false := by rw [beq_eq_false_iff_ne]; exact hw
        have Hc2 := Lib.hid (show (cntN (l.take (k + 1)) who : Int) = cntN (l.take k) who by rw [Hc.out, if_neg hw]; omega)
        clear hw Hc
        go_wp2_with (at_builtin; refine wpList_append_rows _ rfl _ _ 131 rfl snLay W0.heap.size 61 i0 (.agg #[.int .i64 0, .int .i64 0]) 16 Tryz.underlying131 Hi.out Hz0.out Hz1.out Hz2.out rfl (by decide) _ (stampsO (l.take k)) rfl (Ho2.out.alloc _) ⟨wr.heap.size + 1, 0, none⟩ 1 (x.cnt, x.who) rfl (cells_new_at (wr.alloc (.cells #[.int .i64 x.cnt, .int .i64 x.who, .int .i64 x.seq, .int .i64 x.kind, .int .i64 x.nc, .int .i64 x.nw, .bool x.dir, .int .i64 x.pc, .int .i64 x.pw, .string x.name, .string x.man] 66)) (wr.heap.size + 1) #[.int .i64 x.cnt, .int .i64 x.who] 61 (by simp)) (by rw [hsl]; unfold maxLen; omega) (by rw [hsl]; omega) (by have := hb.size; simp; omega) ?_; intro v3 w5 hrow5 hg5 hv5; have y1 : w5.cell? ⟨wr.heap.size, 1, none⟩ = some (.int .i64 x.who) := ((hX.keeps ((Below.refl _ _).alloc (Nat.le_refl _) _) hX.1).grown hg5 (fun e => Nat.lt_irrefl _ (Hlt.out _ e.symm))).2.2 1 _ rfl; rw [← Hs.out] at hrow5)
        have hb5 := (hbx.alloc hbx.size (.cells #[.int .i64 x.cnt, .int .i64 x.who] 61)).grown hg5 (by have := hb.size; simp; omega) (fun q eq => (Ho2.out.lt eq).1)
        clear hg5 hv5 y1
        obtain ⟨va2, vc2, rfl, _, _⟩ := hrow5.read
        go_roundw
        case rel => exact ⟨k + 1, hlt, by rw [Hc2.out], by go_num, hrow5, hb5⟩
        case measure => (show l.length - (k + 1) < l.length - k; omega)
    · have hke : k = l.length := by omega
      subst hke
      rw [List.take_length] at ho hvr ⊢
      have hcn := cnext_any who va vc (stampsO l) wr (by rw [stampsO_len]; omega) hvr
      rw [stampsO_len] at hcn
      have HCN := Lib.hid hcn
      have HRx := Lib.hid (hR.keeps hb hR.1)
      have hbw := hb0.trans (hb.mono hb0.size)
      clear hcn ho hvr
      have HB := Lib.hid (nextC2_bad (stampsO l) who)
      generalize nextC2 (stampsO l) who = C at *
      obtain ⟨⟨cc, cw⟩, ce⟩ := C
      dsimp only at HN HCN HB
      go_wp2_with fail
      refine HCN.out.mono ?_
      rintro e w5 ⟨rfl, hb5⟩
      have HRy := Lib.hid (HRx.out.keeps hb5 HRx.out.1)
      have hbz := hbw.trans (hb5.mono hbw.size)
      have f0 := HRy.out.2.1 0
      have f1 := HRy.out.2.1 1
      have z0 := HRy.out.2.2 0 _ rfl
      have z1 := HRy.out.2.2 1 _ rfl
      have hlt5 := HRy.out.1
      have hbY : ∀ u v, Below w.heap.size w (((w5.setCell ⟨w.heap.size, 0, none⟩ u).setCell ⟨w.heap.size, 1, none⟩ v).alloc (.cells #[.int .i64 cc, .int .i64 cw] 61)) := fun u v => ((hbz.setCell (p := ⟨w.heap.size, 0, none⟩) (Nat.le_refl _) u).setCell (p := ⟨w.heap.size, 1, none⟩) (Nat.le_refl _) v).alloc (by simpa using hbz.size) _
      by_cases hce : ce = 0
      · subst hce
        have HN2 := Lib.hid (HN.out.trans (by rw [if_pos rfl]))
        go_wp2_with fail
        have hz := (res_set (.int .i64 cc) (.int .i64 cw) HRy.out).keeps ((Below.refl _ _).alloc (Nat.le_refl _) (.cells #[.int .i64 cc, .int .i64 cw] 61)) (by simpa using hlt5)
        have y0 := hz.2.2 0 _ rfl
        have y1 := hz.2.2 1 _ rfl
        rw [HN2.out]
        exact bodyPost_ret (v := .tuple #[.agg #[.int .i64 cc, .int .i64 cw], .int .i64 (cntN l who), .int .i64 0]) (by simp [results, Tryz.results36, go_sem, y0, y1]) rfl ⟨rfl, hbY _ _⟩
      · have q : (ce != 0) = true := by rw [bne_iff_ne]; exact hce
        have hcc := HB.out hce
        simp only [Prod.mk.injEq] at hcc
        obtain ⟨rfl, rfl⟩ := hcc
        have HN2 := Lib.hid (HN.out.trans (by rw [if_neg hce]))
        go_wp2_with fail
        have hz := (res_set (.int .i64 0) (.int .i64 0) HRy.out).keeps ((Below.refl _ _).alloc (Nat.le_refl _) (.cells #[.int .i64 0, .int .i64 0] 61)) (by simpa using hlt5)
        have y0 := hz.2.2 0 _ rfl
        have y1 := hz.2.2 1 _ rfl
        rw [HN2.out]
        exact bodyPost_ret (v := .tuple #[.agg #[.int .i64 0, .int .i64 0], .int .i64 0, .int .i64 ce]) (by simp [results, Tryz.results36, go_sem, y0, y1]) rfl ⟨rfl, hbY _ _⟩
end Go.Proofs.YtgglheelhbfgiaaGreatDoor

namespace Go.Proofs.YtgglheelhbfgiaaGreatDoor
open Go Go.RowKit Go.Lib
def opF : Opr := ⟨3, 0, 1, 1, 3, 0, true, 0, 0, ⟨#[97]⟩, ⟨#[]⟩⟩
theorem ofirst_any (w : World) : Calls Tryz.prog 38 #[] w fun e w' => e = .returned (.agg #[.int .i64 3, .int .i64 0, .int .i64 1, .int .i64 1, .int .i64 3, .int .i64 0, .bool true, .int .i64 0, .int .i64 0, .string ⟨#[97]⟩, .string ⟨#[]⟩]) ∧ Below w.heap.size w w' := by
  go_enter Tryz.func38, Tryz.ntmps38
  go_wp2_with fail
  have hV := VarAt.new w #[.int .i64 3, .int .i64 0, .int .i64 1, .int .i64 1, .int .i64 3, .int .i64 0, .bool true, .int .i64 0, .int .i64 0, .string ⟨#[97]⟩, .string ⟨#[]⟩] 66
  have hz := hV.keeps ((Below.refl _ _).alloc (Nat.le_refl _) (.cells #[.int .i64 3, .int .i64 0] 61)) hV.1
  have y0 := hz.2.2 0 _ rfl
  have y1 := hz.2.2 1 _ rfl
  have y2 := hz.2.2 2 _ rfl
  have y3 := hz.2.2 3 _ rfl
  have y4 := hz.2.2 4 _ rfl
  have y5 := hz.2.2 5 _ rfl
  have y6 := hz.2.2 6 _ rfl
  have y7 := hz.2.2 7 _ rfl
  have y8 := hz.2.2 8 _ rfl
  have y9 := hz.2.2 9 _ rfl
  have y10 := hz.2.2 10 _ rfl
  have hb : Below w.heap.size w (w.alloc (.cells #[.int .i64 3, .int .i64 0, .int .i64 1, .int .i64 1, .int .i64 3, .int .i64 0, .bool true, .int .i64 0, .int .i64 0, .string ⟨#[97]⟩, .string ⟨#[]⟩] 66)) := (Below.refl _ _).alloc (Nat.le_refl _) _
  exact bodyPost_ret (v := .agg #[.int .i64 3, .int .i64 0, .int .i64 1, .int .i64 1, .int .i64 3, .int .i64 0, .bool true, .int .i64 0, .int .i64 0, .string ⟨#[97]⟩, .string ⟨#[]⟩]) (by simp [results, Tryz.results38, go_sem, y0, y1, y2, y3, y4, y5, y6, y7, y8, y9, y10]) rfl ⟨rfl, hb.alloc hb.size _⟩
set_option maxRecDepth 100000 in
set_option maxHeartbeats 1600000 in
theorem otexts_any (a b : Option Addr) (cap cap' : Nat) (xs ys : List ByteArray) (w : World) (hl : xs.length ≤ 140737488351232) (ha : RowsAt strLay w a xs) (hb : RowsAt strLay w b ys) :
    Calls Tryz.prog 46 #[.slice a xs.length cap, .slice b ys.length cap'] w fun e w' => e = .returned (.bool (decide (xs = ys))) ∧ ∃ n, w' = w.drewN n := by
  have HA := Lib.hid ha
  have HB := Lib.hid hb
  clear ha hb
  by_cases hlen : xs.length = ys.length
  · have hq : ((xs.length : Int) != (ys.length : Int)) = false := by rw [hlen]; simp
    have Hlen := Lib.hid hlen
    clear hlen
    go_enter Tryz.func46, Tryz.ntmps46
    go_wp2
    clear hq
    go_loopw [5] (fun i wr => ∃ k : Nat, k ≤ xs.length ∧ i = .int .i64 k ∧ Hid (∀ j, j < k → xs[j]? = ys[j]?) ∧ ∃ n, wr = w.drewN n) (fun i _ => xs.length - (RowKit.intOf i).toNat)
    case atStart => exact ⟨0, Nat.zero_le _, rfl, fun j hj => absurd hj (Nat.not_lt_zero _), Drawn.refl _⟩
    case round =>
      obtain ⟨k, hk, rfl, Hk, n, rfl⟩ := hrel
      by_cases hlt : k < xs.length
      · have hlt2 : k < ys.length := by have := Hlen.out; omega
        obtain ⟨x, hx⟩ := at_some hlt
        obtain ⟨y, hy⟩ := at_some hlt2
        obtain ⟨b1, o1, rfl, hb1, c0⟩ := str_at HA.out hx
        obtain ⟨b2, o2, rfl, hb2, d0⟩ := str_at HB.out hy
        have Hx := Lib.hid hx
        have Hy := Lib.hid hy
        clear hx hy
        by_cases h1 : x = y
        · have e2 := str_eq h1
          have Hn := Lib.hid h1
          clear h1
          go_wp2
          go_quiet (fail)
          go_wp2
          go_roundw
          case rel =>
            refine ⟨k + 1, by omega, by go_num, fun j hj => ?_, n + nq, by simp⟩
            by_cases e : j = k
            · subst e; rw [Hx.out, Hy.out, Hn.out]
            · exact Hk.out j (by omega)
          case measure => simp [RowKit.intOf]; omega
        · have e2 := str_ne h1
          have Hr := Lib.hid (ssame_at Hx.out Hy.out h1)
          clear h1
          go_wp2
          go_quiet (fail)
          go_wp2
          go_ret
          exact ⟨ret_bool Hr.out.symm, n + nq, by simp⟩
      · have Hr := Lib.hid (ssame_ok Hlen.out (fun j hj => Hk.out j (by omega)))
        go_wp2
        go_ret
        exact ⟨ret_bool Hr.out.symm, _, rfl⟩
  · have Hr := Lib.hid (ssame_len hlen)
    have hq : ((xs.length : Int) != (ys.length : Int)) = true := by rw [bne_iff_ne]; omega
    clear hlen
    go_enter Tryz.func46, Tryz.ntmps46
    go_wp2
    go_ret
    exact ⟨ret_bool Hr.out.symm, Drawn.refl _⟩


end Go.Proofs.YtgglheelhbfgiaaGreatDoor

namespace Go.Proofs.YtgglheelhbfgiaaGreatDoor
open Go Go.RowKit Go.Lib
def pcA : ByteArray := ⟨#[97]⟩
def recsA : List ByteArray := [recP pcA, recO opF]
def oD0 : Dk := newD 100000
def oO1 : OpenO := openO oD0
def oA1 : Ol × Dk × Int := addS ⟨noSt, logOf [], false⟩ [pcA] [opF] (openD oD0).d
theorem grownA : grownS noSt [pcA] [opF] = ((⟨[opF], [pcA]⟩, recsA), 0) := by kernel_rfl
theorem replaysA : replaysS noSt recsA = some ⟨[opF], [pcA]⟩ := by kernel_rfl
theorem nextA : nextO [opF] 0 = ((4, 0, 2), 0) := by kernel_rfl
theorem rightA : recsA.all rightR = true := by kernel_rfl
theorem recsA_len : ∀ s ∈ rsL recsA, s.length ≤ 20 := by decide +kernel
theorem recsA_sz : ∀ r ∈ recsA, 0 < r.size ∧ r.size ≤ 100000 := by decide +kernel
structure OAwake : Prop where
  log1 : (openD oD0).log = some (logOf [])
  out1 : (openD oD0).out = []
  err1 : (openD oD0).err = 0
  open1 : oO1 = ⟨some ⟨noSt, logOf [], false⟩, 0, (openD oD0).d⟩
  st1 : StL 100000 (openD oD0).d []
  add : ∃ l, oA1 = (⟨⟨[opF], [pcA]⟩, l, false⟩, oA1.2.1, 0)
  st2 : StL 100000 oA1.2.1 (rsL recsA)
  log2 : (openD oA1.2.1).log = some (logOf (rsL recsA))
  out2 : (openD oA1.2.1).out = recsA
  err2 : (openD oA1.2.1).err = 0
  open2 : openO oA1.2.1 = ⟨some ⟨⟨[opF], [pcA]⟩, logOf (rsL recsA), false⟩, 0, (openD oA1.2.1).d⟩
theorem oawake_plain : OAwake := by
  obtain ⟨a1, a2, a3, a4, _⟩ := open_still (new_mid (lim := 100000)) (by decide)
  obtain ⟨b1, b2, _, _⟩ := append_still (c := 20) a4 (LgFor.of []) recsA rightA (fun s hs => by cases hs) recsA_len (by decide) (by decide)
  rw [List.nil_append] at b2
  have hA : oA1 = (⟨⟨[opF], [pcA]⟩, (appendD (logOf []) recsA (openD oD0).d).1, false⟩, (appendD (logOf []) recsA (openD oD0).d).2.1, 0) := by
    unfold oA1 addS
    rw [if_neg (by decide), grownA, if_neg (by decide)]
    exact if_pos b1
  have hA2 : oA1.2.1 = (appendD (logOf []) recsA (openD oD0).d).2.1 := by rw [hA]
  have hst : StL 100000 oA1.2.1 (rsL recsA) := by rw [hA2]; exact b2
  obtain ⟨c1, c2, c3, _, _⟩ := open_still hst.mid (by decide)
  rw [back_B] at c2
  exact ⟨a1, a2, a3, openO_good _ _ a1 (by rw [show (openD oD0).out = [] from a2]; rfl), a4, ⟨_, by rw [← hA2] at hA; exact hA⟩, hst, c1, c2, c3, openO_good _ _ c1 (by rw [c2]; exact replaysA)⟩
theorem OAwake.pre1 (h : OAwake) : (openD oD0).out.length ≤ 10000 ∧ (∀ r ∈ (openD oD0).out, 0 < r.size ∧ r.size ≤ 100000) ∧ (∀ l, (openD oD0).log = some l → (openD oD0).err = 0) ∧ ((openD oD0).log = none → (openD oD0).err ≠ 0) := by
  rw [h.out1, h.err1, h.log1]
  exact ⟨Nat.zero_le _, fun r hr => (by cases hr), fun _ _ => rfl, fun e => (by cases e)⟩
theorem OAwake.pre2 (h : OAwake) : (openD oA1.2.1).out.length ≤ 10000 ∧ (∀ r ∈ (openD oA1.2.1).out, 0 < r.size ∧ r.size ≤ 100000) ∧ (∀ l, (openD oA1.2.1).log = some l → (openD oA1.2.1).err = 0) ∧ ((openD oA1.2.1).log = none → (openD oA1.2.1).err ≠ 0) := by
  rw [h.out2, h.err2, h.log2]
  exact ⟨by decide, recsA_sz, fun _ _ => rfl, fun e => (by cases e)⟩
end Go.Proofs.YtgglheelhbfgiaaGreatDoor

namespace Go.Proofs.YtgglheelhbfgiaaGreatDoor
open Go Go.RowKit Go.Lib
set_option maxRecDepth 100000 in
set_option maxHeartbeats 6400000 in
theorem awake18_any (w : World) (ht : TabD w) : Calls Tryz.prog 42 #[] w fun e w' => e = .returned (.bool true) ∧ Below w.heap.size w w' := by
  have HN := Lib.hid (new_any w 100000 (by decide) (by decide))
  have HP := Lib.hid oawake_plain
  have HT := Lib.hid ht
  clear ht
  obtain ⟨db, hdb⟩ : ∃ db, w.heap.size + 2 = db := ⟨_, rfl⟩
  rw [hdb] at HN
  clear hdb
  go_enter Tryz.func42, Tryz.ntmps42
  go_wp2_with fail
  refine HN.out.mono ?_
  rintro e w1 ⟨rfl, hD, hb1⟩
  have HO := Lib.hid (oopen_any (w0 := w) hD (by show ([] : Fls).length ≤ _; decide) (by show ([] : List ActD).length ≤ _; decide) HT.out hb1 (fun k hk => hk.1) HP.out.pre1.1 HP.out.pre1.2.1 HP.out.pre1.2.2.1 HP.out.pre1.2.2.2)
  have HB1 := Lib.hid hb1
  clear hD hb1
  go_wp2_with fail
  refine HO.out.mono ?_
  rintro e w2 hO
  change OpenOIs w w1 db _ oO1 e w2 at hO
  rw [HP.out.open1] at hO
  obtain ⟨T1, hD1, hT1, hTu1, hcase⟩ := hO
  rcases hcase with ⟨h, _⟩ | ⟨ol, ob, lb, hol, rfl, hIn, hob, hlb⟩
  · cases h
  cases hol
  dsimp only at hD1 hIn
  have HI := Lib.hid hIn
  clear hD1 hT1 hTu1 hob hlb hIn
  go_wp2_with fail
  refine (ofirst_any _).mono ?_
  rintro e w3 ⟨rfl, hb3⟩
  have hal3 := (Below.refl w2.heap.size w2).alloc (Nat.le_refl _) (.cells #[.string ⟨#[97]⟩] 9)
  have hal4 := (Below.refl w3.heap.size w3).alloc (Nat.le_refl _) (.cells #[.int .i64 3, .int .i64 0, .int .i64 1, .int .i64 1, .int .i64 3, .int .i64 0, .bool true, .int .i64 0, .int .i64 0, .string ⟨#[97]⟩, .string ⟨#[]⟩] 66)
  have hb23 := hal3.trans (hb3.mono hal3.size)
  have hb24 := hb23.trans (hal4.mono hb23.size)
  have hst1 := HP.out.st1
  have hA : Calls Tryz.prog 37 #[.pointer (some ⟨ob, 0, none⟩), .slice (some ⟨w2.heap.size, 0, none⟩) 1 1, .slice (some ⟨w3.heap.size, 0, none⟩) 1 1] (w3.alloc (.cells #[.int .i64 3, .int .i64 0, .int .i64 1, .int .i64 1, .int .i64 3, .int .i64 0, .bool true, .int .i64 0, .int .i64 0, .string ⟨#[97]⟩, .string ⟨#[]⟩] 66)) fun e w' => e = .returned (.int .i64 oA1.2.2) ∧ ∃ T', OlIn w w' db ob lb T' oA1.2.1 oA1.1 ∧ OStp (w3.alloc (.cells #[.int .i64 3, .int .i64 0, .int .i64 1, .int .i64 1, .int .i64 3, .int .i64 0, .bool true, .int .i64 0, .int .i64 0, .string ⟨#[97]⟩, .string ⟨#[]⟩] 66)) w' T1 T' ob lb :=
    oadd_any (HI.out.keeps hb24) (some ⟨w2.heap.size, 0, none⟩) 1 [pcA] (some ⟨w3.heap.size, 0, none⟩) 1 [opF] ((rows_new strLay w2 w2.heap.size _ _ [pcA] rfl rfl).keeps (hb3.trans (hal4.mono hb3.size))) (rows_new oprLay w3 w3.heap.size _ _ [opF] rfl rfl) (by decide) (by decide) (by decide +kernel) (by decide +kernel) (by decide) (Nat.le_trans (names_len hst1.names) (by decide)) (by rw [hst1.acts]; decide)
  have HA := Lib.hid hA
  have Hb24 := Lib.hid hb24
  clear hA hal3 hal4 hb23 hb24 hb3 hst1
  go_wp2_with fail
  refine HA.out.mono ?_
  rintro e w5 ⟨rfl, T2, hIn5, hs5⟩
  obtain ⟨l5, hl5⟩ := HP.out.add
  rw [show oA1.2.2 = 0 from congrArg (fun x => x.2.2) hl5]
  have hst2 := HP.out.st2
  have HO2 := Lib.hid (oopen_any (w0 := w) hIn5.lin.disk (Nat.le_trans (names_len hst2.names) (by decide)) (by rw [hst2.acts]; decide) HT.out hIn5.lin.below hIn5.lin.old HP.out.pre2.1 HP.out.pre2.2.1 HP.out.pre2.2.2.1 HP.out.pre2.2.2.2)
  clear hl5 hst2 hs5 hIn5 HA
  go_wp2_with fail
  refine HO2.out.mono ?_
  rintro e w6 hO
  rw [HP.out.open2] at hO
  obtain ⟨T3, hD3, hT3, hTu3, hcase⟩ := hO
  rcases hcase with ⟨h, _⟩ | ⟨ol2, ob2, lb2, hol, rfl, hIn6, hob2, hlb2⟩
  · cases h
  cases hol
  dsimp only at hIn6
  have HNx := Lib.hid (onext_any hIn6 (by decide) 0)
  have HI6 := Lib.hid hIn6
  clear hIn6 hD3 hT3 hTu3 hob2 hlb2
  dsimp only at HNx
  rw [nextA] at HNx
  go_wp2_with fail
  refine HNx.out.mono ?_
  rintro e w7 ⟨rfl, hb7⟩
  have hal8 := (Below.refl w7.heap.size w7).alloc (Nat.le_refl _) (.cells #[.int .i64 4, .int .i64 0] 61)
  have hb68 := hb7.trans (hal8.mono hb7.size)
  have hV := VarAt.new w7 #[.int .i64 4, .int .i64 0] 61
  have HV : Hid (∀ W, Below (w7.alloc (.cells #[.int .i64 4, .int .i64 0] 61)).heap.size (w7.alloc (.cells #[.int .i64 4, .int .i64 0] 61)) W → W.cell? ⟨w7.heap.size, 0, none⟩ = some (.int .i64 4) ∧ W.cell? ⟨w7.heap.size, 1, none⟩ = some (.int .i64 0)) := Lib.hid fun W hW => by
    have hz := hV.keeps hW hV.1
    exact ⟨hz.2.2 0 _ rfl, hz.2.2 1 _ rfl⟩
  have HOp := Lib.hid (oops_any (HI6.out.keeps hb68) (by decide))
  dsimp only at HOp
  have HPc := Lib.hid fun W (hW : Below w6.heap.size w6 W) => opieces_any (HI6.out.keeps hW) (by decide)
  dsimp only at HPc
  have Hb68 := Lib.hid hb68
  have Hb06 := Lib.hid HI6.out.lin.below
  clear hV hal8 hb68 hb7
  go_wp2_with fail
  refine HOp.out.mono ?_
  rintro e w9 ⟨v9, rfl, hown9, hb9⟩
  obtain ⟨a9, c9, rfl, hr9, _⟩ := hown9.read
  have Hr9 := Lib.hid hr9
  have Hb9 := Lib.hid hb9
  clear hr9 hb9 hown9 HOp
  go_wp2_with fail
  refine (ofirst_any _).mono ?_
  rintro e w10 ⟨rfl, hb10⟩
  have hal11 := (Below.refl w10.heap.size w10).alloc (Nat.le_refl _) (.cells #[.int .i64 3, .int .i64 0, .int .i64 1, .int .i64 1, .int .i64 3, .int .i64 0, .bool true, .int .i64 0, .int .i64 0, .string ⟨#[97]⟩, .string ⟨#[]⟩] 66)
  have hb911 := hb10.trans (hal11.mono hb10.size)
  have hS := oprs_any a9 (some ⟨w10.heap.size, 0, none⟩) c9 1 [opF] [opF] _ (by decide) (Hr9.out.keeps hb911) (rows_new oprLay w10 w10.heap.size _ _ [opF] rfl rfl)
  rw [decide_eq_true rfl] at hS
  have HS := Lib.hid hS
  have Hb811 := Lib.hid (Hb9.out.trans (hb911.mono Hb9.out.size))
  clear hS hb911 hal11 hb10
  go_wp2_with fail
  refine HS.out.mono ?_
  rintro e w12 ⟨rfl, n12, hw12⟩
  have Hb812 := Lib.hid (show Below (w7.alloc (.cells #[.int .i64 4, .int .i64 0] 61)).heap.size (w7.alloc (.cells #[.int .i64 4, .int .i64 0] 61)) w12 by rw [hw12]; exact belowDrew Hb811.out n12)
  clear hw12 HS Hb811 Hb9 Hr9
  go_wp2_with fail
  refine (HPc.out w12 (Hb68.out.trans (Hb812.out.mono Hb68.out.size))).mono ?_
  rintro e w13 ⟨v13, rfl, hown13, hb13⟩
  obtain ⟨a13, c13, rfl, hr13, _⟩ := hown13.read
  have hal14 := (Below.refl w13.heap.size w13).alloc (Nat.le_refl _) (.cells #[.string ⟨#[97]⟩] 9)
  have hT := otexts_any a13 (some ⟨w13.heap.size, 0, none⟩) c13 1 [pcA] [pcA] _ (by decide) (hr13.keeps hal14) (rows_new strLay w13 w13.heap.size _ _ [pcA] rfl rfl)
  rw [decide_eq_true rfl] at hT
  have HTx := Lib.hid hT
  have hb1214 := hb13.trans (hal14.mono hb13.size)
  have Hb814 := Lib.hid (Hb812.out.trans (hb1214.mono Hb812.out.size))
  clear hT hb1214 hal14 hr13 hown13 hb13
  go_wp2_with fail
  refine HTx.out.mono ?_
  rintro e w15 ⟨rfl, n15, hw15⟩
  have Hb815 := Lib.hid (show Below (w7.alloc (.cells #[.int .i64 4, .int .i64 0] 61)).heap.size (w7.alloc (.cells #[.int .i64 4, .int .i64 0] 61)) w15 by rw [hw15]; exact belowDrew Hb814.out n15)
  clear hw15 HTx Hb814
  obtain ⟨v0, v1⟩ := HV.out w15 Hb815.out
  go_wp2_with fail
  go_ret
  have h1 := Hb68.out.trans (Hb815.out.mono Hb68.out.size)
  exact ⟨rfl, Hb06.out.trans (h1.mono Hb06.out.size)⟩
end Go.Proofs.YtgglheelhbfgiaaGreatDoor

namespace Go.Proofs.YtgglheelhbfgiaaGreatDoor
open Go Go.RowKit Go.Lib
set_option maxRecDepth 100000 in
set_option maxHeartbeats 3200000 in
theorem law_oplogNil (who : Int) (w : World) (_ : -9223372036854775808 ≤ who) (_ : who ≤ 9223372036854775807) (ht : TabD w) :
    Calls Tryz.prog 7 #[.int .i64 who] w fun e w' => e = .returned (.bool true) ∧ Below w.heap.size w w' := by
  have HA := Lib.hid fun W (hW : Below w.heap.size w W) => awake18_any W (ht.keeps hW)
  have HO := Lib.hid (oopen_nil w)
  clear ht
  go_enter Tryz.func7, Tryz.ntmps7
  go_wp2_with fail
  refine HO.out.mono ?_
  rintro e w1 ⟨rfl, hw1⟩
  rw [hw1]
  clear hw1
  go_wp2_with fail
  refine (onext_nil who w).mono ?_
  rintro e w2 ⟨rfl, hb2⟩
  have hal3 := (Below.refl w2.heap.size w2).alloc (Nat.le_refl _) (.cells #[.int .i64 0, .int .i64 0] 61)
  have Hb3 := Lib.hid (hb2.trans (hal3.mono hb2.size))
  clear hal3 hb2
  go_wp2_with fail
  refine (ofirst_any _).mono ?_
  rintro e w4 ⟨rfl, hb4⟩
  have hal5 := (Below.refl w4.heap.size w4).alloc (Nat.le_refl _) (.cells #[.int .i64 3, .int .i64 0, .int .i64 1, .int .i64 1, .int .i64 3, .int .i64 0, .bool true, .int .i64 0, .int .i64 0, .string ⟨#[97]⟩, .string ⟨#[]⟩] 66)
  have Hb5 := Lib.hid (Hb3.out.trans ((hb4.trans (hal5.mono hb4.size)).mono Hb3.out.size))
  have HAd := Lib.hid fun v u => oadd_nil v u (w4.alloc (.cells #[.int .i64 3, .int .i64 0, .int .i64 1, .int .i64 1, .int .i64 3, .int .i64 0, .bool true, .int .i64 0, .int .i64 0, .string ⟨#[97]⟩, .string ⟨#[]⟩] 66))
  clear hb4 hal5 Hb3
  go_wp2_with fail
  refine (HAd.out _ _).mono ?_
  rintro e w6 ⟨rfl, hw6⟩
  rw [← hw6] at Hb5
  clear hw6 HAd
  go_wp2_with fail
  refine (oops_nil _).mono ?_
  rintro e w7 ⟨rfl, hw7⟩
  rw [hw7]
  clear hw7
  go_wp2_with fail
  refine (opieces_nil _).mono ?_
  rintro e w7 ⟨rfl, hw7⟩
  rw [hw7]
  clear hw7
  go_wp2_with fail
  refine (odead_nil _).mono ?_
  rintro e w7 ⟨rfl, hw7⟩
  rw [hw7]
  clear hw7
  go_wp2_with fail
  refine (HA.out _ Hb5.out).mono ?_
  rintro e w8 ⟨rfl, hb8⟩
  go_wp2_with fail
  go_ret
  exact ⟨rfl, Hb5.out.trans (hb8.mono Hb5.out.size)⟩
end Go.Proofs.YtgglheelhbfgiaaGreatDoor

namespace Go.Proofs.YtgglheelhbfgiaaGreatDoor
open Go Go.RowKit Go.ChangeShapes Go.WideShapes Go.ChangeAt Go.Deep
section
variable {H : Type} {enc : TypeId × Value → H} {P : Program} {w : World} {base : Nat} {spare : Nat → Bool} {held : Bool}
/-- A leaf's places are the whole's. -/
theorem leaf_in : ∀ (d : Nat) (t : TypeId) (fuel : Nat) (cs : List Value) (x : DataW H × List MemPlace), cs.length = P.cellsOf t → DataW.trod enc P w base spare held fuel t cs = some x →
    ∀ q ∈ leaves P d t, ∃ n y, DataW.trod enc P w base spare held n q.2 ((cs.drop q.1).take 1) = some y ∧ ∀ z ∈ y.2, z ∈ x.2 := by
  intro d
  induction d with
  | zero => intro t fuel cs x _ _ q hq; simp [leaves] at hq
  | succ d ih =>
    intro t fuel cs x hlen h q hq
    unfold leaves at hq
    split at hq
    · rename_i fs hfs
      obtain ⟨ys, n, _, hy, hl, hyl, hf⟩ := DataW.trod_struct hfs h
      simp only [List.mem_flatMap, List.mem_map, List.mem_filter, decide_eq_true_eq] at hq
      obtain ⟨f, hfm, q', ⟨hq', hlt, hfit⟩, rfl⟩ := hq
      obtain ⟨i, hi⟩ := List.getElem?_of_mem hfm
      have hi' : fs[i]? = some f := by simpa using hi
      have hil : i < ys.length := by rw [hyl]; exact (Array.getElem?_eq_some_iff.1 hi').1
      have h1 := hf i f hi'
      rw [List.getElem?_eq_getElem hil] at h1
      obtain ⟨n', y, hy', hin⟩ := ih f.type n _ _ (by rw [List.length_take, List.length_drop]; omega) h1 q' hq'
      refine ⟨n', y, ?_, fun z hz => ?_⟩
      · rw [List.drop_take, List.take_take, List.drop_drop, Nat.min_eq_left (by omega)] at hy'
        exact hy'
      · rw [hy]
        exact List.mem_flatMap.2 ⟨_, List.getElem_mem hil, hin z hz⟩
    · split at hq
      · rename_i h1
        simp only [List.mem_singleton] at hq
        subst hq
        refine ⟨fuel, x, ?_, fun z hz => hz⟩
        rw [h1] at hlen
        rw [List.drop_zero, List.take_of_length_le (by omega)]
        exact h
      · simp at hq
/-- Structs that came in, of slices and strings: what each leaf reads as, and what is known of it, is the caller's to say (dec). -/
theorem arg_leavesQ {α : Type} {L : Lay α} {Q : α → Prop} {W : World} {ts : List TypeId} {ds : List (DataW H)} {j : Nat} {t e : TypeId} {lv : List (Nat × TypeId)} {v : Value} {d : DataW H} {p : List MemPlace} (hL : 0 < L.sz)
    (ht : P.underlying t = some (.slice e)) (hlv : leaves P 4 e = lv) (hC : P.cellsOf e = L.sz)
    (dec : ∀ g : Nat → Value, (∀ q ∈ lv, ∃ n x, DataW.trod enc P W 0 (fun _ => true) true n q.2 [g q.1] = some x ∧ ∀ z ∈ x.2, z.block < W.heap.size) → ∃ x, Q x ∧ ∀ f v, (L.cells x)[f]? = some v → g f = v)
    (hv : Value.okWide P W .any base t v) (h : DataW.Trod enc P W 0 (fun _ => true) true t v d p) (hlt : ∀ x ∈ p, x.block < W.heap.size) (hsz : (DataW.weightsEach P ts ds).all (· ≤ reachBytes) = true) (h1 : ts[j]? = some t) (h2 : ds[j]? = some d) (hin : ∀ q ∈ lv, q.1 < L.sz) :
    ∃ (a : Option Addr) (cap : Nat) (xs : List α), v = .slice a xs.length cap ∧ RowsAt L W a xs ∧ (∀ x ∈ xs, Q x) ∧ xs.length ≤ cap ∧ xs.length * P.bytesOf e ≤ 140737488351232 ∧ (a = none → cap = 0) := by
  obtain ⟨a0, len, cap, rfl⟩ := okWide_slice ht hv
  obtain ⟨fuel, hf⟩ := h
  rcases open_slice ht hf with ⟨hcs, hx⟩ | ⟨a, len', cap', m, n, D, Pl, hcs, _, hl, hm, hmm, hx, hi⟩
  · have hcs' : Value.slice a0 len cap = .slice none 0 0 := by simpa [Value.cells] using hcs
    cases hcs'
    exact ⟨none, 0, [], rfl, RowsAt.nil _ _ _, fun x hx => (by cases hx), Nat.le_refl _, by simp, fun _ => rfl⟩
  · have hcs' : Value.slice a0 len cap = .slice (some a) len' cap' := by simpa [Value.cells] using hcs
    cases hcs'
    simp only [if_true] at hmm
    obtain rfl := hmm.symm
    obtain ⟨rfl, hp⟩ := Prod.mk.inj hx
    have hs := sized_slice hsz h1 h2 ht
    simp only [List.length_map, List.length_range, reachBytes] at hs
    rw [hC] at hp
    obtain ⟨xs, hxl, hxs⟩ := list_of_choice (α := α) len (fun i x => Q x ∧ ∀ f v, (L.cells x)[f]? = some v → W.cell? (a.add (i * L.sz + f)) = some v) (by
      intro i hil
      obtain ⟨cs', hc, htr⟩ := hi i (by omega)
      rw [hC] at hc
      obtain ⟨_, hcl, hat⟩ := World.cells?_some hc
      obtain ⟨x, hQ, hx⟩ := dec (fun k => cs'.getD k default) (by
        intro q hq
        obtain ⟨n', y, hy, hz⟩ := leaf_in 4 e n cs' _ (by rw [hcl, hC]) htr q (by rw [hlv]; exact hq)
        have hq1 := hin q hq
        refine ⟨n', y, ?_, fun z h => hlt z (by
          rw [hp]
          exact List.mem_append_right _ (List.mem_flatMap.2 ⟨i, List.mem_range.2 (by omega), hz z h⟩))⟩
        have e1 : (cs'.drop q.1).take 1 = [cs'.getD q.1 default] := by
          rw [List.drop_eq_getElem_cons (by omega)]
          rw [List.getD_eq_getElem?_getD, List.getElem?_eq_getElem (show q.1 < cs'.length by omega)]
          rfl
        rw [← e1]
        exact hy)
      refine ⟨x, hQ, fun f v hv => ?_⟩
      have hfl : f < L.sz := by rw [← L.len x]; exact (List.getElem?_eq_some_iff.1 hv).1
      have hcell := hat f hfl
      have := hx f v hv
      rw [List.getD_eq_getElem?_getD, List.getElem?_eq_getElem (by omega), Option.getD_some] at this
      rw [← Go.Deep.add_add, hcell, List.getElem?_eq_getElem (by omega), this])
    refine ⟨some a, _, xs, by rw [hxl], ?_, fun x hx => ?_, by omega, ?_, fun h => by cases h⟩
    · intro k x hk
      have hkl := (List.getElem?_eq_some_iff.1 hk).1
      have h0 := (hxs k x hk).2
      obtain ⟨x0, hx0⟩ : ∃ x0, xs[0]? = some x0 := ⟨_, List.getElem?_eq_getElem (by omega)⟩
      have hc0 : (L.cells x0)[0]? = some ((L.cells x0)[0]'(by rw [L.len]; omega)) := List.getElem?_eq_getElem (by rw [L.len]; omega)
      have hc0' := (hxs 0 x0 hx0).2 0 _ hc0
      have hspot : a.spot = none := by
        cases hsp : a.spot with
        | none => rfl
        | some q =>
          exfalso
          have hq : (a.add (0 * L.sz + 0)).spot = some q := by unfold Addr.add; rw [if_pos (by omega)]; exact hsp
          generalize a.add (0 * L.sz + 0) = z at hc0' hq
          unfold World.cell? at hc0'
          rw [hq] at hc0'
          revert hc0'
          split <;> simp
      obtain ⟨b, off, sp⟩ := a
      simp only at hspot
      subst hspot
      refine ⟨b, off, rfl, ?_, fun f v hv => ?_⟩
      · have hin : MemPlace.cell b off ∈ p := by
          rw [hp]
          refine List.mem_append_left _ ?_
          simp only [MemPlace.row, List.mem_map, List.mem_range]
          refine ⟨0, ?_, by simp⟩
          exact Nat.mul_pos (by omega) hL
        exact hlt _ hin
      · have := h0 f v hv
        have e : ((⟨b, off, none⟩ : Addr).add (k * L.sz + f)) = ⟨b, off + k * L.sz + f, none⟩ := by
          unfold Addr.add
          split <;> simp_all <;> omega
        rwa [e] at this
    · obtain ⟨i, hi'⟩ := List.getElem?_of_mem hx
      exact (hxs i x hi').1
    · rw [hxl]
      exact Nat.le_trans (Nat.mul_le_mul_right _ (Nat.le_add_right _ _)) hs
end
end Go.Proofs.YtgglheelhbfgiaaGreatDoor

namespace Go.Proofs.YtgglheelhbfgiaaGreatDoor
open Go Go.RowKit Go.ChangeShapes Go.WideShapes Go.ChangeAt Go.Deep
section
variable {H : Type} {enc : TypeId × Value → H} {P : Program}
/-- A struct that came in by value: what each leaf reads as is the caller's to say (dec). -/
theorem arg_agg {α : Type} {L : Lay α} {W : World} {base : Nat} {t : TypeId} {fs : Array Field} {lv : List (Nat × TypeId)} {v : Value} {d : DataW H} {p : List MemPlace}
    (ht : P.underlying t = some (.struct fs)) (hlv : leaves P 4 t = lv) (hC : P.cellsOf t = L.sz)
    (dec : ∀ g : Nat → Value, (∀ q ∈ lv, ∃ n x, DataW.trod enc P W 0 (fun _ => true) true n q.2 [g q.1] = some x) → ∃ x, ∀ f v, (L.cells x)[f]? = some v → g f = v)
    (hv : Value.okWide P W .any base t v) (h : DataW.Trod enc P W 0 (fun _ => true) true t v d p) (hin : ∀ q ∈ lv, q.1 < L.sz) : ∃ x, v = .agg (L.cells x).toArray := by
  obtain ⟨cs, rfl, hcs⟩ := okWide_struct ht hv
  obtain ⟨fuel, hf⟩ := h
  have hlen : cs.toList.length = P.cellsOf t := by simpa using hcs
  obtain ⟨x, hx⟩ := dec (fun k => cs.toList.getD k default) (by
    intro q hq
    obtain ⟨n', y, hy⟩ := trod_leaf 4 t fuel cs.toList _ hlen hf q (by rw [hlv]; exact hq)
    have hq1 := hin q hq
    refine ⟨n', y, ?_⟩
    have e1 : (cs.toList.drop q.1).take 1 = [cs.toList.getD q.1 default] := by
      rw [List.drop_eq_getElem_cons (by omega)]
      rw [List.getD_eq_getElem?_getD, List.getElem?_eq_getElem (show q.1 < cs.toList.length by omega)]
      rfl
    rw [← e1]
    exact hy)
  refine ⟨x, ?_⟩
  congr 1
  apply Array.toList_inj.1
  apply List.ext_getElem?
  intro f
  by_cases hlt : f < L.sz
  · have h1 : (L.cells x)[f]? = some ((L.cells x)[f]'(by rw [L.len]; exact hlt)) := List.getElem?_eq_getElem _
    have h2 := hx f _ h1
    rw [List.getD_eq_getElem?_getD, List.getElem?_eq_getElem (by omega), Option.getD_some] at h2
    rw [List.getElem?_eq_getElem (by omega), h2]
    exact h1.symm
  · rw [List.getElem?_eq_none (by omega)]
    exact (List.getElem?_eq_none (by simp [L.len]; omega)).symm
theorem dec_op {W : World} {i b s : TypeId} (hus : P.underlying s = some .string) (hui : P.underlying i = some (.int .i64)) (hub : P.underlying b = some .bool)
    (g : Nat → Value) (hg : ∀ q ∈ [(0, i), (1, i), (2, i), (3, i), (4, i), (5, i), (6, b), (7, i), (8, i), (9, s), (10, s)], ∃ n x, DataW.trod enc P W 0 (fun _ => true) true n q.2 [g q.1] = some x) :
    ∃ x, ∀ f v, (oprLay.cells x)[f]? = some v → g f = v := by
  obtain ⟨n0, x0, h0⟩ := hg (0, i) (by simp)
  obtain ⟨n1, x1, h1⟩ := hg (1, i) (by simp)
  obtain ⟨n2, x2, h2⟩ := hg (2, i) (by simp)
  obtain ⟨n3, x3, h3⟩ := hg (3, i) (by simp)
  obtain ⟨n4, x4, h4⟩ := hg (4, i) (by simp)
  obtain ⟨n5, x5, h5⟩ := hg (5, i) (by simp)
  obtain ⟨n6, x6, h6⟩ := hg (6, b) (by simp)
  obtain ⟨n7, x7, h7⟩ := hg (7, i) (by simp)
  obtain ⟨n8, x8, h8⟩ := hg (8, i) (by simp)
  obtain ⟨n9, x9, h9⟩ := hg (9, s) (by simp)
  obtain ⟨n10, x10, h10⟩ := hg (10, s) (by simp)
  obtain ⟨v0, e0, _⟩ := DataW.trod_int hui h0
  obtain ⟨v1, e1, _⟩ := DataW.trod_int hui h1
  obtain ⟨v2, e2, _⟩ := DataW.trod_int hui h2
  obtain ⟨v3, e3, _⟩ := DataW.trod_int hui h3
  obtain ⟨v4, e4, _⟩ := DataW.trod_int hui h4
  obtain ⟨v5, e5, _⟩ := DataW.trod_int hui h5
  obtain ⟨v6, e6, _⟩ := DataW.trod_bool hub h6
  obtain ⟨v7, e7, _⟩ := DataW.trod_int hui h7
  obtain ⟨v8, e8, _⟩ := DataW.trod_int hui h8
  obtain ⟨v9, e9, _⟩ := DataW.trod_string hus h9
  obtain ⟨v10, e10, _⟩ := DataW.trod_string hus h10
  refine ⟨⟨v0, v1, v2, v3, v4, v5, v6, v7, v8, v9, v10⟩, fun f v hv => ?_⟩
  simp only [List.cons.injEq, and_true] at e0 e1 e2 e3 e4 e5 e6 e7 e8 e9 e10
  match f, hv with
  | 0, hv => rw [e0]; exact Option.some.inj hv
  | 1, hv => rw [e1]; exact Option.some.inj hv
  | 2, hv => rw [e2]; exact Option.some.inj hv
  | 3, hv => rw [e3]; exact Option.some.inj hv
  | 4, hv => rw [e4]; exact Option.some.inj hv
  | 5, hv => rw [e5]; exact Option.some.inj hv
  | 6, hv => rw [e6]; exact Option.some.inj hv
  | 7, hv => rw [e7]; exact Option.some.inj hv
  | 8, hv => rw [e8]; exact Option.some.inj hv
  | 9, hv => rw [e9]; exact Option.some.inj hv
  | 10, hv => rw [e10]; exact Option.some.inj hv
theorem arg_op {W : World} {base : Nat} {t i b s : TypeId} {fs : Array Field} {v : Value} {d : DataW H} {p : List MemPlace}
    (ht : P.underlying t = some (.struct fs)) (hlv : leaves P 4 t = [(0, i), (1, i), (2, i), (3, i), (4, i), (5, i), (6, b), (7, i), (8, i), (9, s), (10, s)]) (hC : P.cellsOf t = 11)
    (hus : P.underlying s = some .string) (hui : P.underlying i = some (.int .i64)) (hub : P.underlying b = some .bool)
    (hv : Value.okWide P W .any base t v) (h : DataW.Trod enc P W 0 (fun _ => true) true t v d p) : ∃ x : Opr, v = .agg (Opr.cells x).toArray :=
  arg_agg (L := oprLay) ht hlv hC (fun g hg => dec_op hus hui hub g hg) hv h (by simp [oprLay])
theorem arg_ops {W : World} {base : Nat} {ts : List TypeId} {ds : List (DataW H)} {j : Nat} {t e i b s : TypeId} {v : Value} {d : DataW H} {p : List MemPlace}
    (ht : P.underlying t = some (.slice e)) (hlv : leaves P 4 e = [(0, i), (1, i), (2, i), (3, i), (4, i), (5, i), (6, b), (7, i), (8, i), (9, s), (10, s)]) (hC : P.cellsOf e = 11)
    (hus : P.underlying s = some .string) (hui : P.underlying i = some (.int .i64)) (hub : P.underlying b = some .bool)
    (hv : Value.okWide P W .any base t v) (h : DataW.Trod enc P W 0 (fun _ => true) true t v d p) (hlt : ∀ x ∈ p, x.block < W.heap.size) (hsz : (DataW.weightsEach P ts ds).all (· ≤ reachBytes) = true) (h1 : ts[j]? = some t) (h2 : ds[j]? = some d) :
    ∃ (a : Option Addr) (cap : Nat) (xs : List Opr), v = .slice a xs.length cap ∧ RowsAt oprLay W a xs ∧ xs.length ≤ cap ∧ xs.length * P.bytesOf e ≤ 140737488351232 ∧ (a = none → cap = 0) :=
  arg_leaves (L := oprLay) (by decide) ht hlv hC (fun g hg => dec_op hus hui hub g hg) hv h hlt hsz h1 h2 (by simp [oprLay])
/-- Operations whose device's number is one of 64 bits. -/
def OprB := { x : Opr // -9223372036854775808 ≤ x.who ∧ x.who ≤ 9223372036854775807 }
def oprbLay : Lay OprB := { sz := 11, cells := fun x => Opr.cells x.1, len := fun _ => rfl, one := fun x v hv => oprLay.one x.1 v hv }
theorem arg_ops2 {W : World} {base : Nat} {ts : List TypeId} {ds : List (DataW H)} {j : Nat} {t e i b s : TypeId} {v : Value} {d : DataW H} {p : List MemPlace}
    (ht : P.underlying t = some (.slice e)) (hlv : leaves P 4 e = [(0, i), (1, i), (2, i), (3, i), (4, i), (5, i), (6, b), (7, i), (8, i), (9, s), (10, s)]) (hC : P.cellsOf e = 11) (hby : P.bytesOf e = 104)
    (hus : P.underlying s = some .string) (hui : P.underlying i = some (.int .i64)) (hub : P.underlying b = some .bool)
    (hv : Value.okWide P W .any base t v) (h : DataW.Trod enc P W 0 (fun _ => true) true t v d p) (hlt : ∀ x ∈ p, x.block < W.heap.size) (hsz : (DataW.weightsEach P ts ds).all (· ≤ reachBytes) = true) (h1 : ts[j]? = some t) (h2 : ds[j]? = some d) :
    ∃ (a : Option Addr) (cap : Nat) (xs : List Opr), v = .slice a xs.length cap ∧ RowsAt oprLay W a xs ∧ xs.length ≤ cap ∧ xs.length ≤ 140737488351232 ∧ (a = none → cap = 0) ∧ ∀ x ∈ xs, -9223372036854775808 ≤ x.who := by
  obtain ⟨a, cap, xs, rfl, hr, hc, hl, hn⟩ := arg_leaves (L := oprbLay) (by decide) ht hlv hC (fun g hg => by
    obtain ⟨x, hx⟩ := dec_op hus hui hub g hg
    obtain ⟨n1, y1, h1⟩ := hg (1, i) (by simp)
    obtain ⟨v1, e1, _, hwf⟩ := DataW.trod_int hui h1
    simp only [List.cons.injEq, and_true] at e1
    have h3 := hx 1 (.int .i64 x.who) rfl
    rw [e1] at h3
    cases h3
    have hb : -9223372036854775808 ≤ x.who ∧ x.who ≤ 9223372036854775807 := by
      simp [Lit.wf, IntKind.min, IntKind.max, IntKind.signed, IntKind.bits] at hwf
      omega
    exact ⟨⟨x, hb⟩, hx⟩) hv h hlt hsz h1 h2 (by simp [oprbLay])
  refine ⟨a, cap, xs.map (·.1), by rw [List.length_map], ?_, by rw [List.length_map]; exact hc, by rw [List.length_map]; rw [hby] at hl; omega, hn, ?_⟩
  · intro k x hk
    rw [List.getElem?_map, Option.map_eq_some_iff] at hk
    obtain ⟨y, hy, rfl⟩ := hk
    exact hr k y hy
  · intro x hx
    obtain ⟨y, _, rfl⟩ := List.mem_map.1 hx
    exact y.2.1
end
end Go.Proofs.YtgglheelhbfgiaaGreatDoor

