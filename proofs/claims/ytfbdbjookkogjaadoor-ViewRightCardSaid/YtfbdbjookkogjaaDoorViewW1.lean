/-
  Keys that are stamps; the nodes of a parent; what nodes are called; which path is ahead.
-/
import Derived.Test.YtfbdbjookkogjaaDoorViewPure
import Derived.Test.YtfbdbjookkogjaaDoorKeys
import Derived.Test.YtfbdbjookkogjaaDoorPairs
import Derived.Test.YtfbdbjookkogjaaDoorOpsW1
import Derived.Test.YtfbdbjookkogjaaDoorNamesG
import Derived.Test.YtfbdbjookkogjaaDoorAppends
import Derived.Test.YtfbdbjookkogjaaDoorPut
import Derived.Test.YtfbdbjookkogjaaDoorStabS
import Derived.Deep.AppendLies
import Derived.Laws.Cover1
namespace Go.Proofs.YtfbdbjookkogjaaDoor
open Go Go.MapKept Go.RowKit Go.Lib

section
variable {P : Program}
theorem keyOf_st {k e : TypeId} {f0 f1 : Field} (hrow : k < P.types.size) (hu : P.underlying k = some (.struct #[f0, f1])) (hn : (f0.name != "_") = true ∧ (f1.name != "_") = true) (h0 : f0.type = e ∧ f0.offset = 0) (h1 : f1.type = e ∧ f1.offset = 1) (he : P.underlying e = some (.int .i64)) (hc : P.cellsOf e = 1) (hk : P.cellsOf k = 2) (hty : P.keyType k = true) (p : Pr) : ∃ l, keyOf P k p.val = some l := by
  obtain ⟨⟨a, b⟩, g1, g2⟩ := p
  have e1 := keyLits_i64 he (Nat.lt_of_le_of_lt (Nat.zero_le _) hrow) g1
  have e2 := keyLits_i64 he (Nat.lt_of_le_of_lt (Nat.zero_le _) hrow) g2
  simp only at e1 e2
  simp [keyOf, hu, hty, Value.formed, Pr.val, Value.cells, Program.keyLits, hc, hk, e1, e2, hn, h0, h1]
theorem stKeys (hl : laidOutB P = true) (hsmall : P.types.size + 2 ≤ 10000) {k e : TypeId} {f0 f1 : Field} (hrow : k < P.types.size) (hu : P.underlying k = some (.struct #[f0, f1])) (hn : (f0.name != "_") = true ∧ (f1.name != "_") = true) (h0 : f0.type = e ∧ f0.offset = 0) (h1 : f1.type = e ∧ f1.offset = 1) (he : P.underlying e = some (.int .i64)) (hc : P.cellsOf e = 1) (hk : P.cellsOf k = 2) (hty : P.keyType k = true) : KeyOps P k Pr.val :=
  keyOps_of_law (deep_law_gate hl hsmall hrow hty (by rw [hu])) Pr.one (keyOf_st hrow hu hn h0 h1 he hc hk hty)
end
theorem stpK : KeyOps Tryd.prog 32 Pr.val := stKeys (by kernel_rfl) (of_decide_eq_true (by kernel_rfl)) (of_decide_eq_true (by kernel_rfl)) Tryd.underlying32 (by decide) ⟨rfl, rfl⟩ ⟨rfl, rfl⟩ Tryd.underlying3 (by kernel_rfl) (by kernel_rfl) (by kernel_rfl)
theorem ndInfo : (Tryd.prog.info? 46).map (fun i => (i.zero, i.size, i.bytes)) = some (some (.agg #[.int .i64 0, .int .i64 0, .bool false, .int .i64 0, .int .i64 0, .string ⟨#[]⟩, .string ⟨#[]⟩]), 7, 72) := by kernel_rfl
theorem stp_eq (a b c d : Int) : decide ((⟨a, b⟩ : Stp) = ⟨c, d⟩) = decide (a = c ∧ b = d) := decide_eq_decide.2 ⟨fun h => by cases h; exact ⟨rfl, rfl⟩, fun h => Stp.ext' h.1 h.2⟩
theorem eqlSt (a b c d : Int) (w : World) : (binOp .eql 32 (.agg #[.int .i64 a, .int .i64 b]) (.agg #[.int .i64 c, .int .i64 d])).run Tryd.prog w = .ok (.bool (decide (a = c ∧ b = d))) w := by
  rw [← stp_eq]
  exact eqlStp ⟨a, b⟩ ⟨c, d⟩ w
theorem child_step {l : List Nd} {c q : Int} {k : Nat} {x : Nd} (hx : l[k]? = some x) : childF (l.take (k + 1)) c q = if decide (x.pc = c ∧ x.pw = q) then childF (l.take k) c q ++ [x] else childF (l.take k) c q := by
  unfold childF
  rw [List.take_add_one, hx, Option.toList_some, List.filter_append, List.filter_cons, List.filter_nil]
  split
  · rfl
  · rw [List.append_nil]
theorem child_len (l : List Nd) (c q : Int) (k : Nat) : (childF (l.take k) c q).length ≤ l.length := Nat.le_trans (List.length_filter_le _ _) (by rw [List.length_take]; omega)
set_option maxRecDepth 100000 in
set_option maxHeartbeats 1600000 in
theorem children_any (a : Option Addr) (cap : Nat) (l : List Nd) (c q : Int) (w : World) (hl : l.length ≤ 1000) (ha : RowsAt ndLay w a l) :
    Calls Tryd.prog 21 #[.slice a l.length cap, .agg #[.int .i64 c, .int .i64 q]] w fun e w' => ∃ v, e = .returned v ∧ OwnRows ndLay w' w.heap.size 46 v (childF l c q) ∧ Below w.heap.size w w' := by
  obtain ⟨i0, hi, hz0, hz1, hz2⟩ := info_parts ndInfo
  have Hi := Lib.hid hi
  have Hz0 := Lib.hid hz0
  have Hz1 := Lib.hid hz1
  have Hz2 := Lib.hid hz2
  have hal := (Below.refl w.heap.size w).alloc (Nat.le_refl _) (.cells #[.int .i64 c, .int .i64 q] 32)
  have HA := Lib.hid (ha.keeps hal)
  have hV := VarAt.new w #[.int .i64 c, .int .i64 q] 32
  obtain ⟨sb, hsb⟩ : ∃ sb, sb = w.heap.size := ⟨_, rfl⟩
  rw [← hsb] at hV
  have hsw : w.heap.size ≤ sb := by rw [hsb]; exact Nat.le_refl _
  have Hsb := Lib.hid hsb
  clear hi hz0 hz1 hz2 ha hsb
  go_enter Tryd.func21, Tryd.ntmps21
  go_wp2_with fail
  rw [← Hsb.out]
  generalize w.alloc (.cells #[.int .i64 c, .int .i64 q] 32) = W1 at *
  go_loopw [5, 10] (fun va i wr => ∃ k : Nat, k ≤ l.length ∧ i = .int .i64 k ∧ OwnRows ndLay wr W1.heap.size 46 va (childF (l.take k) c q) ∧ Below W1.heap.size W1 wr) (fun _ i _ => l.length - (RowKit.intOf i).toNat)
  case atStart => exact ⟨0, Nat.zero_le _, rfl, OwnRows.nil _ _ _ _, Below.refl _ _⟩
  case round =>
    obtain ⟨k, hk, rfl, hoa, hb⟩ := hrel
    by_cases hlt : k < l.length
    · obtain ⟨x, hx⟩ := at_some hlt
      obtain ⟨b, off, hae, hbl, c0, c1, c2, c3, c4, c5, c6⟩ := nd_at (HA.out.keeps hb) hx
      subst hae
      have Hst := Lib.hid (child_step (c := c) (q := q) hx)
      have hsl := child_len l c q k
      have hlti : (k : Int) < (l.length : Int) := by omega
      have hlt0 : (0 : Int) ≤ (k : Int) := by omega
      obtain ⟨xc, xw, xd, xp, xq, xn, xm⟩ := x
      dsimp only at c0 c1 c2 c3 c4 c5 c6 Hst
      clear hx
      have s0 := (hb.cell (p := ⟨sb, 0, none⟩) hV.1).trans (hV.2.2 0 _ rfl)
      have s1 := (hb.cell (p := ⟨sb, 1, none⟩) hV.1).trans (hV.2.2 1 _ rfl)
      generalize childF (l.take k) c q = acts at *
      have hoa2 := hoa.alloc (.cells #[.int .i64 xc, .int .i64 xw, .bool xd, .int .i64 xp, .int .i64 xq, .string xn, .string xm] 46)
      have hb2 := hb.alloc hb.size (.cells #[.int .i64 xc, .int .i64 xw, .bool xd, .int .i64 xp, .int .i64 xq, .string xn, .string xm] 46)
      have heq := eqlSt xp xq c q
      have hA1 := (Below.refl wr.heap.size wr).alloc (Nat.le_refl _) (.cells #[.int .i64 xc, .int .i64 xw, .bool xd, .int .i64 xp, .int .i64 xq, .string xn, .string xm] 46)
      have hsbl : sb < wr.heap.size := Nat.lt_of_lt_of_le hV.1 hb.size
      have r0 := (hA1.cell (p := ⟨sb, 0, none⟩) hsbl).trans s0
      have r1 := (hA1.cell (p := ⟨sb, 1, none⟩) hsbl).trans s1
      clear hA1 s0 s1
      clear hoa
      cases hd : decide (xp = c ∧ xq = q) with
      | true =>
        rw [hd] at heq Hst
        clear hd
        go_wp2_with (at_builtin; refine wpList_append_rows _ rfl _ _ 22 rfl ndLay W1.heap.size 46 i0 (.agg #[.int .i64 0, .int .i64 0, .bool false, .int .i64 0, .int .i64 0, .string ⟨#[]⟩, .string ⟨#[]⟩]) 72 Tryd.underlying22 Hi.out Hz0.out Hz1.out Hz2.out rfl (by decide) _ _ rfl (hoa2.alloc _) ⟨wr.heap.size + 1, 0, none⟩ 1 ⟨xc, xw, xd, xp, xq, xn, xm⟩ rfl (cells_new_at (wr.alloc (.cells #[.int .i64 xc, .int .i64 xw, .bool xd, .int .i64 xp, .int .i64 xq, .string xn, .string xm] 46)) (wr.heap.size + 1) #[.int .i64 xc, .int .i64 xw, .bool xd, .int .i64 xp, .int .i64 xq, .string xn, .string xm] 46 (by simp)) (by unfold maxLen; omega) (by omega) (by have := hb.size; simp; omega) ?_)
        intro va w4 hoa4 hg4 _
        have hb4 := (hb2.alloc hb2.size (.cells #[.int .i64 xc, .int .i64 xw, .bool xd, .int .i64 xp, .int .i64 xq, .string xn, .string xm] 46)).grown hg4 (by have := hb.size; simp; omega) (fun j ej => (hoa2.lt ej).1)
        clear hg4 hoa2 hb2
        go_wp2_with fail
        go_roundw
        case rel =>
          refine ⟨k + 1, by omega, by go_num, ?_, hb4⟩
          rw [Hst.out]
          exact hoa4
        case measure => simp [RowKit.intOf]; omega
      | false =>
        rw [hd] at heq Hst
        clear hd
        go_wp2_with fail
        go_roundw
        case rel =>
          refine ⟨k + 1, by omega, by go_num, ?_, hb2⟩
          rw [Hst.out]
          exact hoa2
        case measure => simp [RowKit.intOf]; omega
    · obtain rfl : k = l.length := by omega
      rw [List.take_length] at hoa
      go_wp2_with fail
      go_ret
      have hz : w.heap.size ≤ W1.heap.size := hal.size
      exact ⟨_, rfl, hoa.lower hz, hal.trans (hb.mono hz)⟩
end Go.Proofs.YtfbdbjookkogjaaDoor
