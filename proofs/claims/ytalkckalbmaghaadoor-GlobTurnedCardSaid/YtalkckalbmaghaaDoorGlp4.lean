/-
  strings.Lines: what its iterator gives.
-/
import Derived.Test.YtalkckalbmaghaaDoorGlp3
import Derived.Test.YtalkckalbmaghaaDoorRangeBox
import Derived.RangeFuncBox
import Derived.RangeFuncLeaves
import Derived.RangeFuncCalls
import Derived.Shelf.Abstract
import Derived.WalkKit
import Derived.OwnWalkIn
import Derived.TacticsInMore
import Derived.RegionIn
import Derived.LoopNIn
import Derived.LoopIn
import Derived.Sort.AtCallIn
namespace Go.Proofs.YtalkckalbmaghaaDoor
open Go Go.RowKit Go.Lib Go.Shelf

attribute [local go_sem] Oper.semAt_some

/-- The text that the iterator has still before it. -/
def restOf (W : World) (bx : Nat) : Nat := match W.cell? ⟨bx, 0, none⟩ with
  | some (.string s) => s.size
  | _ => 0
theorem restOf_eq {W : World} {bx : Nat} {s : ByteArray} (h : W.cell? ⟨bx, 0, none⟩ = some (.string s)) : restOf W bx = s.size := by unfold restOf; rw [h]
theorem linesF_nil (f : Nat) : linesF f [] = [] := by cases f <;> simp [linesF]
theorem linesF_last {f : Nat} {l : List UInt8} (h0 : l ≠ []) (h : indexByte l 10 = -1) : linesF (f + 1) l = [l] := by unfold linesF; rw [if_neg h0, if_pos h]
theorem linesF_cut {f i : Nat} {l : List UInt8} (h0 : l ≠ []) (h : indexByte l 10 = i) : linesF (f + 1) l = l.take (i + 1) :: linesF f (l.drop (i + 1)) := by
  have e : linesF (f + 1) l = if l = [] then [] else if indexByte l 10 = -1 then [l] else l.take ((indexByte l 10).toNat + 1) :: linesF f (l.drop ((indexByte l 10).toNat + 1)) := rfl
  rw [e, if_neg h0, if_neg (by rw [h]; omega), h, Int.toNat_natCast]

theorem extract_head (r : ByteArray) (k : Nat) : (r.extract 0 k).data.toList = r.data.toList.take k := by
  rw [ByteArray.data_extract, Array.toList_extract]
  simp [List.extract_eq_take_drop]
theorem extract_tail (r : ByteArray) (k : Nat) : (r.extract k r.size).data.toList = r.data.toList.drop k := by
  rw [ByteArray.data_extract, Array.toList_extract, List.extract_eq_take_drop, List.take_of_length_le (by rw [List.length_drop, ← size_eq]; exact Nat.le_refl _)]
theorem ba_head (r : ByteArray) (k : Nat) : ba (r.data.toList.take k) = r.extract 0 k := by rw [← extract_head, ba_back]

set_option maxRecDepth 100000 in
set_option maxHeartbeats 3200000 in
theorem lines_box (n : Nat) (hn : 1 ≤ n) (s : ByteArray) (hs : s.size ≤ 100000) (bx : Nat) (w0 : World) (hc : w0.cell? ⟨bx, 0, none⟩ = some (.string s)) (hf : w0.frozen? ⟨bx, 0, none⟩ = false) :
    SeqBox Fence.wide n Tryd.prog 54 #[.pointer (some ⟨bx, 0, none⟩)] bx ((linesF (s.size + 1) s.data.toList).map ba) w0 := fun l J Jx W hW hJs hJd hY h0 => by
  have hlt0 := block_lt_of_cell hc
  have hcW := (hW.cell (p := ⟨bx, 0, none⟩) hlt0).trans hc
  have hfW := (hW.frozen (p := ⟨bx, 0, none⟩) hlt0).trans hf
  generalize hxs : (linesF (s.size + 1) s.data.toList).map ba = xs at *
  refine callsIn_of_wp Tryd.func54 rfl trivial ?_ rfl
  simp only [Tryd.ntmps54, List.size_toArray, List.length_cons, List.length_nil, Nat.reduceAdd, Nat.reduceSub, Array.replicate_succ, Array.replicate_zero, List.push_toArray, List.append_toArray, List.nil_append, List.cons_append]
  gi_wp2
  gi_loopw [3] (fun _ wr => ∃ (r : ByteArray) (pre : List ByteArray) (f : Nat), wr.cell? ⟨bx, 0, none⟩ = some (.string r) ∧ wr.frozen? ⟨bx, 0, none⟩ = false ∧ r.size < f ∧ r.size ≤ 100000 ∧ Hid (pre ++ (linesF f r.data.toList).map ba = xs) ∧ J pre wr)
    (fun _ wr => restOf wr bx)
  case atStart => exact ⟨s, [], s.size + 1, hcW, hfW, Nat.lt_succ_self _, hs, Lib.hid (by rw [List.nil_append]; exact hxs), h0⟩
  case round =>
    obtain ⟨r, pre, f, hcr, hfr, hrf, hrs, Hx, hJ⟩ := hrel
    clear hcW hfW hc hf hlt0 hxs h0 hW
    by_cases hr0 : r.size = 0
    · obtain rfl : r = ⟨#[]⟩ := ByteArray.size_eq_zero_iff.1 hr0
      have Hx2 := Lib.hid (show pre = xs by rw [← Hx.out, show (⟨#[]⟩ : ByteArray).data.toList = [] from rfl, linesF_nil]; simp)
      clear hr0
      gi_wp2
      go_end0
      exact ⟨⟨_, rfl⟩, .inl (by rw [← Hx2.out]; exact hJ)⟩
    · have hr1 : 0 < r.size := by omega
      have hne : r.data.toList ≠ [] := fun e => hr0 (by rw [size_eq, e]; rfl)
      have HI := Lib.hid fun (m : Nat) (W : World) => (callsIn_wide (n := m)).2 ((Tryd.strings_IndexByte r 10 W).mono fun _ _ h => (⟨h.1, h.2.symm⟩ : _ ∧ W = _))
      obtain ⟨f, rfl⟩ : ∃ g, f = g + 1 := ⟨f - 1, by omega⟩
      rcases ix_cases r.data.toList 10 with ⟨hi, hn10⟩ | ⟨i, hi, hil, _, _⟩
      · have Hl := Lib.hid (linesF_last (f := f) hne hi)
        rw [show ((10 : Int).toNat.toUInt8) = (10 : UInt8) from rfl, hi] at HI
        have hJ2 := hJs pre wr (.string ⟨#[]⟩) hJ
        have hc2 := World.cell?_setCell_same wr ⟨bx, 0, none⟩ (.string ⟨#[]⟩) hcr
        obtain ⟨fn, tmps, assign, body, hy, hR⟩ := hY pre r _ hJ2 (by rw [← Hx.out, Hl.out]; simp [ba_back])
        have hf2 : (wr.setCell ⟨bx, 0, none⟩ (.string ⟨#[]⟩)).frozen? ⟨bx, 0, none⟩ = false := by simpa using hfr
        gi_wp2
        refine ⟨trivial, (HI.out _ _).mono ?_⟩
        rintro e w1 ⟨rfl, rfl⟩
        gi_wp2
        refine hR.mono ?_
        rintro e W3 (⟨rfl, hJ3, hk3⟩ | ⟨rfl, hJx3⟩)
        · have hc3 := (cell_same hk3 0).trans hc2
          have hf3 := (frozen_same hk3 0).trans hf2
          gi_wp2
          go_roundw
          case rel => exact ⟨⟨#[]⟩, pre ++ [r], 1, hc3, hf3, Nat.zero_lt_one, Nat.zero_le _, Lib.hid (by rw [← Hx.out, Hl.out, show (⟨#[]⟩ : ByteArray).data.toList = [] from rfl, linesF_nil]; simp [ba_back]), hJ3⟩
          case measure => rw [restOf_eq hc3, restOf_eq hcr]; exact hr1
        · gi_wp2
          refine bodyPost_ret (results_none rfl _ _ _) rfl ?_
          exact ⟨⟨_, rfl⟩, .inr ⟨_, hJx3⟩⟩
      · have Hl := Lib.hid (linesF_cut (f := f) hne hi)
        rw [show ((10 : Int).toNat.toUInt8) = (10 : UInt8) from rfl, hi] at HI
        have hi0 : (0 : Int) ≤ (i : Int) := by omega
        have hil2 : i < r.size := by rw [size_eq]; exact hil
        gi_wp2
        refine ⟨trivial, (HI.out _ _).mono ?_⟩
        rintro e w1 ⟨rfl, rfl⟩
        have hJ2 := hJd pre _ (hJs pre wr (.string (r.extract (i + 1) r.size)) hJ)
        have hc2 : (wr.setCell ⟨bx, 0, none⟩ (.string (r.extract (i + 1) r.size))).drew.cell? ⟨bx, 0, none⟩ = some (.string (r.extract (i + 1) r.size)) := World.cell?_setCell_same wr ⟨bx, 0, none⟩ (.string (r.extract (i + 1) r.size)) hcr
        have hf2 : (wr.setCell ⟨bx, 0, none⟩ (.string (r.extract (i + 1) r.size))).drew.frozen? ⟨bx, 0, none⟩ = false := by
          show (wr.setCell ⟨bx, 0, none⟩ (.string (r.extract (i + 1) r.size))).frozen? ⟨bx, 0, none⟩ = false
          simpa using hfr
        have hmap : (linesF (f + 1) r.data.toList).map ba = r.extract 0 (i + 1) :: (linesF f (r.extract (i + 1) r.size).data.toList).map ba := by
          rw [Hl.out, List.map_cons, ba_head, extract_tail]
        have hsz2 : (r.extract (i + 1) r.size).size < r.size := by
          rw [size_eq, extract_tail, List.length_drop, ← size_eq]
          omega
        obtain ⟨fn, tmps, assign, body, hy, hR⟩ := hY pre (r.extract 0 (i + 1)) _ hJ2 (by rw [← Hx.out, hmap]; exact ⟨_, by rw [List.append_assoc]; rfl⟩)
        have Hm := Lib.hid hmap
        clear hmap
        gi_wp2
        gi_region
        gi_wp2
        refine hR.mono ?_
        rintro e W3 (⟨rfl, hJ3, hk3⟩ | ⟨rfl, hJx3⟩)
        · have hc3 := (cell_same hk3 0).trans hc2
          have hf3 := (frozen_same hk3 0).trans hf2
          gi_wp2
          go_roundw
          case rel => exact ⟨_, pre ++ [r.extract 0 (i + 1)], f, hc3, hf3, by omega, by omega, Lib.hid (by rw [← Hx.out, Hm.out, List.append_assoc]; rfl), hJ3⟩
          case measure => rw [restOf_eq hc3, restOf_eq hcr]; exact hsz2
        · gi_wp2
          refine bodyPost_ret (results_none rfl _ _ _) rfl ?_
          exact ⟨⟨_, rfl⟩, .inr ⟨_, hJx3⟩⟩
end Go.Proofs.YtalkckalbmaghaaDoor
