import Derived.Test.YtmbmaompoplbaaaScanW1
import Derived.Deep.AppendLies
namespace Go.Proofs.Ytmbmaompoplbaaa
open Go.RowKit Go.Lib

/-- A sheet of a list: where it lies, and what its maps hold. -/
def SheetAt (w : World) (g : Nat) (l : List KEnt) : Prop := g < w.heap.size ∧ ∃ (a : Option Addr) (cap b1 n1 b2 n2 : Nat), w.cell? ⟨g, 0, none⟩ = some (.slice a l.length cap) ∧ w.cell? ⟨g, 1, none⟩ = some (.map (some b1)) ∧ w.cell? ⟨g, 2, none⟩ = some (.map (some b2)) ∧
  RowsAt kLay w a l ∧ MapOf (Value.int .i64) w b1 n1 (firstF l 0) ∧ MapOf Value.string w b2 n2 (idF l)
theorem SheetAt.keeps {w w' : World} {g : Nat} {l : List KEnt} (h : SheetAt w g l) (hb : Below w.heap.size w w') : SheetAt w' g l := by
  obtain ⟨hg, a, cap, b1, n1, b2, n2, h0, h1, h2, hr, m1, m2⟩ := h
  exact ⟨Nat.lt_of_lt_of_le hg hb.size, a, cap, b1, n1, b2, n2, (hb.cell (p := ⟨g, 0, none⟩) hg).trans h0, (hb.cell (p := ⟨g, 1, none⟩) hg).trans h1, (hb.cell (p := ⟨g, 2, none⟩) hg).trans h2, hr.keeps hb, m1.below hb m1.lt, m2.below hb m2.lt⟩

set_option maxRecDepth 100000 in
set_option maxHeartbeats 1600000 in
theorem sheet_any (a : Option Addr) (cap : Nat) (l : List KEnt) (w : World) (hl : l.length ≤ 1000) (ha : RowsAt kLay w a l) :
    Calls Try.prog 20 #[.slice a l.length cap] w fun e w' => ∃ g, e = .returned (.pointer (some ⟨g, 0, none⟩)) ∧ SheetAt w' g l ∧ Below w.heap.size w w' := by
  have HA := Lib.hid ha
  have hmm := @run_makeMap Try.prog
  clear ha
  go_enter Try.func20, Try.ntmps20
  go_wp2_with fail
  go_loopw [4] (fun i wr => ∃ k : Nat, k ≤ l.length ∧ i = .int .i64 ((k : Int) - 1) ∧ MapOf (Value.int .i64) wr w.heap.size (l.length - k) (firstF (l.drop k) k) ∧ MapOf Value.string wr (w.heap.size + 1) (l.length - k) (idF (l.drop k)) ∧
    wr.cell? ⟨w.heap.size + 2, 0, none⟩ = some (.slice a l.length cap) ∧ wr.cell? ⟨w.heap.size + 2, 1, none⟩ = some (.map (some w.heap.size)) ∧ wr.cell? ⟨w.heap.size + 2, 2, none⟩ = some (.map (some (w.heap.size + 1))) ∧ w.heap.size + 2 < wr.heap.size ∧ Below w.heap.size w wr) (fun i _ => ((RowKit.intOf i) + 1).toNat)
  case atStart =>
    have hc := cells_new_at ((w.alloc (.map #[] 0)).alloc (.map #[] 0)) (w.heap.size + 2) #[.slice a l.length cap, .map (some w.heap.size), .map (some (w.heap.size + 1))] 60 (by simp)
    refine ⟨l.length, Nat.le_refl _, rfl, ?_, ?_, by simpa [Addr.add] using hc 0 _ rfl, by simpa [Addr.add] using hc 1 _ rfl, by simpa [Addr.add] using hc 2 _ rfl, by simp, ?_⟩
    · rw [List.drop_length, Nat.sub_self]
      exact ((MapOf.made w).alloc _).alloc _
    · rw [List.drop_length, Nat.sub_self]
      have := MapOf.made (inj := Value.string) (w.alloc (.map #[] 0))
      rw [show (w.alloc (.map #[] 0)).heap.size = w.heap.size + 1 by simp] at this
      exact this.alloc _
    · exact (((Below.refl _ _).alloc (Nat.le_refl _) _).alloc (by simp) _).alloc (by simp; omega) _
  case round =>
    obtain ⟨k, hk, rfl, hm1, hm2, g0, g1, g2, hgl, hb⟩ := hrel
    by_cases h0 : 0 < k
    · obtain ⟨n, rfl⟩ : ∃ n, k = n + 1 := ⟨k - 1, by omega⟩
      have e1 : ((n + 1 : Nat) : Int) - 1 = (n : Int) := by omega
      rw [e1]
      obtain ⟨x, hx⟩ := at_some (show n < l.length by omega)
      obtain ⟨b, off, rfl, hbl, c0, c1, c2, c3⟩ := k_at (HA.out.keeps hb) hx
      have hst1 : firstF (l.drop n) n = putAt (firstF (l.drop (n + 1)) (n + 1)) x.id (.int .i64 n) := by rw [drop_at hx, firstF_cons]
      have hst2 : idF (l.drop n) = putAt (idF (l.drop (n + 1))) x.path (.int .i64 x.id) := by rw [drop_at hx, idF_cons]
      obtain ⟨_, _, he, hbw, _⟩ := k_at HA.out hx
      cases he
      have Hst1 := Lib.hid hst1
      have Hst2 := Lib.hid hst2
      have HX := Lib.hid hx
      clear hst1 hst2 hx e1
      go_wp2_with fail
      have hi1 : (n : Int) < (l.length : Int) := by omega
      have hraw : ∀ p, World.cell? { heap := wr.heap, tape := wr.tape, drawn := wr.drawn + 1, os := wr.os, output := wr.output } p = wr.cell? p := fun _ => rfl
      go_still_tail 10, (by kernel_rfl)
      change wpList _ _ _ _ _ wr.drew
      clear hraw
      go_wp2_with (at_mapUpdate; refine wpList_mapUpdate_of rfl _ _ _ 57 rfl 3 3 intK Try.underlying57 rfl (hm1.of_block rfl) x.id rfl _ rfl ?_)
      intro wz hmz1 hgz
      have hmz2 := (hm2.drewN 1).grown hgz (by simp)
      have hbz := hb.drew.grown hgz (by simpa using hb.size) (fun j ej => by cases ej; exact Nat.le_refl _)
      have d0 := (hgz.cell_far ⟨w.heap.size + 2, 0, none⟩ (by simpa using hgl) (by simp)).trans g0
      have d1 := (hgz.cell_far ⟨w.heap.size + 2, 1, none⟩ (by simpa using hgl) (by simp)).trans g1
      have d2 := (hgz.cell_far ⟨w.heap.size + 2, 2, none⟩ (by simpa using hgl) (by simp)).trans g2
      have hgl2 : w.heap.size + 2 < wz.heap.size := Nat.lt_of_lt_of_le hgl hgz.size
      obtain ⟨_, _, he, _, f0, f1, f2, f3⟩ := k_at (HA.out.keeps hbz) HX.out
      cases he
      clear hgz hm1 hm2 g0 g1 g2 hgl c0 c1 c2 c3 hb
      go_wp2_with fail
      have hraw : ∀ p, World.cell? { heap := wz.heap, tape := wz.tape, drawn := wz.drawn + 1, os := wz.os, output := wz.output } p = wz.cell? p := fun _ => rfl
      go_still_tail 14, (by kernel_rfl)
      change wpList _ _ _ _ _ wz.drew
      clear hraw
      go_wp2_with (at_mapUpdate; refine wpList_mapUpdate_of rfl _ _ _ 58 rfl 9 3 mapK Try.underlying58 rfl (hmz2.of_block rfl) x.path rfl _ rfl ?_)
      intro wy hmy2 hgy
      have hmy1 := (hmz1.drewN 1).grown hgy (by simp)
      have hby := hbz.drew.grown hgy (by simpa using hbz.size) (fun j ej => by cases ej; omega)
      have g0 := (hgy.cell_far ⟨w.heap.size + 2, 0, none⟩ (by simpa using hgl2) (by simp)).trans d0
      have g1 := (hgy.cell_far ⟨w.heap.size + 2, 1, none⟩ (by simpa using hgl2) (by simp)).trans d1
      have g2 := (hgy.cell_far ⟨w.heap.size + 2, 2, none⟩ (by simpa using hgl2) (by simp)).trans d2
      have hgl : w.heap.size + 2 < wy.heap.size := Nat.lt_of_lt_of_le hgl2 hgy.size
      clear hgy hmz1 hmz2 d0 d1 d2 hgl2 f0 f1 f2 f3 hbz
      go_wp2_with fail
      go_roundw
      case rel =>
        refine ⟨n, by omega, rfl, ?_, ?_, g0, g1, g2, hgl, hby⟩
        · rw [Hst1.out]; exact hmy1.mono (by omega)
        · rw [Hst2.out]; exact hmy2.mono (by omega)
      case measure => simp [RowKit.intOf]
    · obtain rfl : k = 0 := by omega
      go_wp2_with fail
      go_ret
      exact ⟨_, rfl, ⟨hgl, a, cap, _, _, _, _, g0, g1, g2, HA.out.keeps hb, by simpa using hm1, by simpa using hm2⟩, hb⟩
end Go.Proofs.Ytmbmaompoplbaaa
