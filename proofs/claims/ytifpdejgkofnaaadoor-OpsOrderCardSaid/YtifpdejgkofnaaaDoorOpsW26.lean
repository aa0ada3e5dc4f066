import Derived.Test.YtifpdejgkofnaaaDoorOpsW25
namespace Go.Proofs.YtifpdejgkofnaaaDoor
open Go Go.RowKit Go.Lib

theorem own_ne {W : World} {B vb : Nat} {v : Value} {l : List Opr} {x : Opr} (h : OwnRows oprLay W B 25 v l) (hx : VarAt W vb x.cells) (hk : 0 < l.length) (hm : memB l x = false) : v.ownBlock ≠ some vb := by
  intro he
  obtain ⟨y, hy⟩ := at_some hk
  have hxy : x = y := by
    rcases h.2 with ⟨rfl, _⟩ | ⟨g, c, cur, rfl, _⟩
    · cases he
    · have hgv : g = vb := by simpa [Value.ownBlock] using he
      subst hgv
      obtain ⟨a, cap', e, hr, _⟩ := h.read
      cases e
      obtain ⟨b, off, e2, hlt, c0, c1, c2, c3, c4, c5, c6, c7, c8, c9, c10⟩ := opr_at hr hy
      cases e2
      have key : ∀ i v u, x.cells[i]? = some v → W.cell? ⟨g, i, none⟩ = some u → v = u := fun i v u h1 h2 => by
        have := hx.2.2 i v h1
        rw [h2] at this
        exact (Option.some.inj this).symm
      have k0 := key 0 _ _ rfl c0
      have k1 := key 1 _ _ rfl (by simpa using c1)
      have k2 := key 2 _ _ rfl (by simpa using c2)
      have k3 := key 3 _ _ rfl (by simpa using c3)
      have k4 := key 4 _ _ rfl (by simpa using c4)
      have k5 := key 5 _ _ rfl (by simpa using c5)
      have k6 := key 6 _ _ rfl (by simpa using c6)
      have k7 := key 7 _ _ rfl (by simpa using c7)
      have k8 := key 8 _ _ rfl (by simpa using c8)
      have k9 := key 9 _ _ rfl (by simpa using c9)
      have k10 := key 10 _ _ rfl (by simpa using c10)
      simp only [Value.int.injEq, true_and, Value.bool.injEq, Value.string.injEq] at k0 k1 k2 k3 k4 k5 k6 k7 k8 k9 k10
      exact Opr.ext' k0 k1 k2 k3 k4 k5 k6 k7 k8 k9 k10
  have : memB l x = true := any_hit hy (by simp [hxy])
  rw [hm] at this
  cases this
theorem shape_cell {W : World} {b i : Nat} {v : Value} (h : W.cell? ⟨b, i, none⟩ = some v) : ∃ t k, W.shape? b = some (t, k) := by
  unfold World.cell? at h
  unfold World.shape?
  split at h
  · rename_i c e f heq
    dsimp only at heq
    rw [heq]
    exact ⟨_, _, rfl⟩
  · cases h
theorem ins_ok {l : List Opr} {x : Opr} (hl : l.length ≤ 10000) (hm : memB l x = false) : InsOk l x := by
  intro v vb B W h1 h2 h3
  by_cases hk : atO l x < l.length
  · exact insertMid_any v l x vb B (atO l x) W hl hk h1 h2 h3 (own_ne h1 h3 (by omega) hm) (shape_cell (h3.2.2 0 _ rfl))
  · have he : atO l x = l.length := by have := atO_le l x; omega
    have := insertEnd_any v l x vb B W hl h1 h2 h3
    unfold insO
    rw [he, List.take_length, List.drop_length]
    exact this
theorem add_any (a : Option Addr) (cap : Nat) (l : List Opr) (x : Opr) (w : World) (hl : l.length ≤ 10000) (hn : x.name.size ≤ 100000) (hm : x.man.size ≤ 100000) (hnil : a = none → cap = 0) (hlc : l.length ≤ cap) (ha : RowsAt oprLay w a l) :
    Calls Tryd.prog 18 #[.slice a l.length cap, .agg #[.int .i64 x.cnt, .int .i64 x.who, .int .i64 x.seq, .int .i64 x.kind, .int .i64 x.nc, .int .i64 x.nw, .bool x.dir, .int .i64 x.pc, .int .i64 x.pw, .string x.name, .string x.man]] w fun e w' => ∃ a' cap', e = .returned (.tuple #[.slice a' (addO l x).1.length cap', .int .i64 (addO l x).2]) ∧ RowsAt oprLay w' a' (addO l x).1 ∧ (a' = none → cap' = 0) ∧ (addO l x).1.length ≤ cap' ∧ Below w.heap.size w w' :=
  add_walk a cap l x w hl hn hm hnil hlc ha (fun _ hm _ => ins_ok hl hm)
end Go.Proofs.YtifpdejgkofnaaaDoor
