/-
  What holds between two rounds of Parse's loop, and when a round has left.
-/
import Derived.Test.YteeaaphpahnjcaaGreatDoorGlp6
namespace Go.Proofs.YteeaaphpahnjcaaGreatDoor
open Go Go.RowKit Go.Lib

/-- A line without its end. -/
def trimB (x : ByteArray) : List UInt8 := Lib.trimSuffix x.data.toList [10]
/-- Between two rounds: the results' variables at w's end, out's box behind them, then the iterator's box; out's rows behind all. -/
def PI (w : World) (pre : List ByteArray) (W : World) : Prop := ∃ acc v, goG [] (pre.map trimB) = some acc ∧ VarAt W (w.heap.size + 2) [v] ∧ OwnRows rulLay W (w.heap.size + 4) 29 v acc ∧
  VarAt W w.heap.size [.slice none 0 0] ∧ VarAt W (w.heap.size + 1) [.int .i64 0] ∧ Below w.heap.size w W ∧ w.heap.size + 4 ≤ W.heap.size
/-- A round has left. -/
def PX (w : World) (xs : List ByteArray) (c : Code) (pre : List ByteArray) (W : World) : Prop := c = .ret ∧ pre <+: xs ∧ goG [] (pre.map trimB) = none ∧
  VarAt W w.heap.size [.slice none 0 0] ∧ VarAt W (w.heap.size + 1) [.int .i64 30] ∧ Below w.heap.size w W ∧ w.heap.size + 4 ≤ W.heap.size
theorem below_putObj {l : Nat} {w W : World} (h : Below w.heap.size w W) (hl : w.heap.size ≤ l) (o : Obj) : Below w.heap.size w (W.putObj l o) :=
  h.grown (grownBy_putObj' W l o) h.size (fun k e => by cases e; exact hl)
theorem PI.putObj {w : World} {pre : List ByteArray} {W : World} (h : PI w pre W) {l : Nat} {o : Obj} (hl : w.heap.size + 4 ≤ l) (ho : W.heap[l]? = some o) (hc : o.isCells = false) (o' : Obj) : PI w pre (W.putObj l o') := by
  obtain ⟨acc, v, h1, h2, h3, h4, h5, h6, h7⟩ := h
  exact ⟨acc, v, h1, h2.putObj (by omega) _, h3.putObj ho hc _, h4.putObj (by omega) _, h5.putObj (by omega) _, below_putObj h6 (by omega) _, by simpa [World.putObj] using h7⟩
theorem PX.putObj {w : World} {xs : List ByteArray} {c : Code} {pre : List ByteArray} {W : World} (h : PX w xs c pre W) {l : Nat} (hl : w.heap.size + 4 ≤ l) (o' : Obj) : PX w xs c pre (W.putObj l o') := by
  obtain ⟨h1, h2, h3, h4, h5, h6, h7⟩ := h
  exact ⟨h1, h2, h3, h4.putObj (by omega) _, h5.putObj (by omega) _, below_putObj h6 (by omega) _, by simpa [World.putObj] using h7⟩
theorem PI.set {w : World} {pre : List ByteArray} {W : World} (h : PI w pre W) (u : Value) : PI w pre (W.setCell ⟨w.heap.size + 3, 0, none⟩ u) := by
  obtain ⟨acc, v, h1, h2, h3, h4, h5, h6, h7⟩ := h
  refine ⟨acc, v, h1, h2.other _ (by omega), h3.kept (grownBy_setCell' W _ u) ?_, h4.other _ (by omega), h5.other _ (by omega), h6.setCell (p := ⟨w.heap.size + 3, 0, none⟩) (by show w.heap.size ≤ w.heap.size + 3; omega) u, by simpa using h7⟩
  refine .inr (fun e => ?_)
  have := (h3.lt e).1
  omega
theorem PI.drew {w : World} {pre : List ByteArray} {W : World} (h : PI w pre W) : PI w pre W.drew := by
  obtain ⟨acc, v, h1, h2, h3, h4, h5, h6, h7⟩ := h
  exact ⟨acc, v, h1, h2.drew 1, h3.kept (row := none) ⟨rfl, rfl, rfl, Nat.le_refl _, fun _ _ _ => rfl⟩ (by cases v.ownBlock <;> simp), h4.drew 1, h5.drew 1, belowDrew h6 1, h7⟩
theorem PI.alloc {w : World} {pre : List ByteArray} {W : World} (h : PI w pre W) (o : Obj) : PI w pre (W.alloc o) := by
  obtain ⟨acc, v, h1, h2, h3, h4, h5, h6, h7⟩ := h
  have hb := (Below.refl W.heap.size W).alloc (Nat.le_refl _) o
  exact ⟨acc, v, h1, h2.keeps hb h2.1, h3.alloc o, h4.keeps hb h4.1, h5.keeps hb h5.1, h6.alloc h6.size o, by simp; omega⟩
/-- The whole text's answer. -/
theorem parse_all (s : ByteArray) (h : Lib.hasSuffix s.data.toList [10] = true) (h2 : ¬ 16 < s.data.toList.count 10) : parseG s.data.toList = ansG (goG [] (((linesF (s.size + 1) s.data.toList).map ba).map trimB)) := by
  unfold parseG
  rw [if_neg (fun e => by rw [h] at e; exact Bool.noConfusion e.2), if_neg h2, List.map_map, show (trimB ∘ ba) = fun x => Lib.trimSuffix x [10] from funext fun x => by simp [trimB, ba_data], size_eq]
theorem goG_stops {pre xs : List ByteArray} (hp : pre <+: xs) (h : goG [] (pre.map trimB) = none) : goG [] (xs.map trimB) = none := by
  obtain ⟨t, rfl⟩ := hp
  rw [List.map_append, goG_append, h]
  rfl
theorem goG_one {pre : List ByteArray} {acc : List Rul} (x : ByteArray) (h : goG [] (pre.map trimB) = some acc) : goG [] ((pre ++ [x]).map trimB) = if (lineG (trimB x)).2 then some (acc ++ [(lineG (trimB x)).1]) else none := by
  rw [List.map_append, goG_append, h]
  rfl
end Go.Proofs.YteeaaphpahnjcaaGreatDoor
