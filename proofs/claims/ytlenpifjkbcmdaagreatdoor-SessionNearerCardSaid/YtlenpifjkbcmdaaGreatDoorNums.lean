/-
  Numbers, as they lie in memory; a number of a row of one's own that is written. Of no program.
-/
import Derived.Test.YtlenpifjkbcmdaaGreatDoorStructs
import Derived.Test.YtlenpifjkbcmdaaGreatDoorOpened2
namespace Go.Proofs.YtlenpifjkbcmdaaGreatDoor
open Go Go.RowKit Go.ChangeShapes Go.WideShapes Go.ChangeAt Go.Deep

def numLay : Lay Int := { sz := 1, cells := fun n => [.int .i64 n], len := fun _ => rfl, one := fun x v hv => by simp only [List.mem_cons, List.mem_nil_iff, or_false] at hv; rw [hv]; rfl }
theorem num_at {w : World} {a : Option Addr} {xs : List Int} (h : RowsAt numLay w a xs) {k : Nat} {x : Int} (hk : xs[k]? = some x) : ∃ b off, a = some ⟨b, off, none⟩ ∧ b < w.heap.size ∧ w.cell? ⟨b, off + k, none⟩ = some (.int .i64 x) := by
  obtain ⟨b, off, e, hlt, hc⟩ := h k x hk
  have := hc 0 _ rfl
  refine ⟨b, off, e, hlt, ?_⟩
  simpa [numLay] using this
theorem flat_nums (xs : List Int) : flat numLay xs = xs.map (Value.int .i64) := by
  induction xs with
  | nil => rfl
  | cons x xs ih =>
    show numLay.cells x ++ flat numLay xs = _
    rw [ih]
    rfl
/-- What is known of a row of one's own at an index: the address, what lies there, that it may be written, and what the row is behind the write. -/
theorem OwnRows.at_num {w : World} {base : Nat} {e : TypeId} {v : Value} {xs : List Int} (h : OwnRows numLay w base e v xs) {k : Nat} {x : Int} (hk : xs[k]? = some x) :
    ∃ g cap, v = .slice (some ⟨g, 0, none⟩) xs.length cap ∧ base ≤ g ∧ xs.length ≤ cap ∧ w.cell? ⟨g, k, none⟩ = some (.int .i64 x) ∧ w.frozen? ⟨g, k, none⟩ = false ∧
      ∀ y, OwnRows numLay (w.setCell ⟨g, k, none⟩ (.int .i64 y)) base e v (xs.set k y) := by
  have hkl : k < xs.length := (List.getElem?_eq_some_iff.1 hk).1
  have hfl : (flat numLay xs).length = xs.length := by rw [flat_nums, List.length_map]
  rcases h.2 with ⟨rfl, hx⟩ | ⟨g, cap, cur, rfl, hg, hgg, hcap, hcm, hcs, htk⟩
  · exfalso
    have : xs.length = 0 := by simpa using hx
    omega
  · have hsz : numLay.sz = 1 := rfl
    rw [hsz] at hcs htk
    have hck : cur[k]? = some (.int .i64 x) := by
      have h1 : (cur.toList.take (xs.length * 1))[k]? = some (.int .i64 x) := by
        rw [htk, flat_nums, List.getElem?_map, hk]; rfl
      rw [List.getElem?_take, if_pos (by omega)] at h1
      simpa using h1
    refine ⟨g, cap, rfl, hg, by simpa using hcap, ?_, ?_, fun y => ⟨?_, .inr ⟨g, cap, cur.set! k (.int .i64 y), ?_, hg, ?_, ?_, hcm, ?_, ?_⟩⟩⟩
    · simp [World.cell?, hgg, hck]
    · simp [World.frozen?, hgg]
    · rw [flat_nums, List.length_map, hsz, Nat.mul_one]
    · simp
    · simp [World.setCell, Array.getElem?_modify, hgg]
    · simpa using hcap
    · rw [hsz]; simpa using hcs
    · rw [hsz, flat_nums]
      rw [flat_nums] at htk
      simp only [Array.set!_eq_setIfInBounds, Array.toList_setIfInBounds, List.length_set, Nat.mul_one] at htk ⊢
      rw [List.take_set, htk, List.map_set]
section
variable {H : Type} {enc : TypeId × Value → H} {P : Program}
/-- Numbers that came in. -/
theorem arg_ints {W : World} {base : Nat} {ts : List TypeId} {ds : List (DataW H)} {j : Nat} {t e : TypeId} {v : Value} {d : DataW H} {p : List MemPlace}
    (ht : P.underlying t = some (.slice e)) (hui : P.underlying e = some (.int .i64)) (hlv : leaves P 4 e = [(0, e)]) (hC : P.cellsOf e = 1)
    (hv : Value.okWide P W .any base t v) (h : DataW.Trod enc P W 0 (fun _ => true) true t v d p) (hlt : ∀ x ∈ p, x.block < W.heap.size) (hsz : (DataW.weightsEach P ts ds).all (· ≤ reachBytes) = true) (h1 : ts[j]? = some t) (h2 : ds[j]? = some d) :
    ∃ (a : Option Addr) (cap : Nat) (xs : List Int), v = .slice a xs.length cap ∧ RowsAt numLay W a xs ∧ xs.length ≤ cap ∧ xs.length * P.bytesOf e ≤ 140737488351232 ∧ (a = none → cap = 0) := by
  refine arg_leaves (L := numLay) (by decide) ht hlv hC ?_ hv h hlt hsz h1 h2 (by simp [numLay])
  intro g hg
  obtain ⟨n0, x0, h0⟩ := hg (0, e) (by simp)
  obtain ⟨i0, e0, _⟩ := DataW.trod_int hui h0
  simp only [List.cons.injEq, and_true] at e0
  refine ⟨i0, fun f v hv => ?_⟩
  match f, hv with
  | 0, hv => rw [e0]; exact Option.some.inj hv
end
end Go.Proofs.YtlenpifjkbcmdaaGreatDoor
