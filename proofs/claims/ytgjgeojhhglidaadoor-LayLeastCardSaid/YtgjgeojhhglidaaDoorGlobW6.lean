import Derived.Test.YtgjgeojhhglidaaDoorGlobW5
namespace Go.Proofs.YtgjgeojhhglidaaDoor
open Go.RowKit Go.Lib

theorem splG_last (s : ByteArray) (c : UInt8) : ∀ k, k ≤ s.size → (splG s c k).2 = (Lib.lastIdx s c.toNat k + 1).toNat := by
  intro k
  induction k with
  | zero => intro _; rfl
  | succ k ih =>
    intro hk
    have hl : k < s.data.toList.length := by rw [← size_eq]; omega
    have hb : s.data[k]! = s.data.toList[k] := by
      rw [getElem!_pos s.data k (by simpa using hl)]
      simp
    by_cases hc : s.data.toList[k] = c
    · have h1 : s.data.toList[k]? = some c := by rw [List.getElem?_eq_getElem hl, hc]
      rw [splG, if_pos h1, Lib.lastIdx_hit s c.toNat k (by rw [hb, hc])]
      dsimp only
      omega
    · have h1 : ¬ s.data.toList[k]? = some c := by rw [List.getElem?_eq_getElem hl]; exact fun e => hc (Option.some.inj e)
      have h2 : ¬ ((s.data[k]!).toNat : Int) = c.toNat := by
        rw [hb]
        exact fun e => hc (by rw [← UInt8.toNat_inj]; exact Int.ofNat.inj e)
      rw [splG, if_neg h1, ih (by omega)]
      congr 2
      simp only [Lib.lastIdx, h2, if_false]
theorem split_last (p : ByteArray) : ∃ out, splitG p 47 = out ++ [p.extract (Lib.lastIndexByte p 47 + 1).toNat p.size] ∧ out.length ≤ p.size := by
  refine ⟨(splG p 47 p.size).1, ?_, (splG_le p 47 p.size).2⟩
  unfold splitG
  rw [splG_last p 47 p.size (Nat.le_refl _)]
  rfl

end Go.Proofs.YtgjgeojhhglidaaDoor
