/-
  Maps whose keys are arrays or structs of two integers. Of no program.
-/
import Derived.Test.YtfbdbjookkogjaaDoorMaps
import Derived.DeepKeys5
namespace Go.Proofs.YtfbdbjookkogjaaDoor
open Go Go.MapKept Go.RowKit

theorem keyOps_of_law {P : Program} {k : TypeId} {κ : Type} {inj : κ → Value} (K : WideMaps.KeyLaw P k) (hi : ∀ a b, inj a = inj b → a = b) (hk : ∀ c, ∃ l, keyOf P k (inj c) = some l) : KeyOps P k inj where
  one := hi
  check := fun w em c => by
    obtain ⟨l, h⟩ := hk c
    exact K.check w em h
  find := fun w c es hes => by
    obtain ⟨l, h⟩ := hk c
    exact K.find w h es fun e he => by
      obtain ⟨c', hc⟩ := hes e he
      rw [hc]
      exact hk c'
  stays := fun w c => by
    obtain ⟨l, h⟩ := hk c
    exact K.stays w h

def Pr := { p : Int × Int // (-9223372036854775808 ≤ p.1 ∧ p.1 ≤ 9223372036854775807) ∧ -9223372036854775808 ≤ p.2 ∧ p.2 ≤ 9223372036854775807 }
instance : DecidableEq Pr := fun a b => decidable_of_iff (a.1 = b.1) Subtype.ext_iff.symm
def Pr.val (p : Pr) : Value := .agg #[.int .i64 p.1.1, .int .i64 p.1.2]
def prOf (a b : Int) (h : (-9223372036854775808 ≤ a ∧ a ≤ 9223372036854775807) ∧ -9223372036854775808 ≤ b ∧ b ≤ 9223372036854775807) : Pr := ⟨(a, b), h⟩
theorem Pr.one (a b : Pr) (h : a.val = b.val) : a = b := by
  obtain ⟨⟨a1, a2⟩, ha⟩ := a
  obtain ⟨⟨b1, b2⟩, hb⟩ := b
  simp only [Pr.val, Value.agg.injEq, Array.mk.injEq, List.cons.injEq, Value.int.injEq, true_and, and_true] at h
  obtain ⟨rfl, rfl⟩ := h
  rfl
theorem wf_i64 {n : Int} (h : -9223372036854775808 ≤ n ∧ n ≤ 9223372036854775807) : (Lit.int .i64 n).wf = true := by
  simpa [Lit.wf, IntKind.min, IntKind.max, IntKind.signed, IntKind.bits] using h
theorem keyLits_i64 {P : Program} {e : TypeId} (he : P.underlying e = some (.int .i64)) {m : Nat} (hm : 0 < m) {n : Int} (h : -9223372036854775808 ≤ n ∧ n ≤ 9223372036854775807) : P.keyLits m e [.int .i64 n] = some [.int .i64 n] := by
  obtain ⟨q, rfl⟩ : ∃ q, m = q + 1 := ⟨m - 1, by omega⟩
  simp [Program.keyLits, he, wf_i64 h]
theorem keyOf_arr {P : Program} {k e : TypeId} (hrow : k < P.types.size) (hu : P.underlying k = some (.array 2 e)) (he : P.underlying e = some (.int .i64)) (hc : P.cellsOf e = 1) (hk : P.cellsOf k = 2) (hty : P.keyType k = true) (p : Pr) : ∃ l, keyOf P k p.val = some l := by
  obtain ⟨⟨a, b⟩, h1, h2⟩ := p
  have e1 := keyLits_i64 he (Nat.lt_of_le_of_lt (Nat.zero_le _) hrow) h1
  have e2 := keyLits_i64 he (Nat.lt_of_le_of_lt (Nat.zero_le _) hrow) h2
  simp only at e1 e2
  simp [keyOf, hu, hty, Value.formed, Pr.val, Value.cells, Program.keyLits, hc, hk, e1, e2, List.range_succ]
theorem prKeys {P : Program} (hl : laidOutB P = true) (hsmall : P.types.size + 2 ≤ 10000) {k e : TypeId} (hrow : k < P.types.size) (hu : P.underlying k = some (.array 2 e)) (he : P.underlying e = some (.int .i64)) (hc : P.cellsOf e = 1) (hk : P.cellsOf k = 2) (hty : P.keyType k = true) : KeyOps P k Pr.val :=
  keyOps_of_law (deep_law_gate hl hsmall hrow hty (by rw [hu])) Pr.one (keyOf_arr hrow hu he hc hk hty)
end Go.Proofs.YtfbdbjookkogjaaDoor
