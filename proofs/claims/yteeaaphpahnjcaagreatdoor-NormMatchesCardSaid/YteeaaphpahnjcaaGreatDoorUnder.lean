/-
  What stands below a directory: what the code asks. Of no program.
-/
import Derived.Test.YteeaaphpahnjcaaGreatDoorLayPure
import Derived.Test.YteeaaphpahnjcaaGreatDoorBasics
namespace Go.Proofs.YteeaaphpahnjcaaGreatDoor
open Go Go.RowKit Go.Lib

theorem extract_take (p : ByteArray) (n : Nat) : (p.extract 0 n).data.toList = p.data.toList.take n := by
  rw [ByteArray.data_extract]; simp
theorem under_yes {p d : ByteArray} (h1 : d.size + 1 < p.size) (h2 : p.extract 0 d.size = d) (h3 : p[d.size] = 47) : underB p d = true := by
  have h4 := extract_take p d.size
  rw [h2] at h4
  unfold underB
  simp only [Bool.and_eq_true, decide_eq_true_eq]
  refine ⟨⟨h1, h4.symm⟩, ?_⟩
  rw [List.getElem?_eq_getElem (by rw [← size_eq]; omega)]
  exact congrArg some h3
theorem under_no2 {p d : ByteArray} (h2 : ¬ p.extract 0 d.size = d) : underB p d = false := by
  have h4 := extract_take p d.size
  unfold underB
  have : ¬ p.data.toList.take d.size = d.data.toList := fun e => h2 (ba_ext (by rw [h4, e]))
  simp [this]
theorem under_no3 {p d : ByteArray} (hl : d.size < p.size) (h3 : ¬ p[d.size] = 47) : underB p d = false := by
  unfold underB
  have : ¬ p.data.toList[d.size]? = some 47 := by
    rw [List.getElem?_eq_getElem (by rw [← size_eq]; omega)]
    exact fun e => h3 (Option.some.inj e)
  simp only [this, decide_false, Bool.and_false]
theorem byte_ne {a : UInt8} (h : ¬ a = 47) : ((a.toNat : Int) == 47) = false := by
  rw [beq_eq_false_iff_ne]
  exact fun e => h (by rw [← UInt8.toNat_inj]; exact Int.ofNat.inj e)
end Go.Proofs.YteeaaphpahnjcaaGreatDoor
