/-
  Keys and zero values of this program's small types.
-/
import Derived.Test.YtgglheelhbfgiaaGreatDoorBasics
import Derived.Test.YtgglheelhbfgiaaGreatDoorShelf
namespace Go.Proofs.YtgglheelhbfgiaaGreatDoor
open Go Go.RowKit Go.Lib

theorem strInfo : (Tryz.prog.info? 9).map (fun i => (i.zero, i.size, i.bytes)) = some (some (.string ⟨#[]⟩), 1, 16) := by kernel_rfl
theorem mapK : KeyOps Tryz.prog 9 Value.string := keyOps_string Tryz.underlying9
theorem intK : KeyOps Tryz.prog 3 (Value.int .i64) := keyOps_int Tryz.underlying3
theorem zeroInt (w : World) : (zeroValue 3).run Tryz.prog w = .ok (.int .i64 0) w := by kernel_rfl
theorem zeroBool (w : World) : (zeroValue 4).run Tryz.prog w = .ok (.bool false) w := by kernel_rfl
theorem zeroStr (w : World) : (zeroValue 9).run Tryz.prog w = .ok (.string ⟨#[]⟩) w := by kernel_rfl
end Go.Proofs.YtgglheelhbfgiaaGreatDoor
