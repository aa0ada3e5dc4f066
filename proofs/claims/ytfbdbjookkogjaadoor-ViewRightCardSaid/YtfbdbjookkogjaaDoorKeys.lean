/-
  Keys and zero values of this program's small types.
-/
import Derived.Test.YtfbdbjookkogjaaDoorBasics
import Derived.Test.YtfbdbjookkogjaaDoorShelf
namespace Go.Proofs.YtfbdbjookkogjaaDoor
open Go Go.RowKit Go.Lib

theorem strInfo : (Tryd.prog.info? 9).map (fun i => (i.zero, i.size, i.bytes)) = some (some (.string ⟨#[]⟩), 1, 16) := by kernel_rfl
theorem mapK : KeyOps Tryd.prog 9 Value.string := keyOps_string Tryd.underlying9
theorem intK : KeyOps Tryd.prog 3 (Value.int .i64) := keyOps_int Tryd.underlying3
theorem zeroInt (w : World) : (zeroValue 3).run Tryd.prog w = .ok (.int .i64 0) w := by kernel_rfl
theorem zeroBool (w : World) : (zeroValue 4).run Tryd.prog w = .ok (.bool false) w := by kernel_rfl
theorem zeroStr (w : World) : (zeroValue 9).run Tryd.prog w = .ok (.string ⟨#[]⟩) w := by kernel_rfl
end Go.Proofs.YtfbdbjookkogjaaDoor
