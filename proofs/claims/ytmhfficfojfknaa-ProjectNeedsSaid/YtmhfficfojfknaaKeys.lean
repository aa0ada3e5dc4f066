/-
  Keys and zero values of this program's small types.
-/
import Derived.Test.YtmhfficfojfknaaBasics
import Derived.Test.YtmhfficfojfknaaShelf
namespace Go.Proofs.Ytmhfficfojfknaa
open Go Go.RowKit Go.Lib

theorem strInfo : (Try.prog.info? 9).map (fun i => (i.zero, i.size, i.bytes)) = some (some (.string ⟨#[]⟩), 1, 16) := by kernel_rfl
theorem mapK : KeyOps Try.prog 9 Value.string := keyOps_string Try.underlying9
theorem intK : KeyOps Try.prog 3 (Value.int .i64) := keyOps_int Try.underlying3
theorem zeroInt (w : World) : (zeroValue 3).run Try.prog w = .ok (.int .i64 0) w := by kernel_rfl
theorem zeroBool (w : World) : (zeroValue 4).run Try.prog w = .ok (.bool false) w := by kernel_rfl
theorem zeroStr (w : World) : (zeroValue 9).run Try.prog w = .ok (.string ⟨#[]⟩) w := by kernel_rfl
end Go.Proofs.Ytmhfficfojfknaa
