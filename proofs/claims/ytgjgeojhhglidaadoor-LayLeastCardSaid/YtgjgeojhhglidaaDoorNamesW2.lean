import Derived.Test.YtgjgeojhhglidaaDoorKeys
import Derived.Test.YtgjgeojhhglidaaDoorNamesPure
import Derived.WalkKit
import Derived.WalkSpells
import Derived.Lib.Hide
namespace Go.Proofs.YtgjgeojhhglidaaDoor
open Go.RowKit Go.Lib

theorem ext_mk (s : ByteArray) : extAt s.data.toList = Lib.lastIndexByte s 46 := by unfold extAt; rw [mk_data]

end Go.Proofs.YtgjgeojhhglidaaDoor
