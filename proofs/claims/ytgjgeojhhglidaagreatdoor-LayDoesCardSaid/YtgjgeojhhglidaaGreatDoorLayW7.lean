import Derived.Test.YtgjgeojhhglidaaGreatDoorLayW6
import Derived.Test.YtgjgeojhhglidaaGreatDoorDrawn
import Derived.Test.YtgjgeojhhglidaaGreatDoorUnder
import Derived.Shelf.Small.Strs
namespace Go.Proofs.YtgjgeojhhglidaaGreatDoor
open Go.RowKit Go.Lib

theorem inB_step {now want : List Ent} {k : Nat} {y : Ent} (h : now[k]? = some y) (p : ByteArray) : inB now want (k + 1) p = (inB now want k p || (y.dir && !staysE y want && underB p y.path)) := by
  unfold inB
  rw [List.take_add_one, h, Option.toList_some, List.any_append]
  simp

end Go.Proofs.YtgjgeojhhglidaaGreatDoor

