import Derived.Test.YteeaaphpahnjcaaGreatDoorNamesW1
namespace Go.Proofs.YteeaaphpahnjcaaGreatDoor
open Go.RowKit Go.Lib


end Go.Proofs.YteeaaphpahnjcaaGreatDoor
