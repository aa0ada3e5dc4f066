import Derived.Test.YtlenpifjkbcmdaaGreatDoorNamesW1
namespace Go.Proofs.YtlenpifjkbcmdaaGreatDoor
open Go.RowKit Go.Lib


end Go.Proofs.YtlenpifjkbcmdaaGreatDoor
