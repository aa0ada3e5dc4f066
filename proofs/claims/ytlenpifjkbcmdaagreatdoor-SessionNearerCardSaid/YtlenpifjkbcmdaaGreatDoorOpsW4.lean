import Derived.Test.YtlenpifjkbcmdaaGreatDoorOpsW3
namespace Go.Proofs.YtlenpifjkbcmdaaGreatDoor
open Go Go.RowKit Go.Lib


end Go.Proofs.YtlenpifjkbcmdaaGreatDoor