import Derived.Test.YtfbdbjookkogjaaGreatDoorNamesW1
namespace Go.Proofs.YtfbdbjookkogjaaGreatDoor
open Go.RowKit Go.Lib


end Go.Proofs.YtfbdbjookkogjaaGreatDoor
