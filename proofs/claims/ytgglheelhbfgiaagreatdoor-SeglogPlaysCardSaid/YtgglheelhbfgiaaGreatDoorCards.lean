/-
  DERIVED. GIVEN WITH THE SEED: THE CARDS: each row of YtgglheelhbfgiaaGreatDoorRows.lean that lists a variable, with what it lists TIED to the program's text (the seventh form; the later family's looks); each row that meets fmt, with fmt's text TOLD by the authors' own Lean function (tested against real Go, not proved from fmt's source: count such statements apart). THE CARD IS WHAT COUNTS. Prove the row's statement (the work); the ties are given (YtgglheelhbfgiaaGreatDoorTie.lean); close each card by the builder's one call (the guide's Derived/Test/ToyasCard.lean, 'card_holds'). Laid BY PROGRAM, IN A SANDBOX (cutbox-door.mjs). By AI agents, Wed Nov 11 2026. No macro, syntax, notation, axiom, sorry.
-/
import Derived.Test.YtgglheelhbfgiaaGreatDoorRows
import GoSem.ClaimSeven
namespace Go.Proofs.YtgglheelhbfgiaaGreatDoor
namespace Rows

/-- THE TIED CARD OF 'arbourlaw16.SeglogNil'. -/
def seglogNilCard : Claim7 := { stood := { row := seglogNilRow, standIns := [], harness := (true, "e5636e9de65aeea3867a41d7e2e18070fc01ea53697a0ffe73f9126b98da0e82"), looks := true }, kinds := [], alts := [], laidByText := true, laidKinds := [.data, .data, .data], laidTests := true, laidLooks := .later }
def SeglogNilCardSaid : Prop := Claim7.holds Tryz.pinned (.plain (OpenSpec.ofChange seglogNilSpec)) seglogNilCard

/-- THE TIED CARD OF 'arbourlaw16.SeglogFiles'. -/
def seglogFilesCard : Claim7 := { stood := { row := seglogFilesRow, standIns := [], harness := (true, "e5636e9de65aeea3867a41d7e2e18070fc01ea53697a0ffe73f9126b98da0e82"), looks := true }, kinds := [], alts := [], laidByText := true, laidKinds := [.data, .data, .data], laidTests := true, laidLooks := .later }
def SeglogFilesCardSaid : Prop := Claim7.holds Tryz.pinned (.plain (OpenSpec.ofChange seglogFilesSpec)) seglogFilesCard

/-- THE TIED CARD OF 'arbourlaw16.SeglogPlays'. -/
def seglogPlaysCard : Claim7 := { stood := { row := seglogPlaysRow, standIns := [], harness := (true, "e5636e9de65aeea3867a41d7e2e18070fc01ea53697a0ffe73f9126b98da0e82"), looks := true }, kinds := [], alts := [], laidByText := true, laidKinds := [.data, .data, .data], laidTests := true, laidLooks := .later }
def SeglogPlaysCardSaid : Prop := Claim7.holds Tryz.pinned (.plain (OpenSpec.ofChange seglogPlaysSpec)) seglogPlaysCard

/-- THE TIED CARD OF 'arbourlaw16.SeglogLasts'. -/
def seglogLastsCard : Claim7 := { stood := { row := seglogLastsRow, standIns := [], harness := (true, "e5636e9de65aeea3867a41d7e2e18070fc01ea53697a0ffe73f9126b98da0e82"), looks := true }, kinds := [], alts := [], laidByText := true, laidKinds := [.data, .data, .data], laidTests := true, laidLooks := .later }
def SeglogLastsCardSaid : Prop := Claim7.holds Tryz.pinned (.plain (OpenSpec.ofChange seglogLastsSpec)) seglogLastsCard

/-- THE TIED CARD OF 'arbourlaw18.OplogNil'. -/
def oplogNilCard : Claim7 := { stood := { row := oplogNilRow, standIns := [], harness := (true, "e5636e9de65aeea3867a41d7e2e18070fc01ea53697a0ffe73f9126b98da0e82"), looks := true }, kinds := [], alts := [], laidByText := true, laidKinds := [.data, .data, .data, .data, .pinned], laidTests := true, laidLooks := .later }
def OplogNilCardSaid : Prop := Claim7.holds Tryz.pinned (.plain (OpenSpec.ofChange oplogNilSpec)) oplogNilCard

/-- THE TIED CARD OF 'arbourlaw18.OplogLasts'. -/
def oplogLastsCard : Claim7 := { stood := { row := oplogLastsRow, standIns := [], harness := (true, "e5636e9de65aeea3867a41d7e2e18070fc01ea53697a0ffe73f9126b98da0e82"), looks := true }, kinds := [], alts := [], laidByText := true, laidKinds := [.data, .data, .data, .data, .pinned], laidTests := true, laidLooks := .later }
def OplogLastsCardSaid : Prop := Claim7.holds Tryz.pinned (.plain (OpenSpec.ofChange oplogLastsSpec)) oplogLastsCard

/-- THE SECOND FORM's CARD OF 'arbourlaw16.SeglogNil'. -/
def seglogNilUptoCard : Claim7 := { stood := { row := seglogNilUptoRow, standIns := [], harness := (true, "e5636e9de65aeea3867a41d7e2e18070fc01ea53697a0ffe73f9126b98da0e82"), looks := true }, kinds := [], alts := [], laidByText := true, laidKinds := [.data, .data, .data], laidTests := true, laidLooks := .later }
def SeglogNilUptoCardSaid : Prop := Claim7.holds Tryz.pinned (.plain (OpenSpec.upto seglogNilSpec)) seglogNilUptoCard

/-- THE SECOND FORM's CARD OF 'arbourlaw16.SeglogFiles'. -/
def seglogFilesUptoCard : Claim7 := { stood := { row := seglogFilesUptoRow, standIns := [], harness := (true, "e5636e9de65aeea3867a41d7e2e18070fc01ea53697a0ffe73f9126b98da0e82"), looks := true }, kinds := [], alts := [], laidByText := true, laidKinds := [.data, .data, .data], laidTests := true, laidLooks := .later }
def SeglogFilesUptoCardSaid : Prop := Claim7.holds Tryz.pinned (.plain (OpenSpec.upto seglogFilesSpec)) seglogFilesUptoCard

/-- THE SECOND FORM's CARD OF 'arbourlaw16.SeglogPlays'. -/
def seglogPlaysUptoCard : Claim7 := { stood := { row := seglogPlaysUptoRow, standIns := [], harness := (true, "e5636e9de65aeea3867a41d7e2e18070fc01ea53697a0ffe73f9126b98da0e82"), looks := true }, kinds := [], alts := [], laidByText := true, laidKinds := [.data, .data, .data], laidTests := true, laidLooks := .later }
def SeglogPlaysUptoCardSaid : Prop := Claim7.holds Tryz.pinned (.plain (OpenSpec.upto seglogPlaysSpec)) seglogPlaysUptoCard

/-- THE SECOND FORM's CARD OF 'arbourlaw16.SeglogLasts'. -/
def seglogLastsUptoCard : Claim7 := { stood := { row := seglogLastsUptoRow, standIns := [], harness := (true, "e5636e9de65aeea3867a41d7e2e18070fc01ea53697a0ffe73f9126b98da0e82"), looks := true }, kinds := [], alts := [], laidByText := true, laidKinds := [.data, .data, .data], laidTests := true, laidLooks := .later }
def SeglogLastsUptoCardSaid : Prop := Claim7.holds Tryz.pinned (.plain (OpenSpec.upto seglogLastsSpec)) seglogLastsUptoCard

/-- THE SECOND FORM's CARD OF 'arbourlaw18.OplogNil'. -/
def oplogNilUptoCard : Claim7 := { stood := { row := oplogNilUptoRow, standIns := [], harness := (true, "e5636e9de65aeea3867a41d7e2e18070fc01ea53697a0ffe73f9126b98da0e82"), looks := true }, kinds := [], alts := [], laidByText := true, laidKinds := [.data, .data, .data, .data, .pinned], laidTests := true, laidLooks := .later }
def OplogNilUptoCardSaid : Prop := Claim7.holds Tryz.pinned (.plain (OpenSpec.upto oplogNilSpec)) oplogNilUptoCard

/-- THE SECOND FORM's CARD OF 'arbourlaw18.OplogLasts'. -/
def oplogLastsUptoCard : Claim7 := { stood := { row := oplogLastsUptoRow, standIns := [], harness := (true, "e5636e9de65aeea3867a41d7e2e18070fc01ea53697a0ffe73f9126b98da0e82"), looks := true }, kinds := [], alts := [], laidByText := true, laidKinds := [.data, .data, .data, .data, .pinned], laidTests := true, laidLooks := .later }
def OplogLastsUptoCardSaid : Prop := Claim7.holds Tryz.pinned (.plain (OpenSpec.upto oplogLastsSpec)) oplogLastsUptoCard
end Rows
end Go.Proofs.YtgglheelhbfgiaaGreatDoor
