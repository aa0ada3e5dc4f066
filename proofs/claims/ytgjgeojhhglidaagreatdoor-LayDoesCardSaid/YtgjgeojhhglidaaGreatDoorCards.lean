/-
  DERIVED. GIVEN WITH THE SEED: THE CARDS: each row of YtgjgeojhhglidaaGreatDoorRows.lean that lists a variable, with what it lists TIED to the program's text (the seventh form; the later family's looks); each row that meets fmt, with fmt's text TOLD by the authors' own Lean function (tested against real Go, not proved from fmt's source: count such statements apart). THE CARD IS WHAT COUNTS. Prove the row's statement (the work); the ties are given (YtgjgeojhhglidaaGreatDoorTie.lean); close each card by the builder's one call (the guide's Derived/Test/ToyasCard.lean, 'card_holds'). Laid BY PROGRAM, IN A SANDBOX (cutbox-door.mjs). By AI agents, Wed Nov 11 2026. No macro, syntax, notation, axiom, sorry.
-/
import Derived.Test.YtgjgeojhhglidaaGreatDoorRows
import GoSem.ClaimSeven
namespace Go.Proofs.YtgjgeojhhglidaaGreatDoor
namespace Rows

/-- THE TIED CARD OF 'arbourlaw21.LayDoes'. -/
def layDoesCard : Claim7 := { stood := { row := layDoesRow, standIns := [], harness := (true, "c281a092989c495d39d5ab615564c06c5acacddc701878471be49b4e9737e648"), looks := true }, kinds := [], alts := [], laidByText := true, laidKinds := [.data, .pinned], laidTests := true, laidLooks := .later }
def LayDoesCardSaid : Prop := Claim7.holds Tryz.pinned (.plain (OpenSpec.ofChange layDoesSpec)) layDoesCard

/-- THE SECOND FORM's CARD OF 'arbourlaw21.LayDoes'. -/
def layDoesUptoCard : Claim7 := { stood := { row := layDoesUptoRow, standIns := [], harness := (true, "c281a092989c495d39d5ab615564c06c5acacddc701878471be49b4e9737e648"), looks := true }, kinds := [], alts := [], laidByText := true, laidKinds := [.data, .pinned], laidTests := true, laidLooks := .later }
def LayDoesUptoCardSaid : Prop := Claim7.holds Tryz.pinned (.plain (OpenSpec.upto layDoesSpec)) layDoesUptoCard
end Rows
end Go.Proofs.YtgjgeojhhglidaaGreatDoor
