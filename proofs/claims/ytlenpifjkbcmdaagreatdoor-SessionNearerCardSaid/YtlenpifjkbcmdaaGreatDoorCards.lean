/-
  DERIVED. GIVEN WITH THE SEED: THE CARDS: each row of YtlenpifjkbcmdaaGreatDoorRows.lean that lists a variable, with what it lists TIED to the program's text (the seventh form; the later family's looks); each row that meets fmt, with fmt's text TOLD by the authors' own Lean function (tested against real Go, not proved from fmt's source: count such statements apart). THE CARD IS WHAT COUNTS. Prove the row's statement (the work); the ties are given (YtlenpifjkbcmdaaGreatDoorTie.lean); close each card by the builder's one call (the guide's Derived/Test/ToyasCard.lean, 'card_holds'). Laid BY PROGRAM, IN A SANDBOX (cutbox-door.mjs). By AI agents, Wed Nov 11 2026. No macro, syntax, notation, axiom, sorry.
-/
import Derived.Test.YtlenpifjkbcmdaaGreatDoorRows
import GoSem.ClaimSeven
namespace Go.Proofs.YtlenpifjkbcmdaaGreatDoor
namespace Rows

/-- THE TIED CARD OF 'arbourlaw23.SessionNearer'. -/
def sessionNearerCard : Claim7 := { stood := { row := sessionNearerRow, standIns := [], harness := (true, "1576c750da343c5e7eec75b4252829cccddf4b9fffaadd5a9388ee6679cdb068"), looks := false }, kinds := [], alts := [], laidByText := true, laidKinds := [.data, .pinned], laidTests := true, laidLooks := .later }
def SessionNearerCardSaid : Prop := Claim7.holds Tryz.pinned (.plain (OpenSpec.ofChange sessionNearerSpec)) sessionNearerCard

/-- THE SECOND FORM's CARD OF 'arbourlaw23.SessionNearer'. -/
def sessionNearerUptoCard : Claim7 := { stood := { row := sessionNearerUptoRow, standIns := [], harness := (true, "1576c750da343c5e7eec75b4252829cccddf4b9fffaadd5a9388ee6679cdb068"), looks := false }, kinds := [], alts := [], laidByText := true, laidKinds := [.data, .pinned], laidTests := true, laidLooks := .later }
def SessionNearerUptoCardSaid : Prop := Claim7.holds Tryz.pinned (.plain (OpenSpec.upto sessionNearerSpec)) sessionNearerUptoCard
end Rows
end Go.Proofs.YtlenpifjkbcmdaaGreatDoor
