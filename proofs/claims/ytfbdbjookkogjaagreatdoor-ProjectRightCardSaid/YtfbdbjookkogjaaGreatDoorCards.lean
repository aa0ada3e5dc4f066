/-
  DERIVED. GIVEN WITH THE SEED: THE CARDS: each row of YtfbdbjookkogjaaGreatDoorRows.lean that lists a variable, with what it lists TIED to the program's text (the seventh form; the later family's looks); each row that meets fmt, with fmt's text TOLD by the authors' own Lean function (tested against real Go, not proved from fmt's source: count such statements apart). THE CARD IS WHAT COUNTS. Prove the row's statement (the work); the ties are given (YtfbdbjookkogjaaGreatDoorTie.lean); close each card by the builder's one call (the guide's Derived/Test/ToyasCard.lean, 'card_holds'). Laid BY PROGRAM, IN A SANDBOX (cutbox-door.mjs). By AI agents, Wed Nov 11 2026. No macro, syntax, notation, axiom, sorry.
-/
import Derived.Test.YtfbdbjookkogjaaGreatDoorRows
import GoSem.ClaimSeven
namespace Go.Proofs.YtfbdbjookkogjaaGreatDoor
namespace Rows

/-- THE TIED CARD OF 'arbourlaw12.ProjectRight'. -/
def projectRightCard : Claim7 := { stood := { row := projectRightRow, standIns := [], harness := (true, "e5bafdd31e07154487385f6eb88f9223965d0d0a64134b6925641f73889535d3"), looks := false }, kinds := [], alts := [], laidByText := true, laidKinds := [.data, .data, .data, .data, .pinned], laidTests := true, laidLooks := .later }
def ProjectRightCardSaid : Prop := Claim7.holds Tryz.pinned (.plain (OpenSpec.ofChange projectRightSpec)) projectRightCard

/-- THE TIED CARD OF 'arbourlaw12.ProjectAgree'. -/
def projectAgreeCard : Claim7 := { stood := { row := projectAgreeRow, standIns := [], harness := (true, "e5bafdd31e07154487385f6eb88f9223965d0d0a64134b6925641f73889535d3"), looks := false }, kinds := [], alts := [], laidByText := true, laidKinds := [.data, .data, .data, .data, .pinned], laidTests := true, laidLooks := .later }
def ProjectAgreeCardSaid : Prop := Claim7.holds Tryz.pinned (.plain (OpenSpec.ofChange projectAgreeSpec)) projectAgreeCard

/-- THE TIED CARD OF 'arbourlaw12.ProjectWider'. -/
def projectWiderCard : Claim7 := { stood := { row := projectWiderRow, standIns := [], harness := (true, "e5bafdd31e07154487385f6eb88f9223965d0d0a64134b6925641f73889535d3"), looks := false }, kinds := [], alts := [], laidByText := true, laidKinds := [.data, .data, .data, .data, .pinned], laidTests := true, laidLooks := .later }
def ProjectWiderCardSaid : Prop := Claim7.holds Tryz.pinned (.plain (OpenSpec.ofChange projectWiderSpec)) projectWiderCard

/-- THE SECOND FORM's CARD OF 'arbourlaw12.ProjectRight'. -/
def projectRightUptoCard : Claim7 := { stood := { row := projectRightUptoRow, standIns := [], harness := (true, "e5bafdd31e07154487385f6eb88f9223965d0d0a64134b6925641f73889535d3"), looks := false }, kinds := [], alts := [], laidByText := true, laidKinds := [.data, .data, .data, .data, .pinned], laidTests := true, laidLooks := .later }
def ProjectRightUptoCardSaid : Prop := Claim7.holds Tryz.pinned (.plain (OpenSpec.upto projectRightSpec)) projectRightUptoCard

/-- THE SECOND FORM's CARD OF 'arbourlaw12.ProjectAgree'. -/
def projectAgreeUptoCard : Claim7 := { stood := { row := projectAgreeUptoRow, standIns := [], harness := (true, "e5bafdd31e07154487385f6eb88f9223965d0d0a64134b6925641f73889535d3"), looks := false }, kinds := [], alts := [], laidByText := true, laidKinds := [.data, .data, .data, .data, .pinned], laidTests := true, laidLooks := .later }
def ProjectAgreeUptoCardSaid : Prop := Claim7.holds Tryz.pinned (.plain (OpenSpec.upto projectAgreeSpec)) projectAgreeUptoCard

/-- THE SECOND FORM's CARD OF 'arbourlaw12.ProjectWider'. -/
def projectWiderUptoCard : Claim7 := { stood := { row := projectWiderUptoRow, standIns := [], harness := (true, "e5bafdd31e07154487385f6eb88f9223965d0d0a64134b6925641f73889535d3"), looks := false }, kinds := [], alts := [], laidByText := true, laidKinds := [.data, .data, .data, .data, .pinned], laidTests := true, laidLooks := .later }
def ProjectWiderUptoCardSaid : Prop := Claim7.holds Tryz.pinned (.plain (OpenSpec.upto projectWiderSpec)) projectWiderUptoCard
end Rows
end Go.Proofs.YtfbdbjookkogjaaGreatDoor
