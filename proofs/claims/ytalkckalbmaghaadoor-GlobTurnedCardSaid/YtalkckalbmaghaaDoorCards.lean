/-
  DERIVED. GIVEN WITH THE SEED: THE CARDS: each row of YtalkckalbmaghaaDoorRows.lean that lists a variable, with what it lists TIED to the program's text (the seventh form; the later family's looks); each row that meets fmt, with fmt's text TOLD by the authors' own Lean function (tested against real Go, not proved from fmt's source: count such statements apart). THE CARD IS WHAT COUNTS. Prove the row's statement (the work); the ties are given (YtalkckalbmaghaaDoorTie.lean); close each card by the builder's one call (the guide's Derived/Test/ToyasCard.lean, 'card_holds'). Laid BY PROGRAM, IN A SANDBOX (cutbox-door.mjs). By AI agents, Wed Nov 11 2026. No macro, syntax, notation, axiom, sorry.
-/
import Derived.Test.YtalkckalbmaghaaDoorRows
import GoSem.ClaimSeven
namespace Go.Proofs.YtalkckalbmaghaaDoor
namespace Rows

/-- THE TIED CARD OF 'arbourlaw09.GlobParses'. -/
def globParsesCard : Claim7 := { stood := { row := globParsesRow, standIns := [], harness := (true, "ba1e65af89b2703a22a7ff8a79a772af436de128e63939707d735d1586cd9599"), looks := false }, kinds := [], alts := [], laidByText := true, laidKinds := [.data, .pinned], laidTests := true, laidLooks := .later }
def GlobParsesCardSaid : Prop := Claim7.holds Tryd.pinned (.plain (OpenSpec.ofChange globParsesSpec)) globParsesCard

/-- THE TIED CARD OF 'arbourlaw09.GlobPath'. -/
def globPathCard : Claim7 := { stood := { row := globPathRow, standIns := [], harness := (true, "ba1e65af89b2703a22a7ff8a79a772af436de128e63939707d735d1586cd9599"), looks := false }, kinds := [], alts := [], laidByText := true, laidKinds := [.data, .pinned], laidTests := true, laidLooks := .later }
def GlobPathCardSaid : Prop := Claim7.holds Tryd.pinned (.plain (OpenSpec.ofChange globPathSpec)) globPathCard

/-- THE TIED CARD OF 'arbourlaw09.GlobWithin'. -/
def globWithinCard : Claim7 := { stood := { row := globWithinRow, standIns := [], harness := (true, "ba1e65af89b2703a22a7ff8a79a772af436de128e63939707d735d1586cd9599"), looks := false }, kinds := [], alts := [], laidByText := true, laidKinds := [.data, .pinned], laidTests := true, laidLooks := .later }
def GlobWithinCardSaid : Prop := Claim7.holds Tryd.pinned (.plain (OpenSpec.ofChange globWithinSpec)) globWithinCard

/-- THE TIED CARD OF 'arbourlaw09.GlobMatches'. -/
def globMatchesCard : Claim7 := { stood := { row := globMatchesRow, standIns := [], harness := (true, "ba1e65af89b2703a22a7ff8a79a772af436de128e63939707d735d1586cd9599"), looks := false }, kinds := [], alts := [], laidByText := true, laidKinds := [.data, .pinned], laidTests := true, laidLooks := .later }
def GlobMatchesCardSaid : Prop := Claim7.holds Tryd.pinned (.plain (OpenSpec.ofChange globMatchesSpec)) globMatchesCard

/-- THE TIED CARD OF 'arbourlaw09.GlobTurned'. -/
def globTurnedCard : Claim7 := { stood := { row := globTurnedRow, standIns := [], harness := (true, "ba1e65af89b2703a22a7ff8a79a772af436de128e63939707d735d1586cd9599"), looks := false }, kinds := [], alts := [], laidByText := true, laidKinds := [.data, .pinned], laidTests := true, laidLooks := .later }
def GlobTurnedCardSaid : Prop := Claim7.holds Tryd.pinned (.plain (OpenSpec.ofChange globTurnedSpec)) globTurnedCard

/-- THE TIED CARD OF 'arbourlaw09.GlobOver'. -/
def globOverCard : Claim7 := { stood := { row := globOverRow, standIns := [], harness := (true, "ba1e65af89b2703a22a7ff8a79a772af436de128e63939707d735d1586cd9599"), looks := false }, kinds := [], alts := [], laidByText := true, laidKinds := [.data, .pinned], laidTests := true, laidLooks := .later }
def GlobOverCardSaid : Prop := Claim7.holds Tryd.pinned (.plain (OpenSpec.ofChange globOverSpec)) globOverCard

/-- THE TIED CARD OF 'arbourlaw09.GlobPrints'. -/
def globPrintsCard : Claim7 := { stood := { row := globPrintsRow, standIns := [], harness := (true, "ba1e65af89b2703a22a7ff8a79a772af436de128e63939707d735d1586cd9599"), looks := false }, kinds := [], alts := [], laidByText := true, laidKinds := [.data, .pinned], laidTests := true, laidLooks := .later }
def GlobPrintsCardSaid : Prop := Claim7.holds Tryd.pinned (.plain (OpenSpec.ofChange globPrintsSpec)) globPrintsCard

/-- THE TIED CARD OF 'arbourlaw09.GlobBack'. -/
def globBackCard : Claim7 := { stood := { row := globBackRow, standIns := [], harness := (true, "ba1e65af89b2703a22a7ff8a79a772af436de128e63939707d735d1586cd9599"), looks := false }, kinds := [], alts := [], laidByText := true, laidKinds := [.data, .pinned], laidTests := true, laidLooks := .later }
def GlobBackCardSaid : Prop := Claim7.holds Tryd.pinned (.plain (OpenSpec.ofChange globBackSpec)) globBackCard

/-- THE SECOND FORM's CARD OF 'arbourlaw09.GlobParses'. -/
def globParsesUptoCard : Claim7 := { stood := { row := globParsesUptoRow, standIns := [], harness := (true, "ba1e65af89b2703a22a7ff8a79a772af436de128e63939707d735d1586cd9599"), looks := false }, kinds := [], alts := [], laidByText := true, laidKinds := [.data, .pinned], laidTests := true, laidLooks := .later }
def GlobParsesUptoCardSaid : Prop := Claim7.holds Tryd.pinned (.plain (OpenSpec.upto globParsesSpec)) globParsesUptoCard

/-- THE SECOND FORM's CARD OF 'arbourlaw09.GlobPath'. -/
def globPathUptoCard : Claim7 := { stood := { row := globPathUptoRow, standIns := [], harness := (true, "ba1e65af89b2703a22a7ff8a79a772af436de128e63939707d735d1586cd9599"), looks := false }, kinds := [], alts := [], laidByText := true, laidKinds := [.data, .pinned], laidTests := true, laidLooks := .later }
def GlobPathUptoCardSaid : Prop := Claim7.holds Tryd.pinned (.plain (OpenSpec.upto globPathSpec)) globPathUptoCard

/-- THE SECOND FORM's CARD OF 'arbourlaw09.GlobWithin'. -/
def globWithinUptoCard : Claim7 := { stood := { row := globWithinUptoRow, standIns := [], harness := (true, "ba1e65af89b2703a22a7ff8a79a772af436de128e63939707d735d1586cd9599"), looks := false }, kinds := [], alts := [], laidByText := true, laidKinds := [.data, .pinned], laidTests := true, laidLooks := .later }
def GlobWithinUptoCardSaid : Prop := Claim7.holds Tryd.pinned (.plain (OpenSpec.upto globWithinSpec)) globWithinUptoCard

/-- THE SECOND FORM's CARD OF 'arbourlaw09.GlobMatches'. -/
def globMatchesUptoCard : Claim7 := { stood := { row := globMatchesUptoRow, standIns := [], harness := (true, "ba1e65af89b2703a22a7ff8a79a772af436de128e63939707d735d1586cd9599"), looks := false }, kinds := [], alts := [], laidByText := true, laidKinds := [.data, .pinned], laidTests := true, laidLooks := .later }
def GlobMatchesUptoCardSaid : Prop := Claim7.holds Tryd.pinned (.plain (OpenSpec.upto globMatchesSpec)) globMatchesUptoCard

/-- THE SECOND FORM's CARD OF 'arbourlaw09.GlobTurned'. -/
def globTurnedUptoCard : Claim7 := { stood := { row := globTurnedUptoRow, standIns := [], harness := (true, "ba1e65af89b2703a22a7ff8a79a772af436de128e63939707d735d1586cd9599"), looks := false }, kinds := [], alts := [], laidByText := true, laidKinds := [.data, .pinned], laidTests := true, laidLooks := .later }
def GlobTurnedUptoCardSaid : Prop := Claim7.holds Tryd.pinned (.plain (OpenSpec.upto globTurnedSpec)) globTurnedUptoCard

/-- THE SECOND FORM's CARD OF 'arbourlaw09.GlobOver'. -/
def globOverUptoCard : Claim7 := { stood := { row := globOverUptoRow, standIns := [], harness := (true, "ba1e65af89b2703a22a7ff8a79a772af436de128e63939707d735d1586cd9599"), looks := false }, kinds := [], alts := [], laidByText := true, laidKinds := [.data, .pinned], laidTests := true, laidLooks := .later }
def GlobOverUptoCardSaid : Prop := Claim7.holds Tryd.pinned (.plain (OpenSpec.upto globOverSpec)) globOverUptoCard

/-- THE SECOND FORM's CARD OF 'arbourlaw09.GlobPrints'. -/
def globPrintsUptoCard : Claim7 := { stood := { row := globPrintsUptoRow, standIns := [], harness := (true, "ba1e65af89b2703a22a7ff8a79a772af436de128e63939707d735d1586cd9599"), looks := false }, kinds := [], alts := [], laidByText := true, laidKinds := [.data, .pinned], laidTests := true, laidLooks := .later }
def GlobPrintsUptoCardSaid : Prop := Claim7.holds Tryd.pinned (.plain (OpenSpec.upto globPrintsSpec)) globPrintsUptoCard

/-- THE SECOND FORM's CARD OF 'arbourlaw09.GlobBack'. -/
def globBackUptoCard : Claim7 := { stood := { row := globBackUptoRow, standIns := [], harness := (true, "ba1e65af89b2703a22a7ff8a79a772af436de128e63939707d735d1586cd9599"), looks := false }, kinds := [], alts := [], laidByText := true, laidKinds := [.data, .pinned], laidTests := true, laidLooks := .later }
def GlobBackUptoCardSaid : Prop := Claim7.holds Tryd.pinned (.plain (OpenSpec.upto globBackSpec)) globBackUptoCard
end Rows
end Go.Proofs.YtalkckalbmaghaaDoor
