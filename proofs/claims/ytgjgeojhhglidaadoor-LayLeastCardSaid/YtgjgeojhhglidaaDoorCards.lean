/-
  DERIVED. GIVEN WITH THE SEED: THE CARDS: each row of YtgjgeojhhglidaaDoorRows.lean that lists a variable, with what it lists TIED to the program's text (the seventh form; the later family's looks); each row that meets fmt, with fmt's text TOLD by the authors' own Lean function (tested against real Go, not proved from fmt's source: count such statements apart). THE CARD IS WHAT COUNTS. Prove the row's statement (the work); the ties are given (YtgjgeojhhglidaaDoorTie.lean); close each card by the builder's one call (the guide's Derived/Test/ToyasCard.lean, 'card_holds'). Laid BY PROGRAM, IN A SANDBOX (cutbox-door.mjs). By AI agents, Wed Nov 11 2026. No macro, syntax, notation, axiom, sorry.
-/
import Derived.Test.YtgjgeojhhglidaaDoorRows
import GoSem.ClaimSeven
namespace Go.Proofs.YtgjgeojhhglidaaDoor
namespace Rows

/-- THE TIED CARD OF 'arbourlaw19.FilesPlays'. -/
def filesPlaysCard : Claim7 := { stood := { row := filesPlaysRow, standIns := [], harness := (true, "05119225e106cd0b7953b07af1d1a4c175e84ffa1d89423231ce4a10f4445152"), looks := true }, kinds := [], alts := [], laidByText := true, laidKinds := [.data, .pinned], laidTests := true, laidLooks := .later }
def FilesPlaysCardSaid : Prop := Claim7.holds Tryd.pinned (.plain (OpenSpec.ofChange filesPlaysSpec)) filesPlaysCard

/-- THE TIED CARD OF 'arbourlaw19.FilesRight'. -/
def filesRightCard : Claim7 := { stood := { row := filesRightRow, standIns := [], harness := (true, "05119225e106cd0b7953b07af1d1a4c175e84ffa1d89423231ce4a10f4445152"), looks := true }, kinds := [], alts := [], laidByText := true, laidKinds := [.data, .pinned], laidTests := true, laidLooks := .later }
def FilesRightCardSaid : Prop := Claim7.holds Tryd.pinned (.plain (OpenSpec.ofChange filesRightSpec)) filesRightCard

/-- THE TIED CARD OF 'arbourlaw19.FilesMoves'. -/
def filesMovesCard : Claim7 := { stood := { row := filesMovesRow, standIns := [], harness := (true, "05119225e106cd0b7953b07af1d1a4c175e84ffa1d89423231ce4a10f4445152"), looks := true }, kinds := [], alts := [], laidByText := true, laidKinds := [.data, .pinned], laidTests := true, laidLooks := .later }
def FilesMovesCardSaid : Prop := Claim7.holds Tryd.pinned (.plain (OpenSpec.ofChange filesMovesSpec)) filesMovesCard

/-- THE TIED CARD OF 'arbourlaw19.FilesNil'. -/
def filesNilCard : Claim7 := { stood := { row := filesNilRow, standIns := [], harness := (true, "05119225e106cd0b7953b07af1d1a4c175e84ffa1d89423231ce4a10f4445152"), looks := true }, kinds := [], alts := [], laidByText := true, laidKinds := [.data, .pinned], laidTests := true, laidLooks := .later }
def FilesNilCardSaid : Prop := Claim7.holds Tryd.pinned (.plain (OpenSpec.ofChange filesNilSpec)) filesNilCard

/-- THE TIED CARD OF 'arbourlaw19.FilesGone'. -/
def filesGoneCard : Claim7 := { stood := { row := filesGoneRow, standIns := [], harness := (true, "05119225e106cd0b7953b07af1d1a4c175e84ffa1d89423231ce4a10f4445152"), looks := true }, kinds := [], alts := [], laidByText := true, laidKinds := [.data, .pinned], laidTests := true, laidLooks := .later }
def FilesGoneCardSaid : Prop := Claim7.holds Tryd.pinned (.plain (OpenSpec.ofChange filesGoneSpec)) filesGoneCard

/-- THE TIED CARD OF 'arbourlaw21.LayLeast'. -/
def layLeastCard : Claim7 := { stood := { row := layLeastRow, standIns := [], harness := (true, "05119225e106cd0b7953b07af1d1a4c175e84ffa1d89423231ce4a10f4445152"), looks := true }, kinds := [], alts := [], laidByText := true, laidKinds := [.data, .pinned], laidTests := true, laidLooks := .later }
def LayLeastCardSaid : Prop := Claim7.holds Tryd.pinned (.plain (OpenSpec.ofChange layLeastSpec)) layLeastCard

/-- THE TIED CARD OF 'arbourlaw20.ScanSame'. -/
def scanSameCard : Claim7 := { stood := { row := scanSameRow, standIns := [], harness := (true, "05119225e106cd0b7953b07af1d1a4c175e84ffa1d89423231ce4a10f4445152"), looks := true }, kinds := [], alts := [], laidByText := true, laidKinds := [.data, .pinned], laidTests := true, laidLooks := .later }
def ScanSameCardSaid : Prop := Claim7.holds Tryd.pinned (.plain (OpenSpec.ofChange scanSameSpec)) scanSameCard

/-- THE TIED CARD OF 'arbourlaw20.ScanMoved'. -/
def scanMovedCard : Claim7 := { stood := { row := scanMovedRow, standIns := [], harness := (true, "05119225e106cd0b7953b07af1d1a4c175e84ffa1d89423231ce4a10f4445152"), looks := true }, kinds := [], alts := [], laidByText := true, laidKinds := [.data, .pinned], laidTests := true, laidLooks := .later }
def ScanMovedCardSaid : Prop := Claim7.holds Tryd.pinned (.plain (OpenSpec.ofChange scanMovedSpec)) scanMovedCard

/-- THE TIED CARD OF 'arbourlaw20.ScanEdited'. -/
def scanEditedCard : Claim7 := { stood := { row := scanEditedRow, standIns := [], harness := (true, "05119225e106cd0b7953b07af1d1a4c175e84ffa1d89423231ce4a10f4445152"), looks := true }, kinds := [], alts := [], laidByText := true, laidKinds := [.data, .pinned], laidTests := true, laidLooks := .later }
def ScanEditedCardSaid : Prop := Claim7.holds Tryd.pinned (.plain (OpenSpec.ofChange scanEditedSpec)) scanEditedCard

/-- THE TIED CARD OF 'arbourlaw21.LayMakes'. -/
def layMakesCard : Claim7 := { stood := { row := layMakesRow, standIns := [], harness := (true, "05119225e106cd0b7953b07af1d1a4c175e84ffa1d89423231ce4a10f4445152"), looks := true }, kinds := [], alts := [], laidByText := true, laidKinds := [.data, .pinned], laidTests := true, laidLooks := .later }
def LayMakesCardSaid : Prop := Claim7.holds Tryd.pinned (.plain (OpenSpec.ofChange layMakesSpec)) layMakesCard

/-- THE SECOND FORM's CARD OF 'arbourlaw19.FilesPlays'. -/
def filesPlaysUptoCard : Claim7 := { stood := { row := filesPlaysUptoRow, standIns := [], harness := (true, "05119225e106cd0b7953b07af1d1a4c175e84ffa1d89423231ce4a10f4445152"), looks := true }, kinds := [], alts := [], laidByText := true, laidKinds := [.data, .pinned], laidTests := true, laidLooks := .later }
def FilesPlaysUptoCardSaid : Prop := Claim7.holds Tryd.pinned (.plain (OpenSpec.upto filesPlaysSpec)) filesPlaysUptoCard

/-- THE SECOND FORM's CARD OF 'arbourlaw19.FilesRight'. -/
def filesRightUptoCard : Claim7 := { stood := { row := filesRightUptoRow, standIns := [], harness := (true, "05119225e106cd0b7953b07af1d1a4c175e84ffa1d89423231ce4a10f4445152"), looks := true }, kinds := [], alts := [], laidByText := true, laidKinds := [.data, .pinned], laidTests := true, laidLooks := .later }
def FilesRightUptoCardSaid : Prop := Claim7.holds Tryd.pinned (.plain (OpenSpec.upto filesRightSpec)) filesRightUptoCard

/-- THE SECOND FORM's CARD OF 'arbourlaw19.FilesMoves'. -/
def filesMovesUptoCard : Claim7 := { stood := { row := filesMovesUptoRow, standIns := [], harness := (true, "05119225e106cd0b7953b07af1d1a4c175e84ffa1d89423231ce4a10f4445152"), looks := true }, kinds := [], alts := [], laidByText := true, laidKinds := [.data, .pinned], laidTests := true, laidLooks := .later }
def FilesMovesUptoCardSaid : Prop := Claim7.holds Tryd.pinned (.plain (OpenSpec.upto filesMovesSpec)) filesMovesUptoCard

/-- THE SECOND FORM's CARD OF 'arbourlaw19.FilesNil'. -/
def filesNilUptoCard : Claim7 := { stood := { row := filesNilUptoRow, standIns := [], harness := (true, "05119225e106cd0b7953b07af1d1a4c175e84ffa1d89423231ce4a10f4445152"), looks := true }, kinds := [], alts := [], laidByText := true, laidKinds := [.data, .pinned], laidTests := true, laidLooks := .later }
def FilesNilUptoCardSaid : Prop := Claim7.holds Tryd.pinned (.plain (OpenSpec.upto filesNilSpec)) filesNilUptoCard

/-- THE SECOND FORM's CARD OF 'arbourlaw19.FilesGone'. -/
def filesGoneUptoCard : Claim7 := { stood := { row := filesGoneUptoRow, standIns := [], harness := (true, "05119225e106cd0b7953b07af1d1a4c175e84ffa1d89423231ce4a10f4445152"), looks := true }, kinds := [], alts := [], laidByText := true, laidKinds := [.data, .pinned], laidTests := true, laidLooks := .later }
def FilesGoneUptoCardSaid : Prop := Claim7.holds Tryd.pinned (.plain (OpenSpec.upto filesGoneSpec)) filesGoneUptoCard

/-- THE SECOND FORM's CARD OF 'arbourlaw21.LayLeast'. -/
def layLeastUptoCard : Claim7 := { stood := { row := layLeastUptoRow, standIns := [], harness := (true, "05119225e106cd0b7953b07af1d1a4c175e84ffa1d89423231ce4a10f4445152"), looks := true }, kinds := [], alts := [], laidByText := true, laidKinds := [.data, .pinned], laidTests := true, laidLooks := .later }
def LayLeastUptoCardSaid : Prop := Claim7.holds Tryd.pinned (.plain (OpenSpec.upto layLeastSpec)) layLeastUptoCard

/-- THE SECOND FORM's CARD OF 'arbourlaw20.ScanSame'. -/
def scanSameUptoCard : Claim7 := { stood := { row := scanSameUptoRow, standIns := [], harness := (true, "05119225e106cd0b7953b07af1d1a4c175e84ffa1d89423231ce4a10f4445152"), looks := true }, kinds := [], alts := [], laidByText := true, laidKinds := [.data, .pinned], laidTests := true, laidLooks := .later }
def ScanSameUptoCardSaid : Prop := Claim7.holds Tryd.pinned (.plain (OpenSpec.upto scanSameSpec)) scanSameUptoCard

/-- THE SECOND FORM's CARD OF 'arbourlaw20.ScanMoved'. -/
def scanMovedUptoCard : Claim7 := { stood := { row := scanMovedUptoRow, standIns := [], harness := (true, "05119225e106cd0b7953b07af1d1a4c175e84ffa1d89423231ce4a10f4445152"), looks := true }, kinds := [], alts := [], laidByText := true, laidKinds := [.data, .pinned], laidTests := true, laidLooks := .later }
def ScanMovedUptoCardSaid : Prop := Claim7.holds Tryd.pinned (.plain (OpenSpec.upto scanMovedSpec)) scanMovedUptoCard

/-- THE SECOND FORM's CARD OF 'arbourlaw20.ScanEdited'. -/
def scanEditedUptoCard : Claim7 := { stood := { row := scanEditedUptoRow, standIns := [], harness := (true, "05119225e106cd0b7953b07af1d1a4c175e84ffa1d89423231ce4a10f4445152"), looks := true }, kinds := [], alts := [], laidByText := true, laidKinds := [.data, .pinned], laidTests := true, laidLooks := .later }
def ScanEditedUptoCardSaid : Prop := Claim7.holds Tryd.pinned (.plain (OpenSpec.upto scanEditedSpec)) scanEditedUptoCard

/-- THE SECOND FORM's CARD OF 'arbourlaw21.LayMakes'. -/
def layMakesUptoCard : Claim7 := { stood := { row := layMakesUptoRow, standIns := [], harness := (true, "05119225e106cd0b7953b07af1d1a4c175e84ffa1d89423231ce4a10f4445152"), looks := true }, kinds := [], alts := [], laidByText := true, laidKinds := [.data, .pinned], laidTests := true, laidLooks := .later }
def LayMakesUptoCardSaid : Prop := Claim7.holds Tryd.pinned (.plain (OpenSpec.upto layMakesSpec)) layMakesUptoCard
end Rows
end Go.Proofs.YtgjgeojhhglidaaDoor
