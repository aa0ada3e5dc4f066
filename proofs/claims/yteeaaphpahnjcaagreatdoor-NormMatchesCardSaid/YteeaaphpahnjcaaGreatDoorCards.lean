/-
  DERIVED. GIVEN WITH THE SEED: THE CARDS: each row of YteeaaphpahnjcaaGreatDoorRows.lean that lists a variable, with what it lists TIED to the program's text (the seventh form; the later family's looks); each row that meets fmt, with fmt's text TOLD by the authors' own Lean function (tested against real Go, not proved from fmt's source: count such statements apart). THE CARD IS WHAT COUNTS. Prove the row's statement (the work); the ties are given (YteeaaphpahnjcaaGreatDoorTie.lean); close each card by the builder's one call (the guide's Derived/Test/ToyasCard.lean, 'card_holds'). Laid BY PROGRAM, IN A SANDBOX (cutbox-door.mjs). By AI agents, Wed Nov 11 2026. No macro, syntax, notation, axiom, sorry.
-/
import Derived.Test.YteeaaphpahnjcaaGreatDoorRows
import GoSem.ClaimSeven
namespace Go.Proofs.YteeaaphpahnjcaaGreatDoor
namespace Rows

/-- THE TIED CARD OF 'arbourlaw10.NormMatches'. -/
def normMatchesCard : Claim7 := { stood := { row := normMatchesRow, standIns := [], harness := (true, "c2c5904f9290a33e75a8d88776ca2283efefb404793ca7140640b3792453e238"), looks := false }, kinds := [], alts := [], laidByText := true, laidKinds := [.data, .pinned], laidTests := true, laidLooks := .later }
def NormMatchesCardSaid : Prop := Claim7.holds Tryz.pinned (.plain (OpenSpec.ofChange normMatchesSpec)) normMatchesCard

/-- THE TIED CARD OF 'arbourlaw10.NormLeast'. -/
def normLeastCard : Claim7 := { stood := { row := normLeastRow, standIns := [], harness := (true, "c2c5904f9290a33e75a8d88776ca2283efefb404793ca7140640b3792453e238"), looks := false }, kinds := [], alts := [], laidByText := true, laidKinds := [.data, .pinned], laidTests := true, laidLooks := .later }
def NormLeastCardSaid : Prop := Claim7.holds Tryz.pinned (.plain (OpenSpec.ofChange normLeastSpec)) normLeastCard

/-- THE SECOND FORM's CARD OF 'arbourlaw10.NormMatches'. -/
def normMatchesUptoCard : Claim7 := { stood := { row := normMatchesUptoRow, standIns := [], harness := (true, "c2c5904f9290a33e75a8d88776ca2283efefb404793ca7140640b3792453e238"), looks := false }, kinds := [], alts := [], laidByText := true, laidKinds := [.data, .pinned], laidTests := true, laidLooks := .later }
def NormMatchesUptoCardSaid : Prop := Claim7.holds Tryz.pinned (.plain (OpenSpec.upto normMatchesSpec)) normMatchesUptoCard

/-- THE SECOND FORM's CARD OF 'arbourlaw10.NormLeast'. -/
def normLeastUptoCard : Claim7 := { stood := { row := normLeastUptoRow, standIns := [], harness := (true, "c2c5904f9290a33e75a8d88776ca2283efefb404793ca7140640b3792453e238"), looks := false }, kinds := [], alts := [], laidByText := true, laidKinds := [.data, .pinned], laidTests := true, laidLooks := .later }
def NormLeastUptoCardSaid : Prop := Claim7.holds Tryz.pinned (.plain (OpenSpec.upto normLeastSpec)) normLeastUptoCard
end Rows
end Go.Proofs.YteeaaphpahnjcaaGreatDoor
