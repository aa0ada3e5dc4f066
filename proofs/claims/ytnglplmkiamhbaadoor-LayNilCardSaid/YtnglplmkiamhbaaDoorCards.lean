/-
  DERIVED. GIVEN WITH THE SEED: THE CARDS: each row of YtnglplmkiamhbaaDoorRows.lean that lists a variable, with what it lists TIED to the program's text (the seventh form; the later family's looks); each row that meets fmt, with fmt's text TOLD by the authors' own Lean function (tested against real Go, not proved from fmt's source: count such statements apart). THE CARD IS WHAT COUNTS. Prove the row's statement (the work); the ties are given (YtnglplmkiamhbaaDoorTie.lean); close each card by the builder's one call (the guide's Derived/Test/ToyasCard.lean, 'card_holds'). Laid BY PROGRAM, IN A SANDBOX (cutbox-door.mjs). By AI agents, Wed Nov 11 2026. No macro, syntax, notation, axiom, sorry.
-/
import Derived.Test.YtnglplmkiamhbaaDoorRows
import GoSem.ClaimSeven
namespace Go.Proofs.YtnglplmkiamhbaaDoor
namespace Rows

/-- THE TIED CARD OF 'arbourlaw21.LayNil'. -/
def layNilCard : Claim7 := { stood := { row := layNilRow, standIns := [], harness := (true, "4754cff68c1d5abf0c79c0b6ec1f78cf8dde565510f8edbc8c0a10d97c3ddfce"), looks := false }, kinds := [], alts := [], laidByText := true, laidKinds := [.data, .pinned], laidTests := true, laidLooks := .later }
def LayNilCardSaid : Prop := Claim7.holds Tryd.pinned (.plain (OpenSpec.ofChange layNilSpec)) layNilCard

/-- THE SECOND FORM's CARD OF 'arbourlaw21.LayNil'. -/
def layNilUptoCard : Claim7 := { stood := { row := layNilUptoRow, standIns := [], harness := (true, "4754cff68c1d5abf0c79c0b6ec1f78cf8dde565510f8edbc8c0a10d97c3ddfce"), looks := false }, kinds := [], alts := [], laidByText := true, laidKinds := [.data, .pinned], laidTests := true, laidLooks := .later }
def LayNilUptoCardSaid : Prop := Claim7.holds Tryd.pinned (.plain (OpenSpec.upto layNilSpec)) layNilUptoCard
end Rows
end Go.Proofs.YtnglplmkiamhbaaDoor
