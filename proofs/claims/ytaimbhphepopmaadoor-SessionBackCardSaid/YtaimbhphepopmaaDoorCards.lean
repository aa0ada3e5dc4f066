/-
  DERIVED. GIVEN WITH THE SEED: THE CARDS: each row of YtaimbhphepopmaaDoorRows.lean that lists a variable, with what it lists TIED to the program's text (the seventh form; the later family's looks); each row that meets fmt, with fmt's text TOLD by the authors' own Lean function (tested against real Go, not proved from fmt's source: count such statements apart). THE CARD IS WHAT COUNTS. Prove the row's statement (the work); the ties are given (YtaimbhphepopmaaDoorTie.lean); close each card by the builder's one call (the guide's Derived/Test/ToyasCard.lean, 'card_holds'). Laid BY PROGRAM, IN A SANDBOX (cutbox-door.mjs). By AI agents, Wed Nov 11 2026. No macro, syntax, notation, axiom, sorry.
-/
import Derived.Test.YtaimbhphepopmaaDoorRows
import GoSem.ClaimSeven
namespace Go.Proofs.YtaimbhphepopmaaDoor
namespace Rows

/-- THE TIED CARD OF 'arbourlaw23.SessionEncodes'. -/
def sessionEncodesCard : Claim7 := { stood := { row := sessionEncodesRow, standIns := [], harness := (true, "44bc215af4bc6172d1f15b0448b4d5f1935530dc6a8035d8d0d6182cdb9071d9"), looks := false }, kinds := [], alts := [], laidByText := true, laidKinds := [.data, .pinned], laidTests := true, laidLooks := .later }
def SessionEncodesCardSaid : Prop := Claim7.holds Tryd.pinned (.plain (OpenSpec.ofChange sessionEncodesSpec)) sessionEncodesCard

/-- THE TIED CARD OF 'arbourlaw23.SessionDecodes'. -/
def sessionDecodesCard : Claim7 := { stood := { row := sessionDecodesRow, standIns := [], harness := (true, "44bc215af4bc6172d1f15b0448b4d5f1935530dc6a8035d8d0d6182cdb9071d9"), looks := false }, kinds := [], alts := [], laidByText := true, laidKinds := [.data, .pinned], laidTests := true, laidLooks := .later }
def SessionDecodesCardSaid : Prop := Claim7.holds Tryd.pinned (.plain (OpenSpec.ofChange sessionDecodesSpec)) sessionDecodesCard

/-- THE TIED CARD OF 'arbourlaw23.SessionBack'. -/
def sessionBackCard : Claim7 := { stood := { row := sessionBackRow, standIns := [], harness := (true, "44bc215af4bc6172d1f15b0448b4d5f1935530dc6a8035d8d0d6182cdb9071d9"), looks := false }, kinds := [], alts := [], laidByText := true, laidKinds := [.data, .pinned], laidTests := true, laidLooks := .later }
def SessionBackCardSaid : Prop := Claim7.holds Tryd.pinned (.plain (OpenSpec.ofChange sessionBackSpec)) sessionBackCard

/-- THE SECOND FORM's CARD OF 'arbourlaw23.SessionEncodes'. -/
def sessionEncodesUptoCard : Claim7 := { stood := { row := sessionEncodesUptoRow, standIns := [], harness := (true, "44bc215af4bc6172d1f15b0448b4d5f1935530dc6a8035d8d0d6182cdb9071d9"), looks := false }, kinds := [], alts := [], laidByText := true, laidKinds := [.data, .pinned], laidTests := true, laidLooks := .later }
def SessionEncodesUptoCardSaid : Prop := Claim7.holds Tryd.pinned (.plain (OpenSpec.upto sessionEncodesSpec)) sessionEncodesUptoCard

/-- THE SECOND FORM's CARD OF 'arbourlaw23.SessionDecodes'. -/
def sessionDecodesUptoCard : Claim7 := { stood := { row := sessionDecodesUptoRow, standIns := [], harness := (true, "44bc215af4bc6172d1f15b0448b4d5f1935530dc6a8035d8d0d6182cdb9071d9"), looks := false }, kinds := [], alts := [], laidByText := true, laidKinds := [.data, .pinned], laidTests := true, laidLooks := .later }
def SessionDecodesUptoCardSaid : Prop := Claim7.holds Tryd.pinned (.plain (OpenSpec.upto sessionDecodesSpec)) sessionDecodesUptoCard

/-- THE SECOND FORM's CARD OF 'arbourlaw23.SessionBack'. -/
def sessionBackUptoCard : Claim7 := { stood := { row := sessionBackUptoRow, standIns := [], harness := (true, "44bc215af4bc6172d1f15b0448b4d5f1935530dc6a8035d8d0d6182cdb9071d9"), looks := false }, kinds := [], alts := [], laidByText := true, laidKinds := [.data, .pinned], laidTests := true, laidLooks := .later }
def SessionBackUptoCardSaid : Prop := Claim7.holds Tryd.pinned (.plain (OpenSpec.upto sessionBackSpec)) sessionBackUptoCard
end Rows
end Go.Proofs.YtaimbhphepopmaaDoor
