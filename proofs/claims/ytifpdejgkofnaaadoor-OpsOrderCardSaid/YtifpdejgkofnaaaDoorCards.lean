/-
  DERIVED. GIVEN WITH THE SEED: THE CARDS: each row of YtifpdejgkofnaaaDoorRows.lean that lists a variable, with what it lists TIED to the program's text (the seventh form; the later family's looks); each row that meets fmt, with fmt's text TOLD by the authors' own Lean function (tested against real Go, not proved from fmt's source: count such statements apart). THE CARD IS WHAT COUNTS. Prove the row's statement (the work); the ties are given (YtifpdejgkofnaaaDoorTie.lean); close each card by the builder's one call (the guide's Derived/Test/ToyasCard.lean, 'card_holds'). Laid BY PROGRAM, IN A SANDBOX (cutbox-door.mjs). By AI agents, Wed Nov 11 2026. No macro, syntax, notation, axiom, sorry.
-/
import Derived.Test.YtifpdejgkofnaaaDoorRows
import GoSem.ClaimSeven
namespace Go.Proofs.YtifpdejgkofnaaaDoor
namespace Rows

/-- THE TIED CARD OF 'arbourlaw06.OpsRight'. -/
def opsRightCard : Claim7 := { stood := { row := opsRightRow, standIns := [], harness := (true, "33df110a40a4ad19797be16ab73465ee9048c47472150363260a82d77da3e9a8"), looks := false }, kinds := [], alts := [], laidByText := true, laidKinds := [.data, .pinned], laidTests := true, laidLooks := .later }
def OpsRightCardSaid : Prop := Claim7.holds Tryd.pinned (.plain (OpenSpec.ofChange opsRightSpec)) opsRightCard

/-- THE TIED CARD OF 'arbourlaw06.OpsDecodes'. -/
def opsDecodesCard : Claim7 := { stood := { row := opsDecodesRow, standIns := [], harness := (true, "33df110a40a4ad19797be16ab73465ee9048c47472150363260a82d77da3e9a8"), looks := false }, kinds := [], alts := [], laidByText := true, laidKinds := [.data, .pinned], laidTests := true, laidLooks := .later }
def OpsDecodesCardSaid : Prop := Claim7.holds Tryd.pinned (.plain (OpenSpec.ofChange opsDecodesSpec)) opsDecodesCard

/-- THE TIED CARD OF 'arbourlaw06.OpsAdds'. -/
def opsAddsCard : Claim7 := { stood := { row := opsAddsRow, standIns := [], harness := (true, "33df110a40a4ad19797be16ab73465ee9048c47472150363260a82d77da3e9a8"), looks := false }, kinds := [], alts := [], laidByText := true, laidKinds := [.data, .pinned], laidTests := true, laidLooks := .later }
def OpsAddsCardSaid : Prop := Claim7.holds Tryd.pinned (.plain (OpenSpec.ofChange opsAddsSpec)) opsAddsCard

/-- THE TIED CARD OF 'arbourlaw06.OpsOrder'. -/
def opsOrderCard : Claim7 := { stood := { row := opsOrderRow, standIns := [], harness := (true, "33df110a40a4ad19797be16ab73465ee9048c47472150363260a82d77da3e9a8"), looks := false }, kinds := [], alts := [], laidByText := true, laidKinds := [.data, .pinned], laidTests := true, laidLooks := .later }
def OpsOrderCardSaid : Prop := Claim7.holds Tryd.pinned (.plain (OpenSpec.ofChange opsOrderSpec)) opsOrderCard

/-- THE TIED CARD OF 'arbourlaw06.OpsVector'. -/
def opsVectorCard : Claim7 := { stood := { row := opsVectorRow, standIns := [], harness := (true, "33df110a40a4ad19797be16ab73465ee9048c47472150363260a82d77da3e9a8"), looks := false }, kinds := [], alts := [], laidByText := true, laidKinds := [.data, .pinned], laidTests := true, laidLooks := .later }
def OpsVectorCardSaid : Prop := Claim7.holds Tryd.pinned (.plain (OpenSpec.ofChange opsVectorSpec)) opsVectorCard

/-- THE TIED CARD OF 'arbourlaw06.OpsSince'. -/
def opsSinceCard : Claim7 := { stood := { row := opsSinceRow, standIns := [], harness := (true, "33df110a40a4ad19797be16ab73465ee9048c47472150363260a82d77da3e9a8"), looks := false }, kinds := [], alts := [], laidByText := true, laidKinds := [.data, .pinned], laidTests := true, laidLooks := .later }
def OpsSinceCardSaid : Prop := Claim7.holds Tryd.pinned (.plain (OpenSpec.ofChange opsSinceSpec)) opsSinceCard

/-- THE TIED CARD OF 'arbourlaw06.OpsSets'. -/
def opsSetsCard : Claim7 := { stood := { row := opsSetsRow, standIns := [], harness := (true, "33df110a40a4ad19797be16ab73465ee9048c47472150363260a82d77da3e9a8"), looks := false }, kinds := [], alts := [], laidByText := true, laidKinds := [.data, .pinned], laidTests := true, laidLooks := .later }
def OpsSetsCardSaid : Prop := Claim7.holds Tryd.pinned (.plain (OpenSpec.ofChange opsSetsSpec)) opsSetsCard

/-- THE TIED CARD OF 'arbourlaw06.OpsEncodes'. -/
def opsEncodesCard : Claim7 := { stood := { row := opsEncodesRow, standIns := [], harness := (true, "33df110a40a4ad19797be16ab73465ee9048c47472150363260a82d77da3e9a8"), looks := false }, kinds := [], alts := [], laidByText := true, laidKinds := [.data, .pinned], laidTests := true, laidLooks := .later }
def OpsEncodesCardSaid : Prop := Claim7.holds Tryd.pinned (.plain (OpenSpec.ofChange opsEncodesSpec)) opsEncodesCard

/-- THE TIED CARD OF 'arbourlaw06.OpsBack'. -/
def opsBackCard : Claim7 := { stood := { row := opsBackRow, standIns := [], harness := (true, "33df110a40a4ad19797be16ab73465ee9048c47472150363260a82d77da3e9a8"), looks := false }, kinds := [], alts := [], laidByText := true, laidKinds := [.data, .pinned], laidTests := true, laidLooks := .later }
def OpsBackCardSaid : Prop := Claim7.holds Tryd.pinned (.plain (OpenSpec.ofChange opsBackSpec)) opsBackCard

/-- THE SECOND FORM's CARD OF 'arbourlaw06.OpsRight'. -/
def opsRightUptoCard : Claim7 := { stood := { row := opsRightUptoRow, standIns := [], harness := (true, "33df110a40a4ad19797be16ab73465ee9048c47472150363260a82d77da3e9a8"), looks := false }, kinds := [], alts := [], laidByText := true, laidKinds := [.data, .pinned], laidTests := true, laidLooks := .later }
def OpsRightUptoCardSaid : Prop := Claim7.holds Tryd.pinned (.plain (OpenSpec.upto opsRightSpec)) opsRightUptoCard

/-- THE SECOND FORM's CARD OF 'arbourlaw06.OpsDecodes'. -/
def opsDecodesUptoCard : Claim7 := { stood := { row := opsDecodesUptoRow, standIns := [], harness := (true, "33df110a40a4ad19797be16ab73465ee9048c47472150363260a82d77da3e9a8"), looks := false }, kinds := [], alts := [], laidByText := true, laidKinds := [.data, .pinned], laidTests := true, laidLooks := .later }
def OpsDecodesUptoCardSaid : Prop := Claim7.holds Tryd.pinned (.plain (OpenSpec.upto opsDecodesSpec)) opsDecodesUptoCard

/-- THE SECOND FORM's CARD OF 'arbourlaw06.OpsAdds'. -/
def opsAddsUptoCard : Claim7 := { stood := { row := opsAddsUptoRow, standIns := [], harness := (true, "33df110a40a4ad19797be16ab73465ee9048c47472150363260a82d77da3e9a8"), looks := false }, kinds := [], alts := [], laidByText := true, laidKinds := [.data, .pinned], laidTests := true, laidLooks := .later }
def OpsAddsUptoCardSaid : Prop := Claim7.holds Tryd.pinned (.plain (OpenSpec.upto opsAddsSpec)) opsAddsUptoCard

/-- THE SECOND FORM's CARD OF 'arbourlaw06.OpsOrder'. -/
def opsOrderUptoCard : Claim7 := { stood := { row := opsOrderUptoRow, standIns := [], harness := (true, "33df110a40a4ad19797be16ab73465ee9048c47472150363260a82d77da3e9a8"), looks := false }, kinds := [], alts := [], laidByText := true, laidKinds := [.data, .pinned], laidTests := true, laidLooks := .later }
def OpsOrderUptoCardSaid : Prop := Claim7.holds Tryd.pinned (.plain (OpenSpec.upto opsOrderSpec)) opsOrderUptoCard

/-- THE SECOND FORM's CARD OF 'arbourlaw06.OpsVector'. -/
def opsVectorUptoCard : Claim7 := { stood := { row := opsVectorUptoRow, standIns := [], harness := (true, "33df110a40a4ad19797be16ab73465ee9048c47472150363260a82d77da3e9a8"), looks := false }, kinds := [], alts := [], laidByText := true, laidKinds := [.data, .pinned], laidTests := true, laidLooks := .later }
def OpsVectorUptoCardSaid : Prop := Claim7.holds Tryd.pinned (.plain (OpenSpec.upto opsVectorSpec)) opsVectorUptoCard

/-- THE SECOND FORM's CARD OF 'arbourlaw06.OpsSince'. -/
def opsSinceUptoCard : Claim7 := { stood := { row := opsSinceUptoRow, standIns := [], harness := (true, "33df110a40a4ad19797be16ab73465ee9048c47472150363260a82d77da3e9a8"), looks := false }, kinds := [], alts := [], laidByText := true, laidKinds := [.data, .pinned], laidTests := true, laidLooks := .later }
def OpsSinceUptoCardSaid : Prop := Claim7.holds Tryd.pinned (.plain (OpenSpec.upto opsSinceSpec)) opsSinceUptoCard

/-- THE SECOND FORM's CARD OF 'arbourlaw06.OpsSets'. -/
def opsSetsUptoCard : Claim7 := { stood := { row := opsSetsUptoRow, standIns := [], harness := (true, "33df110a40a4ad19797be16ab73465ee9048c47472150363260a82d77da3e9a8"), looks := false }, kinds := [], alts := [], laidByText := true, laidKinds := [.data, .pinned], laidTests := true, laidLooks := .later }
def OpsSetsUptoCardSaid : Prop := Claim7.holds Tryd.pinned (.plain (OpenSpec.upto opsSetsSpec)) opsSetsUptoCard

/-- THE SECOND FORM's CARD OF 'arbourlaw06.OpsEncodes'. -/
def opsEncodesUptoCard : Claim7 := { stood := { row := opsEncodesUptoRow, standIns := [], harness := (true, "33df110a40a4ad19797be16ab73465ee9048c47472150363260a82d77da3e9a8"), looks := false }, kinds := [], alts := [], laidByText := true, laidKinds := [.data, .pinned], laidTests := true, laidLooks := .later }
def OpsEncodesUptoCardSaid : Prop := Claim7.holds Tryd.pinned (.plain (OpenSpec.upto opsEncodesSpec)) opsEncodesUptoCard

/-- THE SECOND FORM's CARD OF 'arbourlaw06.OpsBack'. -/
def opsBackUptoCard : Claim7 := { stood := { row := opsBackUptoRow, standIns := [], harness := (true, "33df110a40a4ad19797be16ab73465ee9048c47472150363260a82d77da3e9a8"), looks := false }, kinds := [], alts := [], laidByText := true, laidKinds := [.data, .pinned], laidTests := true, laidLooks := .later }
def OpsBackUptoCardSaid : Prop := Claim7.holds Tryd.pinned (.plain (OpenSpec.upto opsBackSpec)) opsBackUptoCard
end Rows
end Go.Proofs.YtifpdejgkofnaaaDoor
