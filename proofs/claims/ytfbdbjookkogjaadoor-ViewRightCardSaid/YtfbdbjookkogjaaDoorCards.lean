/-
  DERIVED. GIVEN WITH THE SEED: THE CARDS: each row of YtfbdbjookkogjaaDoorRows.lean that lists a variable, with what it lists TIED to the program's text (the seventh form; the later family's looks); each row that meets fmt, with fmt's text TOLD by the authors' own Lean function (tested against real Go, not proved from fmt's source: count such statements apart). THE CARD IS WHAT COUNTS. Prove the row's statement (the work); the ties are given (YtfbdbjookkogjaaDoorTie.lean); close each card by the builder's one call (the guide's Derived/Test/ToyasCard.lean, 'card_holds'). Laid BY PROGRAM, IN A SANDBOX (cutbox-door.mjs). By AI agents, Wed Nov 11 2026. No macro, syntax, notation, axiom, sorry.
-/
import Derived.Test.YtfbdbjookkogjaaDoorRows
import GoSem.ClaimSeven
namespace Go.Proofs.YtfbdbjookkogjaaDoor
namespace Rows

/-- THE TIED CARD OF 'arbourlaw11.ViewShows'. -/
def viewShowsCard : Claim7 := { stood := { row := viewShowsRow, standIns := [], harness := (true, "43bef309926abea7f615ac53ad553efd2e71723c7ba03e938bc00d33edb872b3"), looks := false }, kinds := [], alts := [], laidByText := true, laidKinds := [.data, .data, .data, .data, .pinned], laidTests := true, laidLooks := .later }
def ViewShowsCardSaid : Prop := Claim7.holds Tryd.pinned (.plain (OpenSpec.ofChange viewShowsSpec)) viewShowsCard

/-- THE TIED CARD OF 'arbourlaw11.ViewAt'. -/
def viewAtCard : Claim7 := { stood := { row := viewAtRow, standIns := [], harness := (true, "43bef309926abea7f615ac53ad553efd2e71723c7ba03e938bc00d33edb872b3"), looks := false }, kinds := [], alts := [], laidByText := true, laidKinds := [.data, .data, .data, .data, .pinned], laidTests := true, laidLooks := .later }
def ViewAtCardSaid : Prop := Claim7.holds Tryd.pinned (.plain (OpenSpec.ofChange viewAtSpec)) viewAtCard

/-- THE TIED CARD OF 'arbourlaw11.ViewFinds'. -/
def viewFindsCard : Claim7 := { stood := { row := viewFindsRow, standIns := [], harness := (true, "43bef309926abea7f615ac53ad553efd2e71723c7ba03e938bc00d33edb872b3"), looks := false }, kinds := [], alts := [], laidByText := true, laidKinds := [.data, .data, .data, .data, .pinned], laidTests := true, laidLooks := .later }
def ViewFindsCardSaid : Prop := Claim7.holds Tryd.pinned (.plain (OpenSpec.ofChange viewFindsSpec)) viewFindsCard

/-- THE TIED CARD OF 'arbourlaw11.ViewNames'. -/
def viewNamesCard : Claim7 := { stood := { row := viewNamesRow, standIns := [], harness := (true, "43bef309926abea7f615ac53ad553efd2e71723c7ba03e938bc00d33edb872b3"), looks := false }, kinds := [], alts := [], laidByText := true, laidKinds := [.data, .data, .data, .data, .pinned], laidTests := true, laidLooks := .later }
def ViewNamesCardSaid : Prop := Claim7.holds Tryd.pinned (.plain (OpenSpec.ofChange viewNamesSpec)) viewNamesCard

/-- THE TIED CARD OF 'arbourlaw11.ViewRight'. -/
def viewRightCard : Claim7 := { stood := { row := viewRightRow, standIns := [], harness := (true, "43bef309926abea7f615ac53ad553efd2e71723c7ba03e938bc00d33edb872b3"), looks := false }, kinds := [], alts := [], laidByText := true, laidKinds := [.data, .data, .data, .data, .pinned], laidTests := true, laidLooks := .later }
def ViewRightCardSaid : Prop := Claim7.holds Tryd.pinned (.plain (OpenSpec.ofChange viewRightSpec)) viewRightCard

/-- THE TIED CARD OF 'arbourlaw12.ProjectAll'. -/
def projectAllCard : Claim7 := { stood := { row := projectAllRow, standIns := [], harness := (true, "43bef309926abea7f615ac53ad553efd2e71723c7ba03e938bc00d33edb872b3"), looks := false }, kinds := [], alts := [], laidByText := true, laidKinds := [.data, .data, .data, .data, .pinned], laidTests := true, laidLooks := .later }
def ProjectAllCardSaid : Prop := Claim7.holds Tryd.pinned (.plain (OpenSpec.ofChange projectAllSpec)) projectAllCard

/-- THE SECOND FORM's CARD OF 'arbourlaw11.ViewShows'. -/
def viewShowsUptoCard : Claim7 := { stood := { row := viewShowsUptoRow, standIns := [], harness := (true, "43bef309926abea7f615ac53ad553efd2e71723c7ba03e938bc00d33edb872b3"), looks := false }, kinds := [], alts := [], laidByText := true, laidKinds := [.data, .data, .data, .data, .pinned], laidTests := true, laidLooks := .later }
def ViewShowsUptoCardSaid : Prop := Claim7.holds Tryd.pinned (.plain (OpenSpec.upto viewShowsSpec)) viewShowsUptoCard

/-- THE SECOND FORM's CARD OF 'arbourlaw11.ViewAt'. -/
def viewAtUptoCard : Claim7 := { stood := { row := viewAtUptoRow, standIns := [], harness := (true, "43bef309926abea7f615ac53ad553efd2e71723c7ba03e938bc00d33edb872b3"), looks := false }, kinds := [], alts := [], laidByText := true, laidKinds := [.data, .data, .data, .data, .pinned], laidTests := true, laidLooks := .later }
def ViewAtUptoCardSaid : Prop := Claim7.holds Tryd.pinned (.plain (OpenSpec.upto viewAtSpec)) viewAtUptoCard

/-- THE SECOND FORM's CARD OF 'arbourlaw11.ViewFinds'. -/
def viewFindsUptoCard : Claim7 := { stood := { row := viewFindsUptoRow, standIns := [], harness := (true, "43bef309926abea7f615ac53ad553efd2e71723c7ba03e938bc00d33edb872b3"), looks := false }, kinds := [], alts := [], laidByText := true, laidKinds := [.data, .data, .data, .data, .pinned], laidTests := true, laidLooks := .later }
def ViewFindsUptoCardSaid : Prop := Claim7.holds Tryd.pinned (.plain (OpenSpec.upto viewFindsSpec)) viewFindsUptoCard

/-- THE SECOND FORM's CARD OF 'arbourlaw11.ViewNames'. -/
def viewNamesUptoCard : Claim7 := { stood := { row := viewNamesUptoRow, standIns := [], harness := (true, "43bef309926abea7f615ac53ad553efd2e71723c7ba03e938bc00d33edb872b3"), looks := false }, kinds := [], alts := [], laidByText := true, laidKinds := [.data, .data, .data, .data, .pinned], laidTests := true, laidLooks := .later }
def ViewNamesUptoCardSaid : Prop := Claim7.holds Tryd.pinned (.plain (OpenSpec.upto viewNamesSpec)) viewNamesUptoCard

/-- THE SECOND FORM's CARD OF 'arbourlaw11.ViewRight'. -/
def viewRightUptoCard : Claim7 := { stood := { row := viewRightUptoRow, standIns := [], harness := (true, "43bef309926abea7f615ac53ad553efd2e71723c7ba03e938bc00d33edb872b3"), looks := false }, kinds := [], alts := [], laidByText := true, laidKinds := [.data, .data, .data, .data, .pinned], laidTests := true, laidLooks := .later }
def ViewRightUptoCardSaid : Prop := Claim7.holds Tryd.pinned (.plain (OpenSpec.upto viewRightSpec)) viewRightUptoCard

/-- THE SECOND FORM's CARD OF 'arbourlaw12.ProjectAll'. -/
def projectAllUptoCard : Claim7 := { stood := { row := projectAllUptoRow, standIns := [], harness := (true, "43bef309926abea7f615ac53ad553efd2e71723c7ba03e938bc00d33edb872b3"), looks := false }, kinds := [], alts := [], laidByText := true, laidKinds := [.data, .data, .data, .data, .pinned], laidTests := true, laidLooks := .later }
def ProjectAllUptoCardSaid : Prop := Claim7.holds Tryd.pinned (.plain (OpenSpec.upto projectAllSpec)) projectAllUptoCard
end Rows
end Go.Proofs.YtfbdbjookkogjaaDoor
