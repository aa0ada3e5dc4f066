/-
  NARROWER THAN 'FOR EVERY INPUT', by the rows' own cells (each row's printed sentence says how): GlobParses: laid · GlobPath: laid · GlobWithin: laid · GlobMatches: laid · GlobTurned: laid · GlobOver: laid · GlobPrints: laid · GlobBack: laid.
  DERIVED. THE GIVEN ROWS OF THIS SEAT. 8 by the template 'for every input the law returns true; each argument reads behind the call as it read before'; 0 by the template 'total and deterministic' (their statements: YtalkckalbmaghaaDoorTotals.lean).
  GIVEN WITH THE SEED: the statements are not yours to turn. If you find one false, say at which input.
  Laid BY PROGRAM, IN A SANDBOX (cutbox-rows.mjs): the forced cells as the released guide's own fill.sh prints them over the translation e11252899545ba9f… (all of the seat's roots in one cut). By AI agents, Wed Nov 11 2026. No macro, syntax, notation, axiom, sorry.
-/
import Derived.Test.YtalkckalbmaghaaDoorChecked
import GoSem.PinnedTables
import GoSem.Claim
import GoSem.ClaimJoined
import GoSem.ClaimMapViews
import Derived.JoinedTies
import Derived.KernelRfl
namespace Go.Proofs.YtalkckalbmaghaaDoor
/- THE CELL 'sum', in the pinned program and in every row, IS THE sha256 OF THE DUMP (.gsa) THAT YtalkckalbmaghaaDoorProg.lean LOADS. Nothing in Lean hashes anything: it is a label: what it is worth is what the hold of that sum in a sandbox is worth. -/
noncomputable def Tryd.pinned : Pinned := { name := "ytalkckalbmaghaadoor", sum := "e11252899545ba9f29493136114dc2d121b7297b2e9c0332f4f5ebf666a592f0", checked := Tryd.checked }
namespace Rows
def none {H : Type} : Left H := { results := [], args := [] }

/- WHAT THE LISTED PACKAGE-LEVEL VARIABLES READ AS WHEN THE CALL BEGINS. Each datum BY PROGRAM (the guide's laid-datum.mjs) off the statement by which the dump's own 'gosem.cut.vars' lays the variable. In a bare row this is a premise. The card (YtalkckalbmaghaaDoorCards.lean) ties it to the program's text. -/
def laid_unicode_utf8_acceptRanges {H : Type} : DataW H := .agg [.agg [.lit (.int .u8 128), .lit (.int .u8 191)], .agg [.lit (.int .u8 160), .lit (.int .u8 191)], .agg [.lit (.int .u8 128), .lit (.int .u8 159)], .agg [.lit (.int .u8 144), .lit (.int .u8 191)], .agg [.lit (.int .u8 128), .lit (.int .u8 143)], .agg [.lit (.int .u8 0), .lit (.int .u8 0)], .agg [.lit (.int .u8 0), .lit (.int .u8 0)], .agg [.lit (.int .u8 0), .lit (.int .u8 0)], .agg [.lit (.int .u8 0), .lit (.int .u8 0)], .agg [.lit (.int .u8 0), .lit (.int .u8 0)], .agg [.lit (.int .u8 0), .lit (.int .u8 0)], .agg [.lit (.int .u8 0), .lit (.int .u8 0)], .agg [.lit (.int .u8 0), .lit (.int .u8 0)], .agg [.lit (.int .u8 0), .lit (.int .u8 0)], .agg [.lit (.int .u8 0), .lit (.int .u8 0)], .agg [.lit (.int .u8 0), .lit (.int .u8 0)]]
/-- One of Go's own tables, pinned by name: the form's constant. -/
def laid_unicode_utf8_first : DataW Unit := Go.Pinned.utf8First

/-- 'arbourlaw09.GlobParses': WHATEVER THE INPUT: true; the input reads as it did. -/
def globParsesSpec : ChangeSpec := { name := "globParses", fn := fun _ => fun
  | [d] => { results := [.lit (.bool true)], args := [d] }
  | _ => none }
def globParsesRow : OpenClaim := { program := "ytalkckalbmaghaadoor", sum := "e11252899545ba9f29493136114dc2d121b7297b2e9c0332f4f5ebf666a592f0", func := "arbour/arbourlaw09.GlobParses", spec := "globParses", inPlace := ["internal/bytealg.CountString", "internal/bytealg.IndexByteString", "internal/bytealg.IndexString"], unfollowed := true, recurses := true, named := ["internal/bytealg.MaxLen", "unicode/utf8.first", "unicode/utf8.acceptRanges"], apart := false, laid := [("unicode/utf8.acceptRanges", laid_unicode_utf8_acceptRanges), ("unicode/utf8.first", laid_unicode_utf8_first)] }
def GlobParsesSaid : Prop := globParsesRow.holds Tryd.pinned (OpenSpec.ofChange globParsesSpec)

/-- ITS FALSE NEIGHBOUR: 'it returns false'. Refute it at one input. -/
def globParsesWrong : ChangeSpec := { name := "globParses", fn := fun _ => fun
  | [d] => { results := [.lit (.bool false)], args := [d] }
  | _ => none }
def GlobParsesWrongFalsely : Prop := globParsesRow.holds Tryd.pinned (OpenSpec.ofChange globParsesWrong)

/-- 'arbourlaw09.GlobPath': WHATEVER THE INPUT: true; the input reads as it did. -/
def globPathSpec : ChangeSpec := { name := "globPath", fn := fun _ => fun
  | [d] => { results := [.lit (.bool true)], args := [d] }
  | _ => none }
def globPathRow : OpenClaim := { program := "ytalkckalbmaghaadoor", sum := "e11252899545ba9f29493136114dc2d121b7297b2e9c0332f4f5ebf666a592f0", func := "arbour/arbourlaw09.GlobPath", spec := "globPath", inPlace := ["internal/bytealg.CountString", "internal/bytealg.IndexByteString", "internal/bytealg.IndexString"], unfollowed := true, recurses := true, named := ["unicode/utf8.first", "unicode/utf8.acceptRanges", "internal/bytealg.MaxLen"], apart := false, laid := [("unicode/utf8.acceptRanges", laid_unicode_utf8_acceptRanges), ("unicode/utf8.first", laid_unicode_utf8_first)] }
def GlobPathSaid : Prop := globPathRow.holds Tryd.pinned (OpenSpec.ofChange globPathSpec)

/-- ITS FALSE NEIGHBOUR: 'it returns false'. Refute it at one input. -/
def globPathWrong : ChangeSpec := { name := "globPath", fn := fun _ => fun
  | [d] => { results := [.lit (.bool false)], args := [d] }
  | _ => none }
def GlobPathWrongFalsely : Prop := globPathRow.holds Tryd.pinned (OpenSpec.ofChange globPathWrong)

/-- 'arbourlaw09.GlobWithin': WHATEVER THE INPUT: true; the input reads as it did. -/
def globWithinSpec : ChangeSpec := { name := "globWithin", fn := fun _ => fun
  | [d1, d2] => { results := [.lit (.bool true)], args := [d1, d2] }
  | _ => none }
def globWithinRow : OpenClaim := { program := "ytalkckalbmaghaadoor", sum := "e11252899545ba9f29493136114dc2d121b7297b2e9c0332f4f5ebf666a592f0", func := "arbour/arbourlaw09.GlobWithin", spec := "globWithin", inPlace := ["internal/bytealg.CountString", "internal/bytealg.IndexByteString", "internal/bytealg.IndexString"], unfollowed := true, recurses := true, named := ["internal/bytealg.MaxLen", "unicode/utf8.first", "unicode/utf8.acceptRanges"], apart := false, laid := [("unicode/utf8.acceptRanges", laid_unicode_utf8_acceptRanges), ("unicode/utf8.first", laid_unicode_utf8_first)] }
def GlobWithinSaid : Prop := globWithinRow.holds Tryd.pinned (OpenSpec.ofChange globWithinSpec)

/-- ITS FALSE NEIGHBOUR: 'it returns false'. Refute it at one input. -/
def globWithinWrong : ChangeSpec := { name := "globWithin", fn := fun _ => fun
  | [d1, d2] => { results := [.lit (.bool false)], args := [d1, d2] }
  | _ => none }
def GlobWithinWrongFalsely : Prop := globWithinRow.holds Tryd.pinned (OpenSpec.ofChange globWithinWrong)

/-- 'arbourlaw09.GlobMatches': WHATEVER THE INPUT: true; the input reads as it did. -/
def globMatchesSpec : ChangeSpec := { name := "globMatches", fn := fun _ => fun
  | [d1, d2, d3] => { results := [.lit (.bool true)], args := [d1, d2, d3] }
  | _ => none }
def globMatchesRow : OpenClaim := { program := "ytalkckalbmaghaadoor", sum := "e11252899545ba9f29493136114dc2d121b7297b2e9c0332f4f5ebf666a592f0", func := "arbour/arbourlaw09.GlobMatches", spec := "globMatches", inPlace := ["internal/bytealg.CountString", "internal/bytealg.IndexByteString", "internal/bytealg.IndexString"], unfollowed := true, recurses := true, named := ["internal/bytealg.MaxLen", "unicode/utf8.first", "unicode/utf8.acceptRanges"], apart := false, laid := [("unicode/utf8.acceptRanges", laid_unicode_utf8_acceptRanges), ("unicode/utf8.first", laid_unicode_utf8_first)] }
def GlobMatchesSaid : Prop := globMatchesRow.holds Tryd.pinned (OpenSpec.ofChange globMatchesSpec)

/-- ITS FALSE NEIGHBOUR: 'it returns false'. Refute it at one input. -/
def globMatchesWrong : ChangeSpec := { name := "globMatches", fn := fun _ => fun
  | [d1, d2, d3] => { results := [.lit (.bool false)], args := [d1, d2, d3] }
  | _ => none }
def GlobMatchesWrongFalsely : Prop := globMatchesRow.holds Tryd.pinned (OpenSpec.ofChange globMatchesWrong)

/-- 'arbourlaw09.GlobTurned': WHATEVER THE INPUT: true; the input reads as it did. -/
def globTurnedSpec : ChangeSpec := { name := "globTurned", fn := fun _ => fun
  | [d1, d2] => { results := [.lit (.bool true)], args := [d1, d2] }
  | _ => none }
def globTurnedRow : OpenClaim := { program := "ytalkckalbmaghaadoor", sum := "e11252899545ba9f29493136114dc2d121b7297b2e9c0332f4f5ebf666a592f0", func := "arbour/arbourlaw09.GlobTurned", spec := "globTurned", inPlace := ["internal/bytealg.CountString", "internal/bytealg.IndexByteString", "internal/bytealg.IndexString"], unfollowed := true, recurses := true, named := ["internal/bytealg.MaxLen", "unicode/utf8.first", "unicode/utf8.acceptRanges"], apart := false, laid := [("unicode/utf8.acceptRanges", laid_unicode_utf8_acceptRanges), ("unicode/utf8.first", laid_unicode_utf8_first)] }
def GlobTurnedSaid : Prop := globTurnedRow.holds Tryd.pinned (OpenSpec.ofChange globTurnedSpec)

/-- ITS FALSE NEIGHBOUR: 'it returns false'. Refute it at one input. -/
def globTurnedWrong : ChangeSpec := { name := "globTurned", fn := fun _ => fun
  | [d1, d2] => { results := [.lit (.bool false)], args := [d1, d2] }
  | _ => none }
def GlobTurnedWrongFalsely : Prop := globTurnedRow.holds Tryd.pinned (OpenSpec.ofChange globTurnedWrong)

/-- 'arbourlaw09.GlobOver': WHATEVER THE INPUT: true; the input reads as it did. -/
def globOverSpec : ChangeSpec := { name := "globOver", fn := fun _ => fun
  | [d1, d2, d3] => { results := [.lit (.bool true)], args := [d1, d2, d3] }
  | _ => none }
def globOverRow : OpenClaim := { program := "ytalkckalbmaghaadoor", sum := "e11252899545ba9f29493136114dc2d121b7297b2e9c0332f4f5ebf666a592f0", func := "arbour/arbourlaw09.GlobOver", spec := "globOver", inPlace := ["internal/bytealg.CountString", "internal/bytealg.IndexByteString", "internal/bytealg.IndexString"], unfollowed := true, recurses := true, named := ["internal/bytealg.MaxLen", "unicode/utf8.first", "unicode/utf8.acceptRanges"], apart := false, laid := [("unicode/utf8.acceptRanges", laid_unicode_utf8_acceptRanges), ("unicode/utf8.first", laid_unicode_utf8_first)] }
def GlobOverSaid : Prop := globOverRow.holds Tryd.pinned (OpenSpec.ofChange globOverSpec)

/-- ITS FALSE NEIGHBOUR: 'it returns false'. Refute it at one input. -/
def globOverWrong : ChangeSpec := { name := "globOver", fn := fun _ => fun
  | [d1, d2, d3] => { results := [.lit (.bool false)], args := [d1, d2, d3] }
  | _ => none }
def GlobOverWrongFalsely : Prop := globOverRow.holds Tryd.pinned (OpenSpec.ofChange globOverWrong)

/-- 'arbourlaw09.GlobPrints': WHATEVER THE INPUT: true; the input reads as it did. -/
def globPrintsSpec : ChangeSpec := { name := "globPrints", fn := fun _ => fun
  | [d] => { results := [.lit (.bool true)], args := [d] }
  | _ => none }
def globPrintsRow : OpenClaim := { program := "ytalkckalbmaghaadoor", sum := "e11252899545ba9f29493136114dc2d121b7297b2e9c0332f4f5ebf666a592f0", func := "arbour/arbourlaw09.GlobPrints", spec := "globPrints", inPlace := ["internal/bytealg.CountString", "internal/bytealg.IndexByteString", "internal/bytealg.IndexString", "internal/abi.NoEscape"], unfollowed := true, recurses := true, named := ["internal/bytealg.MaxLen", "unicode/utf8.first", "unicode/utf8.acceptRanges"], apart := false, laid := [("unicode/utf8.acceptRanges", laid_unicode_utf8_acceptRanges), ("unicode/utf8.first", laid_unicode_utf8_first)] }
def GlobPrintsSaid : Prop := globPrintsRow.holds Tryd.pinned (OpenSpec.ofChange globPrintsSpec)

/-- ITS FALSE NEIGHBOUR: 'it returns false'. Refute it at one input. -/
def globPrintsWrong : ChangeSpec := { name := "globPrints", fn := fun _ => fun
  | [d] => { results := [.lit (.bool false)], args := [d] }
  | _ => none }
def GlobPrintsWrongFalsely : Prop := globPrintsRow.holds Tryd.pinned (OpenSpec.ofChange globPrintsWrong)

/-- 'arbourlaw09.GlobBack': WHATEVER THE INPUT: true; the input reads as it did. -/
def globBackSpec : ChangeSpec := { name := "globBack", fn := fun _ => fun
  | [d1, d2] => { results := [.lit (.bool true)], args := [d1, d2] }
  | _ => none }
def globBackRow : OpenClaim := { program := "ytalkckalbmaghaadoor", sum := "e11252899545ba9f29493136114dc2d121b7297b2e9c0332f4f5ebf666a592f0", func := "arbour/arbourlaw09.GlobBack", spec := "globBack", inPlace := ["internal/bytealg.CountString", "internal/bytealg.IndexByteString", "internal/bytealg.IndexString", "internal/abi.NoEscape"], unfollowed := true, recurses := true, named := ["unicode/utf8.first", "unicode/utf8.acceptRanges", "internal/bytealg.MaxLen"], apart := false, laid := [("unicode/utf8.acceptRanges", laid_unicode_utf8_acceptRanges), ("unicode/utf8.first", laid_unicode_utf8_first)] }
def GlobBackSaid : Prop := globBackRow.holds Tryd.pinned (OpenSpec.ofChange globBackSpec)

/-- ITS FALSE NEIGHBOUR: 'it returns false'. Refute it at one input. -/
def globBackWrong : ChangeSpec := { name := "globBack", fn := fun _ => fun
  | [d1, d2] => { results := [.lit (.bool false)], args := [d1, d2] }
  | _ => none }
def GlobBackWrongFalsely : Prop := globBackRow.holds Tryd.pinned (OpenSpec.ofChange globBackWrong)

/- THE SECOND FORM. 'bulk': how many values and letters a reading holds, each counted each time it is reached (what is shared counts as often as it is met; a slice's spare places count too). A statement '..UptoSaid' is the law's where the arguments, and the package variables that the reading takes, are together of bulk at most 1048576: NARROWER than '..Said'. Prove '..Said' where nothing that the law and all that it calls make is longer than what came in: it says more and counts as full. Else prove '..UptoSaid'. A law counts once. -/
mutual
def uptoBulk {H : Type} : DataW H → Nat
  | .lit (.string bytes) => bytes.length + 1
  | .lit _ => 1
  | .nil => 1
  | .ptr d => uptoBulk d + 1
  | .slice elems spare => uptoBulkAll elems + uptoBulkAll spare + 1
  | .agg parts => uptoBulkAll parts + 1
  | .iface _ d => uptoBulk d + 1
  | .map entries => uptoBulkEntries entries + 1
  | .held _ => 1
def uptoBulkAll {H : Type} : List (DataW H) → Nat
  | [] => 0
  | d :: r => uptoBulk d + uptoBulkAll r
def uptoBulkEntries {H : Type} : List (Lit × DataW H) → Nat
  | [] => 0
  | x :: r => uptoBulkEntry x + uptoBulkEntries r
def uptoBulkEntry {H : Type} : Lit × DataW H → Nat
  | (.string bytes, d) => bytes.length + uptoBulk d + 1
  | (_, d) => uptoBulk d + 1
 end
def uptoSmall : (H : Type) → List (DataW H) → Bool := fun _ ds => decide (uptoBulkAll ds ≤ 1048576)
def OpenSpec.upto (s : _root_.Go.ChangeSpec) : _root_.Go.OpenSpec := { _root_.Go.OpenSpec.ofChange s with cond := some uptoSmall }

/-- 'arbourlaw09.GlobParses', WHERE WHAT IT READS IS OF BULK AT MOST 1048576: true; the input reads as it did. -/
def globParsesUptoRow : OpenClaim := { program := "ytalkckalbmaghaadoor", sum := "e11252899545ba9f29493136114dc2d121b7297b2e9c0332f4f5ebf666a592f0", func := "arbour/arbourlaw09.GlobParses", spec := "globParses", inPlace := ["internal/bytealg.CountString", "internal/bytealg.IndexByteString", "internal/bytealg.IndexString"], unfollowed := true, recurses := true, named := ["internal/bytealg.MaxLen", "unicode/utf8.first", "unicode/utf8.acceptRanges"], apart := false, laid := [("unicode/utf8.acceptRanges", laid_unicode_utf8_acceptRanges), ("unicode/utf8.first", laid_unicode_utf8_first)], narrowed := true }
def GlobParsesUptoSaid : Prop := globParsesUptoRow.holds Tryd.pinned (OpenSpec.upto globParsesSpec)

/-- 'arbourlaw09.GlobPath', WHERE WHAT IT READS IS OF BULK AT MOST 1048576: true; the input reads as it did. -/
def globPathUptoRow : OpenClaim := { program := "ytalkckalbmaghaadoor", sum := "e11252899545ba9f29493136114dc2d121b7297b2e9c0332f4f5ebf666a592f0", func := "arbour/arbourlaw09.GlobPath", spec := "globPath", inPlace := ["internal/bytealg.CountString", "internal/bytealg.IndexByteString", "internal/bytealg.IndexString"], unfollowed := true, recurses := true, named := ["unicode/utf8.first", "unicode/utf8.acceptRanges", "internal/bytealg.MaxLen"], apart := false, laid := [("unicode/utf8.acceptRanges", laid_unicode_utf8_acceptRanges), ("unicode/utf8.first", laid_unicode_utf8_first)], narrowed := true }
def GlobPathUptoSaid : Prop := globPathUptoRow.holds Tryd.pinned (OpenSpec.upto globPathSpec)

/-- 'arbourlaw09.GlobWithin', WHERE WHAT IT READS IS OF BULK AT MOST 1048576: true; the input reads as it did. -/
def globWithinUptoRow : OpenClaim := { program := "ytalkckalbmaghaadoor", sum := "e11252899545ba9f29493136114dc2d121b7297b2e9c0332f4f5ebf666a592f0", func := "arbour/arbourlaw09.GlobWithin", spec := "globWithin", inPlace := ["internal/bytealg.CountString", "internal/bytealg.IndexByteString", "internal/bytealg.IndexString"], unfollowed := true, recurses := true, named := ["internal/bytealg.MaxLen", "unicode/utf8.first", "unicode/utf8.acceptRanges"], apart := false, laid := [("unicode/utf8.acceptRanges", laid_unicode_utf8_acceptRanges), ("unicode/utf8.first", laid_unicode_utf8_first)], narrowed := true }
def GlobWithinUptoSaid : Prop := globWithinUptoRow.holds Tryd.pinned (OpenSpec.upto globWithinSpec)

/-- 'arbourlaw09.GlobMatches', WHERE WHAT IT READS IS OF BULK AT MOST 1048576: true; the input reads as it did. -/
def globMatchesUptoRow : OpenClaim := { program := "ytalkckalbmaghaadoor", sum := "e11252899545ba9f29493136114dc2d121b7297b2e9c0332f4f5ebf666a592f0", func := "arbour/arbourlaw09.GlobMatches", spec := "globMatches", inPlace := ["internal/bytealg.CountString", "internal/bytealg.IndexByteString", "internal/bytealg.IndexString"], unfollowed := true, recurses := true, named := ["internal/bytealg.MaxLen", "unicode/utf8.first", "unicode/utf8.acceptRanges"], apart := false, laid := [("unicode/utf8.acceptRanges", laid_unicode_utf8_acceptRanges), ("unicode/utf8.first", laid_unicode_utf8_first)], narrowed := true }
def GlobMatchesUptoSaid : Prop := globMatchesUptoRow.holds Tryd.pinned (OpenSpec.upto globMatchesSpec)

/-- 'arbourlaw09.GlobTurned', WHERE WHAT IT READS IS OF BULK AT MOST 1048576: true; the input reads as it did. -/
def globTurnedUptoRow : OpenClaim := { program := "ytalkckalbmaghaadoor", sum := "e11252899545ba9f29493136114dc2d121b7297b2e9c0332f4f5ebf666a592f0", func := "arbour/arbourlaw09.GlobTurned", spec := "globTurned", inPlace := ["internal/bytealg.CountString", "internal/bytealg.IndexByteString", "internal/bytealg.IndexString"], unfollowed := true, recurses := true, named := ["internal/bytealg.MaxLen", "unicode/utf8.first", "unicode/utf8.acceptRanges"], apart := false, laid := [("unicode/utf8.acceptRanges", laid_unicode_utf8_acceptRanges), ("unicode/utf8.first", laid_unicode_utf8_first)], narrowed := true }
def GlobTurnedUptoSaid : Prop := globTurnedUptoRow.holds Tryd.pinned (OpenSpec.upto globTurnedSpec)

/-- 'arbourlaw09.GlobOver', WHERE WHAT IT READS IS OF BULK AT MOST 1048576: true; the input reads as it did. -/
def globOverUptoRow : OpenClaim := { program := "ytalkckalbmaghaadoor", sum := "e11252899545ba9f29493136114dc2d121b7297b2e9c0332f4f5ebf666a592f0", func := "arbour/arbourlaw09.GlobOver", spec := "globOver", inPlace := ["internal/bytealg.CountString", "internal/bytealg.IndexByteString", "internal/bytealg.IndexString"], unfollowed := true, recurses := true, named := ["internal/bytealg.MaxLen", "unicode/utf8.first", "unicode/utf8.acceptRanges"], apart := false, laid := [("unicode/utf8.acceptRanges", laid_unicode_utf8_acceptRanges), ("unicode/utf8.first", laid_unicode_utf8_first)], narrowed := true }
def GlobOverUptoSaid : Prop := globOverUptoRow.holds Tryd.pinned (OpenSpec.upto globOverSpec)

/-- 'arbourlaw09.GlobPrints', WHERE WHAT IT READS IS OF BULK AT MOST 1048576: true; the input reads as it did. -/
def globPrintsUptoRow : OpenClaim := { program := "ytalkckalbmaghaadoor", sum := "e11252899545ba9f29493136114dc2d121b7297b2e9c0332f4f5ebf666a592f0", func := "arbour/arbourlaw09.GlobPrints", spec := "globPrints", inPlace := ["internal/bytealg.CountString", "internal/bytealg.IndexByteString", "internal/bytealg.IndexString", "internal/abi.NoEscape"], unfollowed := true, recurses := true, named := ["internal/bytealg.MaxLen", "unicode/utf8.first", "unicode/utf8.acceptRanges"], apart := false, laid := [("unicode/utf8.acceptRanges", laid_unicode_utf8_acceptRanges), ("unicode/utf8.first", laid_unicode_utf8_first)], narrowed := true }
def GlobPrintsUptoSaid : Prop := globPrintsUptoRow.holds Tryd.pinned (OpenSpec.upto globPrintsSpec)

/-- 'arbourlaw09.GlobBack', WHERE WHAT IT READS IS OF BULK AT MOST 1048576: true; the input reads as it did. -/
def globBackUptoRow : OpenClaim := { program := "ytalkckalbmaghaadoor", sum := "e11252899545ba9f29493136114dc2d121b7297b2e9c0332f4f5ebf666a592f0", func := "arbour/arbourlaw09.GlobBack", spec := "globBack", inPlace := ["internal/bytealg.CountString", "internal/bytealg.IndexByteString", "internal/bytealg.IndexString", "internal/abi.NoEscape"], unfollowed := true, recurses := true, named := ["unicode/utf8.first", "unicode/utf8.acceptRanges", "internal/bytealg.MaxLen"], apart := false, laid := [("unicode/utf8.acceptRanges", laid_unicode_utf8_acceptRanges), ("unicode/utf8.first", laid_unicode_utf8_first)], narrowed := true }
def GlobBackUptoSaid : Prop := globBackUptoRow.holds Tryd.pinned (OpenSpec.upto globBackSpec)

end Rows
end Go.Proofs.YtalkckalbmaghaaDoor
