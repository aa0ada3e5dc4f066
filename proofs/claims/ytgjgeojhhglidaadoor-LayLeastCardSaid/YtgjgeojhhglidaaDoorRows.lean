/-
  NARROWER THAN 'FOR EVERY INPUT', by the rows' own cells (each row's printed sentence says how): FilesPlays: laid · FilesRight: laid · FilesMoves: laid · FilesNil: laid · FilesGone: laid · LayLeast: laid · ScanSame: laid · ScanMoved: laid · ScanEdited: laid · LayMakes: laid.
  DERIVED. THE GIVEN ROWS OF THIS SEAT. 10 by the template 'for every input the law returns true; each argument reads behind the call as it read before'; 0 by the template 'total and deterministic' (their statements: YtgjgeojhhglidaaDoorTotals.lean).
  GIVEN WITH THE SEED: the statements are not yours to turn. If you find one false, say at which input.
  Laid BY PROGRAM, IN A SANDBOX (cutbox-rows.mjs): the forced cells as the released guide's own fill.sh prints them over the translation d1dc29d1f44c447b… (all of the seat's roots in one cut). By AI agents, Wed Nov 11 2026. No macro, syntax, notation, axiom, sorry.
-/
import Derived.Test.YtgjgeojhhglidaaDoorChecked
import GoSem.PinnedTables
import GoSem.Claim
import GoSem.ClaimJoined
import GoSem.ClaimMapViews
import Derived.JoinedTies
import Derived.KernelRfl
namespace Go.Proofs.YtgjgeojhhglidaaDoor
/- THE CELL 'sum', in the pinned program and in every row, IS THE sha256 OF THE DUMP (.gsa) THAT YtgjgeojhhglidaaDoorProg.lean LOADS. Nothing in Lean hashes anything: it is a label: what it is worth is what the hold of that sum in a sandbox is worth. -/
noncomputable def Tryd.pinned : Pinned := { name := "ytgjgeojhhglidaadoor", sum := "d1dc29d1f44c447bd51f04d8b962b61208209ec3d0b2ee34e7d33ed1998fd981", checked := Tryd.checked }
namespace Rows
def none {H : Type} : Left H := { results := [], args := [] }

/- WHAT THE LISTED PACKAGE-LEVEL VARIABLES READ AS WHEN THE CALL BEGINS. Each datum BY PROGRAM (the guide's laid-datum.mjs) off the statement by which the dump's own 'gosem.cut.vars' lays the variable. In a bare row this is a premise. The card (YtgjgeojhhglidaaDoorCards.lean) ties it to the program's text. -/
def laid_unicode_utf8_acceptRanges {H : Type} : DataW H := .agg [.agg [.lit (.int .u8 128), .lit (.int .u8 191)], .agg [.lit (.int .u8 160), .lit (.int .u8 191)], .agg [.lit (.int .u8 128), .lit (.int .u8 159)], .agg [.lit (.int .u8 144), .lit (.int .u8 191)], .agg [.lit (.int .u8 128), .lit (.int .u8 143)], .agg [.lit (.int .u8 0), .lit (.int .u8 0)], .agg [.lit (.int .u8 0), .lit (.int .u8 0)], .agg [.lit (.int .u8 0), .lit (.int .u8 0)], .agg [.lit (.int .u8 0), .lit (.int .u8 0)], .agg [.lit (.int .u8 0), .lit (.int .u8 0)], .agg [.lit (.int .u8 0), .lit (.int .u8 0)], .agg [.lit (.int .u8 0), .lit (.int .u8 0)], .agg [.lit (.int .u8 0), .lit (.int .u8 0)], .agg [.lit (.int .u8 0), .lit (.int .u8 0)], .agg [.lit (.int .u8 0), .lit (.int .u8 0)], .agg [.lit (.int .u8 0), .lit (.int .u8 0)]]
/-- One of Go's own tables, pinned by name: the form's constant. -/
def laid_unicode_utf8_first : DataW Unit := Go.Pinned.utf8First

/-- 'arbourlaw19.FilesPlays': WHATEVER THE INPUT: true; the input reads as it did. -/
def filesPlaysSpec : ChangeSpec := { name := "filesPlays", fn := fun _ => fun
  | [d] => { results := [.lit (.bool true)], args := [d] }
  | _ => none }
def filesPlaysRow : OpenClaim := { program := "ytgjgeojhhglidaadoor", sum := "d1dc29d1f44c447bd51f04d8b962b61208209ec3d0b2ee34e7d33ed1998fd981", func := "arbour/arbourlaw19.FilesPlays", spec := "filesPlays", inPlace := ["internal/bytealg.CountString", "internal/bytealg.IndexByteString", "internal/bytealg.IndexString", "maps.clone"], unfollowed := true, recurses := true, named := ["unicode/utf8.first", "unicode/utf8.acceptRanges", "internal/bytealg.MaxLen"], apart := false, laid := [("unicode/utf8.acceptRanges", laid_unicode_utf8_acceptRanges), ("unicode/utf8.first", laid_unicode_utf8_first)] }
def FilesPlaysSaid : Prop := filesPlaysRow.holds Tryd.pinned (OpenSpec.ofChange filesPlaysSpec)

/-- ITS FALSE NEIGHBOUR: 'it returns false'. Refute it at one input. -/
def filesPlaysWrong : ChangeSpec := { name := "filesPlays", fn := fun _ => fun
  | [d] => { results := [.lit (.bool false)], args := [d] }
  | _ => none }
def FilesPlaysWrongFalsely : Prop := filesPlaysRow.holds Tryd.pinned (OpenSpec.ofChange filesPlaysWrong)

/-- 'arbourlaw19.FilesRight': WHATEVER THE INPUT: true; the input reads as it did. -/
def filesRightSpec : ChangeSpec := { name := "filesRight", fn := fun _ => fun
  | [d] => { results := [.lit (.bool true)], args := [d] }
  | _ => none }
def filesRightRow : OpenClaim := { program := "ytgjgeojhhglidaadoor", sum := "d1dc29d1f44c447bd51f04d8b962b61208209ec3d0b2ee34e7d33ed1998fd981", func := "arbour/arbourlaw19.FilesRight", spec := "filesRight", inPlace := ["internal/bytealg.CountString", "internal/bytealg.IndexByteString", "internal/bytealg.IndexString", "maps.clone"], unfollowed := true, recurses := true, named := ["unicode/utf8.first", "unicode/utf8.acceptRanges", "internal/bytealg.MaxLen"], apart := false, laid := [("unicode/utf8.acceptRanges", laid_unicode_utf8_acceptRanges), ("unicode/utf8.first", laid_unicode_utf8_first)] }
def FilesRightSaid : Prop := filesRightRow.holds Tryd.pinned (OpenSpec.ofChange filesRightSpec)

/-- ITS FALSE NEIGHBOUR: 'it returns false'. Refute it at one input. -/
def filesRightWrong : ChangeSpec := { name := "filesRight", fn := fun _ => fun
  | [d] => { results := [.lit (.bool false)], args := [d] }
  | _ => none }
def FilesRightWrongFalsely : Prop := filesRightRow.holds Tryd.pinned (OpenSpec.ofChange filesRightWrong)

/-- 'arbourlaw19.FilesMoves': WHATEVER THE INPUT: true; the input reads as it did. -/
def filesMovesSpec : ChangeSpec := { name := "filesMoves", fn := fun _ => fun
  | [d1, d2, d3] => { results := [.lit (.bool true)], args := [d1, d2, d3] }
  | _ => none }
def filesMovesRow : OpenClaim := { program := "ytgjgeojhhglidaadoor", sum := "d1dc29d1f44c447bd51f04d8b962b61208209ec3d0b2ee34e7d33ed1998fd981", func := "arbour/arbourlaw19.FilesMoves", spec := "filesMoves", inPlace := ["internal/bytealg.CountString", "internal/bytealg.IndexByteString", "internal/bytealg.IndexString", "maps.clone"], unfollowed := true, recurses := true, named := ["unicode/utf8.first", "unicode/utf8.acceptRanges", "internal/bytealg.MaxLen"], apart := false, laid := [("unicode/utf8.acceptRanges", laid_unicode_utf8_acceptRanges), ("unicode/utf8.first", laid_unicode_utf8_first)] }
def FilesMovesSaid : Prop := filesMovesRow.holds Tryd.pinned (OpenSpec.ofChange filesMovesSpec)

/-- ITS FALSE NEIGHBOUR: 'it returns false'. Refute it at one input. -/
def filesMovesWrong : ChangeSpec := { name := "filesMoves", fn := fun _ => fun
  | [d1, d2, d3] => { results := [.lit (.bool false)], args := [d1, d2, d3] }
  | _ => none }
def FilesMovesWrongFalsely : Prop := filesMovesRow.holds Tryd.pinned (OpenSpec.ofChange filesMovesWrong)

/-- 'arbourlaw19.FilesNil': WHATEVER THE INPUT: true; the input reads as it did. -/
def filesNilSpec : ChangeSpec := { name := "filesNil", fn := fun _ => fun
  | [d] => { results := [.lit (.bool true)], args := [d] }
  | _ => none }
def filesNilRow : OpenClaim := { program := "ytgjgeojhhglidaadoor", sum := "d1dc29d1f44c447bd51f04d8b962b61208209ec3d0b2ee34e7d33ed1998fd981", func := "arbour/arbourlaw19.FilesNil", spec := "filesNil", inPlace := ["internal/bytealg.CountString", "internal/bytealg.IndexByteString", "internal/bytealg.IndexString", "maps.clone"], unfollowed := true, recurses := true, named := ["unicode/utf8.first", "unicode/utf8.acceptRanges", "internal/bytealg.MaxLen"], apart := false, laid := [("unicode/utf8.acceptRanges", laid_unicode_utf8_acceptRanges), ("unicode/utf8.first", laid_unicode_utf8_first)] }
def FilesNilSaid : Prop := filesNilRow.holds Tryd.pinned (OpenSpec.ofChange filesNilSpec)

/-- ITS FALSE NEIGHBOUR: 'it returns false'. Refute it at one input. -/
def filesNilWrong : ChangeSpec := { name := "filesNil", fn := fun _ => fun
  | [d] => { results := [.lit (.bool false)], args := [d] }
  | _ => none }
def FilesNilWrongFalsely : Prop := filesNilRow.holds Tryd.pinned (OpenSpec.ofChange filesNilWrong)

/-- 'arbourlaw19.FilesGone': WHATEVER THE INPUT: true; the input reads as it did. -/
def filesGoneSpec : ChangeSpec := { name := "filesGone", fn := fun _ => fun
  | [d1, d2] => { results := [.lit (.bool true)], args := [d1, d2] }
  | _ => none }
def filesGoneRow : OpenClaim := { program := "ytgjgeojhhglidaadoor", sum := "d1dc29d1f44c447bd51f04d8b962b61208209ec3d0b2ee34e7d33ed1998fd981", func := "arbour/arbourlaw19.FilesGone", spec := "filesGone", inPlace := ["internal/bytealg.CountString", "internal/bytealg.IndexByteString", "internal/bytealg.IndexString", "maps.clone"], unfollowed := true, recurses := true, named := ["unicode/utf8.first", "unicode/utf8.acceptRanges", "internal/bytealg.MaxLen"], apart := false, laid := [("unicode/utf8.acceptRanges", laid_unicode_utf8_acceptRanges), ("unicode/utf8.first", laid_unicode_utf8_first)] }
def FilesGoneSaid : Prop := filesGoneRow.holds Tryd.pinned (OpenSpec.ofChange filesGoneSpec)

/-- ITS FALSE NEIGHBOUR: 'it returns false'. Refute it at one input. -/
def filesGoneWrong : ChangeSpec := { name := "filesGone", fn := fun _ => fun
  | [d1, d2] => { results := [.lit (.bool false)], args := [d1, d2] }
  | _ => none }
def FilesGoneWrongFalsely : Prop := filesGoneRow.holds Tryd.pinned (OpenSpec.ofChange filesGoneWrong)

/-- 'arbourlaw21.LayLeast': WHATEVER THE INPUT: true; the input reads as it did. -/
def layLeastSpec : ChangeSpec := { name := "layLeast", fn := fun _ => fun
  | [d1, d2] => { results := [.lit (.bool true)], args := [d1, d2] }
  | _ => none }
def layLeastRow : OpenClaim := { program := "ytgjgeojhhglidaadoor", sum := "d1dc29d1f44c447bd51f04d8b962b61208209ec3d0b2ee34e7d33ed1998fd981", func := "arbour/arbourlaw21.LayLeast", spec := "layLeast", inPlace := ["internal/bytealg.CountString", "internal/bytealg.IndexByteString", "internal/bytealg.IndexString", "maps.clone"], unfollowed := true, recurses := true, named := ["unicode/utf8.first", "unicode/utf8.acceptRanges", "internal/bytealg.MaxLen"], apart := false, laid := [("unicode/utf8.acceptRanges", laid_unicode_utf8_acceptRanges), ("unicode/utf8.first", laid_unicode_utf8_first)] }
def LayLeastSaid : Prop := layLeastRow.holds Tryd.pinned (OpenSpec.ofChange layLeastSpec)

/-- ITS FALSE NEIGHBOUR: 'it returns false'. Refute it at one input. -/
def layLeastWrong : ChangeSpec := { name := "layLeast", fn := fun _ => fun
  | [d1, d2] => { results := [.lit (.bool false)], args := [d1, d2] }
  | _ => none }
def LayLeastWrongFalsely : Prop := layLeastRow.holds Tryd.pinned (OpenSpec.ofChange layLeastWrong)

/-- 'arbourlaw20.ScanSame': WHATEVER THE INPUT: true; the input reads as it did. -/
def scanSameSpec : ChangeSpec := { name := "scanSame", fn := fun _ => fun
  | [d1, d2] => { results := [.lit (.bool true)], args := [d1, d2] }
  | _ => none }
def scanSameRow : OpenClaim := { program := "ytgjgeojhhglidaadoor", sum := "d1dc29d1f44c447bd51f04d8b962b61208209ec3d0b2ee34e7d33ed1998fd981", func := "arbour/arbourlaw20.ScanSame", spec := "scanSame", inPlace := ["internal/bytealg.CountString", "internal/bytealg.IndexByteString", "internal/bytealg.IndexString", "maps.clone"], unfollowed := true, recurses := true, named := ["unicode/utf8.first", "unicode/utf8.acceptRanges", "internal/bytealg.MaxLen"], apart := false, laid := [("unicode/utf8.acceptRanges", laid_unicode_utf8_acceptRanges), ("unicode/utf8.first", laid_unicode_utf8_first)] }
def ScanSameSaid : Prop := scanSameRow.holds Tryd.pinned (OpenSpec.ofChange scanSameSpec)

/-- ITS FALSE NEIGHBOUR: 'it returns false'. Refute it at one input. -/
def scanSameWrong : ChangeSpec := { name := "scanSame", fn := fun _ => fun
  | [d1, d2] => { results := [.lit (.bool false)], args := [d1, d2] }
  | _ => none }
def ScanSameWrongFalsely : Prop := scanSameRow.holds Tryd.pinned (OpenSpec.ofChange scanSameWrong)

/-- 'arbourlaw20.ScanMoved': WHATEVER THE INPUT: true; the input reads as it did. -/
def scanMovedSpec : ChangeSpec := { name := "scanMoved", fn := fun _ => fun
  | [d1, d2, d3] => { results := [.lit (.bool true)], args := [d1, d2, d3] }
  | _ => none }
def scanMovedRow : OpenClaim := { program := "ytgjgeojhhglidaadoor", sum := "d1dc29d1f44c447bd51f04d8b962b61208209ec3d0b2ee34e7d33ed1998fd981", func := "arbour/arbourlaw20.ScanMoved", spec := "scanMoved", inPlace := ["internal/bytealg.CountString", "internal/bytealg.IndexByteString", "internal/bytealg.IndexString", "maps.clone"], unfollowed := true, recurses := true, named := ["unicode/utf8.first", "unicode/utf8.acceptRanges", "internal/bytealg.MaxLen"], apart := false, laid := [("unicode/utf8.acceptRanges", laid_unicode_utf8_acceptRanges), ("unicode/utf8.first", laid_unicode_utf8_first)] }
def ScanMovedSaid : Prop := scanMovedRow.holds Tryd.pinned (OpenSpec.ofChange scanMovedSpec)

/-- ITS FALSE NEIGHBOUR: 'it returns false'. Refute it at one input. -/
def scanMovedWrong : ChangeSpec := { name := "scanMoved", fn := fun _ => fun
  | [d1, d2, d3] => { results := [.lit (.bool false)], args := [d1, d2, d3] }
  | _ => none }
def ScanMovedWrongFalsely : Prop := scanMovedRow.holds Tryd.pinned (OpenSpec.ofChange scanMovedWrong)

/-- 'arbourlaw20.ScanEdited': WHATEVER THE INPUT: true; the input reads as it did. -/
def scanEditedSpec : ChangeSpec := { name := "scanEdited", fn := fun _ => fun
  | [d1, d2, d3] => { results := [.lit (.bool true)], args := [d1, d2, d3] }
  | _ => none }
def scanEditedRow : OpenClaim := { program := "ytgjgeojhhglidaadoor", sum := "d1dc29d1f44c447bd51f04d8b962b61208209ec3d0b2ee34e7d33ed1998fd981", func := "arbour/arbourlaw20.ScanEdited", spec := "scanEdited", inPlace := ["internal/bytealg.CountString", "internal/bytealg.IndexByteString", "internal/bytealg.IndexString", "maps.clone"], unfollowed := true, recurses := true, named := ["unicode/utf8.first", "unicode/utf8.acceptRanges", "internal/bytealg.MaxLen"], apart := false, laid := [("unicode/utf8.acceptRanges", laid_unicode_utf8_acceptRanges), ("unicode/utf8.first", laid_unicode_utf8_first)] }
def ScanEditedSaid : Prop := scanEditedRow.holds Tryd.pinned (OpenSpec.ofChange scanEditedSpec)

/-- ITS FALSE NEIGHBOUR: 'it returns false'. Refute it at one input. -/
def scanEditedWrong : ChangeSpec := { name := "scanEdited", fn := fun _ => fun
  | [d1, d2, d3] => { results := [.lit (.bool false)], args := [d1, d2, d3] }
  | _ => none }
def ScanEditedWrongFalsely : Prop := scanEditedRow.holds Tryd.pinned (OpenSpec.ofChange scanEditedWrong)

/-- 'arbourlaw21.LayMakes': WHATEVER THE INPUT: true; the input reads as it did. -/
def layMakesSpec : ChangeSpec := { name := "layMakes", fn := fun _ => fun
  | [d1, d2] => { results := [.lit (.bool true)], args := [d1, d2] }
  | _ => none }
def layMakesRow : OpenClaim := { program := "ytgjgeojhhglidaadoor", sum := "d1dc29d1f44c447bd51f04d8b962b61208209ec3d0b2ee34e7d33ed1998fd981", func := "arbour/arbourlaw21.LayMakes", spec := "layMakes", inPlace := ["internal/bytealg.CountString", "internal/bytealg.IndexByteString", "internal/bytealg.IndexString", "maps.clone"], unfollowed := true, recurses := true, named := ["unicode/utf8.first", "unicode/utf8.acceptRanges", "internal/bytealg.MaxLen"], apart := false, laid := [("unicode/utf8.acceptRanges", laid_unicode_utf8_acceptRanges), ("unicode/utf8.first", laid_unicode_utf8_first)] }
def LayMakesSaid : Prop := layMakesRow.holds Tryd.pinned (OpenSpec.ofChange layMakesSpec)

/-- ITS FALSE NEIGHBOUR: 'it returns false'. Refute it at one input. -/
def layMakesWrong : ChangeSpec := { name := "layMakes", fn := fun _ => fun
  | [d1, d2] => { results := [.lit (.bool false)], args := [d1, d2] }
  | _ => none }
def LayMakesWrongFalsely : Prop := layMakesRow.holds Tryd.pinned (OpenSpec.ofChange layMakesWrong)

/- THE SECOND FORM. 'bulk': how many values and letters a reading holds, each counted each time it is reached (what is shared counts as often as it is met; a slice's spare places count too). A statement '..UptoSaid' is the law's where the arguments, and the package variables that the reading takes, are together of bulk at most 1048576: NARROWER than '..Said'. Prove '..Said' where nothing that the law and all that it calls make is longer than what came in: it says more and counts as full. Else prove '..UptoSaid'. A law counts once. -/
mutual
def uptoBulk {H : Type} : DataW H → Nat
  | .lit (.string bytes) => bytes.length + 1
  | .lit _ => 1
  | .nil => 1
  | .ptr d => uptoBulk d + 1
  | .slice elems spare => uptoBulkAll elems + uptoBulkAll spare + 1
  | .agg parts => uptoBulkAll parts + 1
  | .iface _ d => uptoBulk d + 1
  | .map entries => uptoBulkEntries entries + 1
  | .held _ => 1
def uptoBulkAll {H : Type} : List (DataW H) → Nat
  | [] => 0
  | d :: r => uptoBulk d + uptoBulkAll r
def uptoBulkEntries {H : Type} : List (Lit × DataW H) → Nat
  | [] => 0
  | x :: r => uptoBulkEntry x + uptoBulkEntries r
def uptoBulkEntry {H : Type} : Lit × DataW H → Nat
  | (.string bytes, d) => bytes.length + uptoBulk d + 1
  | (_, d) => uptoBulk d + 1
 end
def uptoSmall : (H : Type) → List (DataW H) → Bool := fun _ ds => decide (uptoBulkAll ds ≤ 1048576)
def OpenSpec.upto (s : _root_.Go.ChangeSpec) : _root_.Go.OpenSpec := { _root_.Go.OpenSpec.ofChange s with cond := some uptoSmall }

/-- 'arbourlaw19.FilesPlays', WHERE WHAT IT READS IS OF BULK AT MOST 1048576: true; the input reads as it did. -/
def filesPlaysUptoRow : OpenClaim := { program := "ytgjgeojhhglidaadoor", sum := "d1dc29d1f44c447bd51f04d8b962b61208209ec3d0b2ee34e7d33ed1998fd981", func := "arbour/arbourlaw19.FilesPlays", spec := "filesPlays", inPlace := ["internal/bytealg.CountString", "internal/bytealg.IndexByteString", "internal/bytealg.IndexString", "maps.clone"], unfollowed := true, recurses := true, named := ["unicode/utf8.first", "unicode/utf8.acceptRanges", "internal/bytealg.MaxLen"], apart := false, laid := [("unicode/utf8.acceptRanges", laid_unicode_utf8_acceptRanges), ("unicode/utf8.first", laid_unicode_utf8_first)], narrowed := true }
def FilesPlaysUptoSaid : Prop := filesPlaysUptoRow.holds Tryd.pinned (OpenSpec.upto filesPlaysSpec)

/-- 'arbourlaw19.FilesRight', WHERE WHAT IT READS IS OF BULK AT MOST 1048576: true; the input reads as it did. -/
def filesRightUptoRow : OpenClaim := { program := "ytgjgeojhhglidaadoor", sum := "d1dc29d1f44c447bd51f04d8b962b61208209ec3d0b2ee34e7d33ed1998fd981", func := "arbour/arbourlaw19.FilesRight", spec := "filesRight", inPlace := ["internal/bytealg.CountString", "internal/bytealg.IndexByteString", "internal/bytealg.IndexString", "maps.clone"], unfollowed := true, recurses := true, named := ["unicode/utf8.first", "unicode/utf8.acceptRanges", "internal/bytealg.MaxLen"], apart := false, laid := [("unicode/utf8.acceptRanges", laid_unicode_utf8_acceptRanges), ("unicode/utf8.first", laid_unicode_utf8_first)], narrowed := true }
def FilesRightUptoSaid : Prop := filesRightUptoRow.holds Tryd.pinned (OpenSpec.upto filesRightSpec)

/-- 'arbourlaw19.FilesMoves', WHERE WHAT IT READS IS OF BULK AT MOST 1048576: true; the input reads as it did. -/
def filesMovesUptoRow : OpenClaim := { program := "ytgjgeojhhglidaadoor", sum := "d1dc29d1f44c447bd51f04d8b962b61208209ec3d0b2ee34e7d33ed1998fd981", func := "arbour/arbourlaw19.FilesMoves", spec := "filesMoves", inPlace := ["internal/bytealg.CountString", "internal/bytealg.IndexByteString", "internal/bytealg.IndexString", "maps.clone"], unfollowed := true, recurses := true, named := ["unicode/utf8.first", "unicode/utf8.acceptRanges", "internal/bytealg.MaxLen"], apart := false, laid := [("unicode/utf8.acceptRanges", laid_unicode_utf8_acceptRanges), ("unicode/utf8.first", laid_unicode_utf8_first)], narrowed := true }
def FilesMovesUptoSaid : Prop := filesMovesUptoRow.holds Tryd.pinned (OpenSpec.upto filesMovesSpec)

/-- 'arbourlaw19.FilesNil', WHERE WHAT IT READS IS OF BULK AT MOST 1048576: true; the input reads as it did. -/
def filesNilUptoRow : OpenClaim := { program := "ytgjgeojhhglidaadoor", sum := "d1dc29d1f44c447bd51f04d8b962b61208209ec3d0b2ee34e7d33ed1998fd981", func := "arbour/arbourlaw19.FilesNil", spec := "filesNil", inPlace := ["internal/bytealg.CountString", "internal/bytealg.IndexByteString", "internal/bytealg.IndexString", "maps.clone"], unfollowed := true, recurses := true, named := ["unicode/utf8.first", "unicode/utf8.acceptRanges", "internal/bytealg.MaxLen"], apart := false, laid := [("unicode/utf8.acceptRanges", laid_unicode_utf8_acceptRanges), ("unicode/utf8.first", laid_unicode_utf8_first)], narrowed := true }
def FilesNilUptoSaid : Prop := filesNilUptoRow.holds Tryd.pinned (OpenSpec.upto filesNilSpec)

/-- 'arbourlaw19.FilesGone', WHERE WHAT IT READS IS OF BULK AT MOST 1048576: true; the input reads as it did. -/
def filesGoneUptoRow : OpenClaim := { program := "ytgjgeojhhglidaadoor", sum := "d1dc29d1f44c447bd51f04d8b962b61208209ec3d0b2ee34e7d33ed1998fd981", func := "arbour/arbourlaw19.FilesGone", spec := "filesGone", inPlace := ["internal/bytealg.CountString", "internal/bytealg.IndexByteString", "internal/bytealg.IndexString", "maps.clone"], unfollowed := true, recurses := true, named := ["unicode/utf8.first", "unicode/utf8.acceptRanges", "internal/bytealg.MaxLen"], apart := false, laid := [("unicode/utf8.acceptRanges", laid_unicode_utf8_acceptRanges), ("unicode/utf8.first", laid_unicode_utf8_first)], narrowed := true }
def FilesGoneUptoSaid : Prop := filesGoneUptoRow.holds Tryd.pinned (OpenSpec.upto filesGoneSpec)

/-- 'arbourlaw21.LayLeast', WHERE WHAT IT READS IS OF BULK AT MOST 1048576: true; the input reads as it did. -/
def layLeastUptoRow : OpenClaim := { program := "ytgjgeojhhglidaadoor", sum := "d1dc29d1f44c447bd51f04d8b962b61208209ec3d0b2ee34e7d33ed1998fd981", func := "arbour/arbourlaw21.LayLeast", spec := "layLeast", inPlace := ["internal/bytealg.CountString", "internal/bytealg.IndexByteString", "internal/bytealg.IndexString", "maps.clone"], unfollowed := true, recurses := true, named := ["unicode/utf8.first", "unicode/utf8.acceptRanges", "internal/bytealg.MaxLen"], apart := false, laid := [("unicode/utf8.acceptRanges", laid_unicode_utf8_acceptRanges), ("unicode/utf8.first", laid_unicode_utf8_first)], narrowed := true }
def LayLeastUptoSaid : Prop := layLeastUptoRow.holds Tryd.pinned (OpenSpec.upto layLeastSpec)

/-- 'arbourlaw20.ScanSame', WHERE WHAT IT READS IS OF BULK AT MOST 1048576: true; the input reads as it did. -/
def scanSameUptoRow : OpenClaim := { program := "ytgjgeojhhglidaadoor", sum := "d1dc29d1f44c447bd51f04d8b962b61208209ec3d0b2ee34e7d33ed1998fd981", func := "arbour/arbourlaw20.ScanSame", spec := "scanSame", inPlace := ["internal/bytealg.CountString", "internal/bytealg.IndexByteString", "internal/bytealg.IndexString", "maps.clone"], unfollowed := true, recurses := true, named := ["unicode/utf8.first", "unicode/utf8.acceptRanges", "internal/bytealg.MaxLen"], apart := false, laid := [("unicode/utf8.acceptRanges", laid_unicode_utf8_acceptRanges), ("unicode/utf8.first", laid_unicode_utf8_first)], narrowed := true }
def ScanSameUptoSaid : Prop := scanSameUptoRow.holds Tryd.pinned (OpenSpec.upto scanSameSpec)

/-- 'arbourlaw20.ScanMoved', WHERE WHAT IT READS IS OF BULK AT MOST 1048576: true; the input reads as it did. -/
def scanMovedUptoRow : OpenClaim := { program := "ytgjgeojhhglidaadoor", sum := "d1dc29d1f44c447bd51f04d8b962b61208209ec3d0b2ee34e7d33ed1998fd981", func := "arbour/arbourlaw20.ScanMoved", spec := "scanMoved", inPlace := ["internal/bytealg.CountString", "internal/bytealg.IndexByteString", "internal/bytealg.IndexString", "maps.clone"], unfollowed := true, recurses := true, named := ["unicode/utf8.first", "unicode/utf8.acceptRanges", "internal/bytealg.MaxLen"], apart := false, laid := [("unicode/utf8.acceptRanges", laid_unicode_utf8_acceptRanges), ("unicode/utf8.first", laid_unicode_utf8_first)], narrowed := true }
def ScanMovedUptoSaid : Prop := scanMovedUptoRow.holds Tryd.pinned (OpenSpec.upto scanMovedSpec)

/-- 'arbourlaw20.ScanEdited', WHERE WHAT IT READS IS OF BULK AT MOST 1048576: true; the input reads as it did. -/
def scanEditedUptoRow : OpenClaim := { program := "ytgjgeojhhglidaadoor", sum := "d1dc29d1f44c447bd51f04d8b962b61208209ec3d0b2ee34e7d33ed1998fd981", func := "arbour/arbourlaw20.ScanEdited", spec := "scanEdited", inPlace := ["internal/bytealg.CountString", "internal/bytealg.IndexByteString", "internal/bytealg.IndexString", "maps.clone"], unfollowed := true, recurses := true, named := ["unicode/utf8.first", "unicode/utf8.acceptRanges", "internal/bytealg.MaxLen"], apart := false, laid := [("unicode/utf8.acceptRanges", laid_unicode_utf8_acceptRanges), ("unicode/utf8.first", laid_unicode_utf8_first)], narrowed := true }
def ScanEditedUptoSaid : Prop := scanEditedUptoRow.holds Tryd.pinned (OpenSpec.upto scanEditedSpec)

/-- 'arbourlaw21.LayMakes', WHERE WHAT IT READS IS OF BULK AT MOST 1048576: true; the input reads as it did. -/
def layMakesUptoRow : OpenClaim := { program := "ytgjgeojhhglidaadoor", sum := "d1dc29d1f44c447bd51f04d8b962b61208209ec3d0b2ee34e7d33ed1998fd981", func := "arbour/arbourlaw21.LayMakes", spec := "layMakes", inPlace := ["internal/bytealg.CountString", "internal/bytealg.IndexByteString", "internal/bytealg.IndexString", "maps.clone"], unfollowed := true, recurses := true, named := ["unicode/utf8.first", "unicode/utf8.acceptRanges", "internal/bytealg.MaxLen"], apart := false, laid := [("unicode/utf8.acceptRanges", laid_unicode_utf8_acceptRanges), ("unicode/utf8.first", laid_unicode_utf8_first)], narrowed := true }
def LayMakesUptoSaid : Prop := layMakesUptoRow.holds Tryd.pinned (OpenSpec.upto layMakesSpec)

end Rows
end Go.Proofs.YtgjgeojhhglidaaDoor
