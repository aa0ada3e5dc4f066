/-
  NARROWER THAN 'FOR EVERY INPUT', by the rows' own cells (each row's printed sentence says how): OpsRight: laid · OpsDecodes: laid · OpsAdds: laid · OpsOrder: laid · OpsVector: laid · OpsSince: laid · OpsSets: laid · OpsEncodes: laid · OpsBack: laid.
  DERIVED. THE GIVEN ROWS OF THIS SEAT. 9 by the template 'for every input the law returns true; each argument reads behind the call as it read before'; 0 by the template 'total and deterministic' (their statements: YtifpdejgkofnaaaDoorTotals.lean).
  GIVEN WITH THE SEED: the statements are not yours to turn. If you find one false, say at which input.
  Laid BY PROGRAM, IN A SANDBOX (cutbox-rows.mjs): the forced cells as the released guide's own fill.sh prints them over the translation 3b857087f80da34d… (all of the seat's roots in one cut). By AI agents, Wed Nov 11 2026. No macro, syntax, notation, axiom, sorry.
-/
import Derived.Test.YtifpdejgkofnaaaDoorChecked
import GoSem.PinnedTables
import GoSem.Claim
import GoSem.ClaimJoined
import GoSem.ClaimMapViews
import Derived.JoinedTies
import Derived.KernelRfl
namespace Go.Proofs.YtifpdejgkofnaaaDoor
/- THE CELL 'sum', in the pinned program and in every row, IS THE sha256 OF THE DUMP (.gsa) THAT YtifpdejgkofnaaaDoorProg.lean LOADS. Nothing in Lean hashes anything: it is a label: what it is worth is what the hold of that sum in a sandbox is worth. -/
noncomputable def Tryd.pinned : Pinned := { name := "ytifpdejgkofnaaadoor", sum := "3b857087f80da34dbe9c8eeb53610c3fd5038243066f8a570f4854b67588cc49", checked := Tryd.checked }
namespace Rows
def none {H : Type} : Left H := { results := [], args := [] }

/- WHAT THE LISTED PACKAGE-LEVEL VARIABLES READ AS WHEN THE CALL BEGINS. Each datum BY PROGRAM (the guide's laid-datum.mjs) off the statement by which the dump's own 'gosem.cut.vars' lays the variable. In a bare row this is a premise. The card (YtifpdejgkofnaaaDoorCards.lean) ties it to the program's text. -/
def laid_unicode_utf8_acceptRanges {H : Type} : DataW H := .agg [.agg [.lit (.int .u8 128), .lit (.int .u8 191)], .agg [.lit (.int .u8 160), .lit (.int .u8 191)], .agg [.lit (.int .u8 128), .lit (.int .u8 159)], .agg [.lit (.int .u8 144), .lit (.int .u8 191)], .agg [.lit (.int .u8 128), .lit (.int .u8 143)], .agg [.lit (.int .u8 0), .lit (.int .u8 0)], .agg [.lit (.int .u8 0), .lit (.int .u8 0)], .agg [.lit (.int .u8 0), .lit (.int .u8 0)], .agg [.lit (.int .u8 0), .lit (.int .u8 0)], .agg [.lit (.int .u8 0), .lit (.int .u8 0)], .agg [.lit (.int .u8 0), .lit (.int .u8 0)], .agg [.lit (.int .u8 0), .lit (.int .u8 0)], .agg [.lit (.int .u8 0), .lit (.int .u8 0)], .agg [.lit (.int .u8 0), .lit (.int .u8 0)], .agg [.lit (.int .u8 0), .lit (.int .u8 0)], .agg [.lit (.int .u8 0), .lit (.int .u8 0)]]
/-- One of Go's own tables, pinned by name: the form's constant. -/
def laid_unicode_utf8_first : DataW Unit := Go.Pinned.utf8First

/-- 'arbourlaw06.OpsRight': WHATEVER THE INPUT: true; the input reads as it did. -/
def opsRightSpec : ChangeSpec := { name := "opsRight", fn := fun _ => fun
  | [d] => { results := [.lit (.bool true)], args := [d] }
  | _ => none }
def opsRightRow : OpenClaim := { program := "ytifpdejgkofnaaadoor", sum := "3b857087f80da34dbe9c8eeb53610c3fd5038243066f8a570f4854b67588cc49", func := "arbour/arbourlaw06.OpsRight", spec := "opsRight", inPlace := ["internal/bytealg.IndexByteString", "internal/bytealg.IndexString", "slices.overlaps[arbour/api.Op]"], unfollowed := true, recurses := true, named := ["unicode/utf8.first", "unicode/utf8.acceptRanges", "internal/bytealg.MaxLen"], plainKeys := false, apart := false, laid := [("unicode/utf8.acceptRanges", laid_unicode_utf8_acceptRanges), ("unicode/utf8.first", laid_unicode_utf8_first)] }
def OpsRightSaid : Prop := opsRightRow.holds Tryd.pinned (OpenSpec.ofChange opsRightSpec)

/-- ITS FALSE NEIGHBOUR: 'it returns false'. Refute it at one input. -/
def opsRightWrong : ChangeSpec := { name := "opsRight", fn := fun _ => fun
  | [d] => { results := [.lit (.bool false)], args := [d] }
  | _ => none }
def OpsRightWrongFalsely : Prop := opsRightRow.holds Tryd.pinned (OpenSpec.ofChange opsRightWrong)

/-- 'arbourlaw06.OpsDecodes': WHATEVER THE INPUT: true; the input reads as it did. -/
def opsDecodesSpec : ChangeSpec := { name := "opsDecodes", fn := fun _ => fun
  | [d] => { results := [.lit (.bool true)], args := [d] }
  | _ => none }
def opsDecodesRow : OpenClaim := { program := "ytifpdejgkofnaaadoor", sum := "3b857087f80da34dbe9c8eeb53610c3fd5038243066f8a570f4854b67588cc49", func := "arbour/arbourlaw06.OpsDecodes", spec := "opsDecodes", inPlace := ["internal/bytealg.IndexByteString", "internal/bytealg.IndexString", "slices.overlaps[arbour/api.Op]"], unfollowed := true, recurses := true, named := ["unicode/utf8.first", "unicode/utf8.acceptRanges", "internal/bytealg.MaxLen"], plainKeys := false, apart := false, laid := [("unicode/utf8.acceptRanges", laid_unicode_utf8_acceptRanges), ("unicode/utf8.first", laid_unicode_utf8_first)] }
def OpsDecodesSaid : Prop := opsDecodesRow.holds Tryd.pinned (OpenSpec.ofChange opsDecodesSpec)

/-- ITS FALSE NEIGHBOUR: 'it returns false'. Refute it at one input. -/
def opsDecodesWrong : ChangeSpec := { name := "opsDecodes", fn := fun _ => fun
  | [d] => { results := [.lit (.bool false)], args := [d] }
  | _ => none }
def OpsDecodesWrongFalsely : Prop := opsDecodesRow.holds Tryd.pinned (OpenSpec.ofChange opsDecodesWrong)

/-- 'arbourlaw06.OpsAdds': WHATEVER THE INPUT: true; the input reads as it did. -/
def opsAddsSpec : ChangeSpec := { name := "opsAdds", fn := fun _ => fun
  | [d1, d2] => { results := [.lit (.bool true)], args := [d1, d2] }
  | _ => none }
def opsAddsRow : OpenClaim := { program := "ytifpdejgkofnaaadoor", sum := "3b857087f80da34dbe9c8eeb53610c3fd5038243066f8a570f4854b67588cc49", func := "arbour/arbourlaw06.OpsAdds", spec := "opsAdds", inPlace := ["internal/bytealg.IndexByteString", "internal/bytealg.IndexString", "slices.overlaps[arbour/api.Op]"], unfollowed := true, recurses := true, named := ["unicode/utf8.first", "unicode/utf8.acceptRanges", "internal/bytealg.MaxLen"], plainKeys := false, apart := false, laid := [("unicode/utf8.acceptRanges", laid_unicode_utf8_acceptRanges), ("unicode/utf8.first", laid_unicode_utf8_first)] }
def OpsAddsSaid : Prop := opsAddsRow.holds Tryd.pinned (OpenSpec.ofChange opsAddsSpec)

/-- ITS FALSE NEIGHBOUR: 'it returns false'. Refute it at one input. -/
def opsAddsWrong : ChangeSpec := { name := "opsAdds", fn := fun _ => fun
  | [d1, d2] => { results := [.lit (.bool false)], args := [d1, d2] }
  | _ => none }
def OpsAddsWrongFalsely : Prop := opsAddsRow.holds Tryd.pinned (OpenSpec.ofChange opsAddsWrong)

/-- 'arbourlaw06.OpsOrder': WHATEVER THE INPUT: true; the input reads as it did. -/
def opsOrderSpec : ChangeSpec := { name := "opsOrder", fn := fun _ => fun
  | [d1, d2] => { results := [.lit (.bool true)], args := [d1, d2] }
  | _ => none }
def opsOrderRow : OpenClaim := { program := "ytifpdejgkofnaaadoor", sum := "3b857087f80da34dbe9c8eeb53610c3fd5038243066f8a570f4854b67588cc49", func := "arbour/arbourlaw06.OpsOrder", spec := "opsOrder", inPlace := ["internal/bytealg.IndexByteString", "internal/bytealg.IndexString", "slices.overlaps[arbour/api.Op]"], unfollowed := true, recurses := true, named := ["unicode/utf8.first", "unicode/utf8.acceptRanges", "internal/bytealg.MaxLen"], plainKeys := false, apart := false, laid := [("unicode/utf8.acceptRanges", laid_unicode_utf8_acceptRanges), ("unicode/utf8.first", laid_unicode_utf8_first)] }
def OpsOrderSaid : Prop := opsOrderRow.holds Tryd.pinned (OpenSpec.ofChange opsOrderSpec)

/-- ITS FALSE NEIGHBOUR: 'it returns false'. Refute it at one input. -/
def opsOrderWrong : ChangeSpec := { name := "opsOrder", fn := fun _ => fun
  | [d1, d2] => { results := [.lit (.bool false)], args := [d1, d2] }
  | _ => none }
def OpsOrderWrongFalsely : Prop := opsOrderRow.holds Tryd.pinned (OpenSpec.ofChange opsOrderWrong)

/-- 'arbourlaw06.OpsVector': WHATEVER THE INPUT: true; the input reads as it did. -/
def opsVectorSpec : ChangeSpec := { name := "opsVector", fn := fun _ => fun
  | [d] => { results := [.lit (.bool true)], args := [d] }
  | _ => none }
def opsVectorRow : OpenClaim := { program := "ytifpdejgkofnaaadoor", sum := "3b857087f80da34dbe9c8eeb53610c3fd5038243066f8a570f4854b67588cc49", func := "arbour/arbourlaw06.OpsVector", spec := "opsVector", inPlace := ["internal/bytealg.IndexByteString", "internal/bytealg.IndexString", "slices.overlaps[arbour/api.Op]"], unfollowed := true, recurses := true, named := ["unicode/utf8.first", "unicode/utf8.acceptRanges", "internal/bytealg.MaxLen"], plainKeys := false, apart := false, laid := [("unicode/utf8.acceptRanges", laid_unicode_utf8_acceptRanges), ("unicode/utf8.first", laid_unicode_utf8_first)] }
def OpsVectorSaid : Prop := opsVectorRow.holds Tryd.pinned (OpenSpec.ofChange opsVectorSpec)

/-- ITS FALSE NEIGHBOUR: 'it returns false'. Refute it at one input. -/
def opsVectorWrong : ChangeSpec := { name := "opsVector", fn := fun _ => fun
  | [d] => { results := [.lit (.bool false)], args := [d] }
  | _ => none }
def OpsVectorWrongFalsely : Prop := opsVectorRow.holds Tryd.pinned (OpenSpec.ofChange opsVectorWrong)

/-- 'arbourlaw06.OpsSince': WHATEVER THE INPUT: true; the input reads as it did. -/
def opsSinceSpec : ChangeSpec := { name := "opsSince", fn := fun _ => fun
  | [d1, d2] => { results := [.lit (.bool true)], args := [d1, d2] }
  | _ => none }
def opsSinceRow : OpenClaim := { program := "ytifpdejgkofnaaadoor", sum := "3b857087f80da34dbe9c8eeb53610c3fd5038243066f8a570f4854b67588cc49", func := "arbour/arbourlaw06.OpsSince", spec := "opsSince", inPlace := ["internal/bytealg.IndexByteString", "internal/bytealg.IndexString", "slices.overlaps[arbour/api.Op]"], unfollowed := true, recurses := true, named := ["unicode/utf8.first", "unicode/utf8.acceptRanges", "internal/bytealg.MaxLen"], plainKeys := false, apart := false, laid := [("unicode/utf8.acceptRanges", laid_unicode_utf8_acceptRanges), ("unicode/utf8.first", laid_unicode_utf8_first)] }
def OpsSinceSaid : Prop := opsSinceRow.holds Tryd.pinned (OpenSpec.ofChange opsSinceSpec)

/-- ITS FALSE NEIGHBOUR: 'it returns false'. Refute it at one input. -/
def opsSinceWrong : ChangeSpec := { name := "opsSince", fn := fun _ => fun
  | [d1, d2] => { results := [.lit (.bool false)], args := [d1, d2] }
  | _ => none }
def OpsSinceWrongFalsely : Prop := opsSinceRow.holds Tryd.pinned (OpenSpec.ofChange opsSinceWrong)

/-- 'arbourlaw06.OpsSets': WHATEVER THE INPUT: true; the input reads as it did. -/
def opsSetsSpec : ChangeSpec := { name := "opsSets", fn := fun _ => fun
  | [d] => { results := [.lit (.bool true)], args := [d] }
  | _ => none }
def opsSetsRow : OpenClaim := { program := "ytifpdejgkofnaaadoor", sum := "3b857087f80da34dbe9c8eeb53610c3fd5038243066f8a570f4854b67588cc49", func := "arbour/arbourlaw06.OpsSets", spec := "opsSets", inPlace := ["internal/bytealg.IndexByteString", "internal/bytealg.IndexString", "slices.overlaps[arbour/api.Op]"], unfollowed := true, recurses := true, named := ["unicode/utf8.first", "unicode/utf8.acceptRanges", "internal/bytealg.MaxLen"], plainKeys := false, apart := false, laid := [("unicode/utf8.acceptRanges", laid_unicode_utf8_acceptRanges), ("unicode/utf8.first", laid_unicode_utf8_first)] }
def OpsSetsSaid : Prop := opsSetsRow.holds Tryd.pinned (OpenSpec.ofChange opsSetsSpec)

/-- ITS FALSE NEIGHBOUR: 'it returns false'. Refute it at one input. -/
def opsSetsWrong : ChangeSpec := { name := "opsSets", fn := fun _ => fun
  | [d] => { results := [.lit (.bool false)], args := [d] }
  | _ => none }
def OpsSetsWrongFalsely : Prop := opsSetsRow.holds Tryd.pinned (OpenSpec.ofChange opsSetsWrong)

/-- 'arbourlaw06.OpsEncodes': WHATEVER THE INPUT: true; the input reads as it did. -/
def opsEncodesSpec : ChangeSpec := { name := "opsEncodes", fn := fun _ => fun
  | [d] => { results := [.lit (.bool true)], args := [d] }
  | _ => none }
def opsEncodesRow : OpenClaim := { program := "ytifpdejgkofnaaadoor", sum := "3b857087f80da34dbe9c8eeb53610c3fd5038243066f8a570f4854b67588cc49", func := "arbour/arbourlaw06.OpsEncodes", spec := "opsEncodes", inPlace := ["internal/bytealg.IndexByteString", "internal/bytealg.IndexString", "slices.overlaps[arbour/api.Op]", "internal/abi.NoEscape"], unfollowed := true, recurses := true, named := ["unicode/utf8.first", "unicode/utf8.acceptRanges", "internal/bytealg.MaxLen"], plainKeys := false, apart := false, laid := [("unicode/utf8.acceptRanges", laid_unicode_utf8_acceptRanges), ("unicode/utf8.first", laid_unicode_utf8_first)] }
def OpsEncodesSaid : Prop := opsEncodesRow.holds Tryd.pinned (OpenSpec.ofChange opsEncodesSpec)

/-- ITS FALSE NEIGHBOUR: 'it returns false'. Refute it at one input. -/
def opsEncodesWrong : ChangeSpec := { name := "opsEncodes", fn := fun _ => fun
  | [d] => { results := [.lit (.bool false)], args := [d] }
  | _ => none }
def OpsEncodesWrongFalsely : Prop := opsEncodesRow.holds Tryd.pinned (OpenSpec.ofChange opsEncodesWrong)

/-- 'arbourlaw06.OpsBack': WHATEVER THE INPUT: true; the input reads as it did. -/
def opsBackSpec : ChangeSpec := { name := "opsBack", fn := fun _ => fun
  | [d1, d2] => { results := [.lit (.bool true)], args := [d1, d2] }
  | _ => none }
def opsBackRow : OpenClaim := { program := "ytifpdejgkofnaaadoor", sum := "3b857087f80da34dbe9c8eeb53610c3fd5038243066f8a570f4854b67588cc49", func := "arbour/arbourlaw06.OpsBack", spec := "opsBack", inPlace := ["internal/bytealg.IndexByteString", "internal/bytealg.IndexString", "internal/abi.NoEscape", "slices.overlaps[arbour/api.Op]"], unfollowed := true, recurses := true, named := ["unicode/utf8.first", "unicode/utf8.acceptRanges", "internal/bytealg.MaxLen"], plainKeys := false, apart := false, laid := [("unicode/utf8.acceptRanges", laid_unicode_utf8_acceptRanges), ("unicode/utf8.first", laid_unicode_utf8_first)] }
def OpsBackSaid : Prop := opsBackRow.holds Tryd.pinned (OpenSpec.ofChange opsBackSpec)

/-- ITS FALSE NEIGHBOUR: 'it returns false'. Refute it at one input. -/
def opsBackWrong : ChangeSpec := { name := "opsBack", fn := fun _ => fun
  | [d1, d2] => { results := [.lit (.bool false)], args := [d1, d2] }
  | _ => none }
def OpsBackWrongFalsely : Prop := opsBackRow.holds Tryd.pinned (OpenSpec.ofChange opsBackWrong)

/- THE SECOND FORM. 'bulk': how many values and letters a reading holds, each counted each time it is reached (what is shared counts as often as it is met; a slice's spare places count too). A statement '..UptoSaid' is the law's where the arguments, and the package variables that the reading takes, are together of bulk at most 1048576: NARROWER than '..Said'. Prove '..Said' where nothing that the law and all that it calls make is longer than what came in: it says more and counts as full. Else prove '..UptoSaid'. A law counts once. -/
mutual
def uptoBulk {H : Type} : DataW H → Nat
  | .lit (.string bytes) => bytes.length + 1
  | .lit _ => 1
  | .nil => 1
  | .ptr d => uptoBulk d + 1
  | .slice elems spare => uptoBulkAll elems + uptoBulkAll spare + 1
  | .agg parts => uptoBulkAll parts + 1
  | .iface _ d => uptoBulk d + 1
  | .map entries => uptoBulkEntries entries + 1
  | .held _ => 1
def uptoBulkAll {H : Type} : List (DataW H) → Nat
  | [] => 0
  | d :: r => uptoBulk d + uptoBulkAll r
def uptoBulkEntries {H : Type} : List (Lit × DataW H) → Nat
  | [] => 0
  | x :: r => uptoBulkEntry x + uptoBulkEntries r
def uptoBulkEntry {H : Type} : Lit × DataW H → Nat
  | (.string bytes, d) => bytes.length + uptoBulk d + 1
  | (_, d) => uptoBulk d + 1
 end
def uptoSmall : (H : Type) → List (DataW H) → Bool := fun _ ds => decide (uptoBulkAll ds ≤ 1048576)
def OpenSpec.upto (s : _root_.Go.ChangeSpec) : _root_.Go.OpenSpec := { _root_.Go.OpenSpec.ofChange s with cond := some uptoSmall }

/-- 'arbourlaw06.OpsRight', WHERE WHAT IT READS IS OF BULK AT MOST 1048576: true; the input reads as it did. -/
def opsRightUptoRow : OpenClaim := { program := "ytifpdejgkofnaaadoor", sum := "3b857087f80da34dbe9c8eeb53610c3fd5038243066f8a570f4854b67588cc49", func := "arbour/arbourlaw06.OpsRight", spec := "opsRight", inPlace := ["internal/bytealg.IndexByteString", "internal/bytealg.IndexString", "slices.overlaps[arbour/api.Op]"], unfollowed := true, recurses := true, named := ["unicode/utf8.first", "unicode/utf8.acceptRanges", "internal/bytealg.MaxLen"], plainKeys := false, apart := false, laid := [("unicode/utf8.acceptRanges", laid_unicode_utf8_acceptRanges), ("unicode/utf8.first", laid_unicode_utf8_first)], narrowed := true }
def OpsRightUptoSaid : Prop := opsRightUptoRow.holds Tryd.pinned (OpenSpec.upto opsRightSpec)

/-- 'arbourlaw06.OpsDecodes', WHERE WHAT IT READS IS OF BULK AT MOST 1048576: true; the input reads as it did. -/
def opsDecodesUptoRow : OpenClaim := { program := "ytifpdejgkofnaaadoor", sum := "3b857087f80da34dbe9c8eeb53610c3fd5038243066f8a570f4854b67588cc49", func := "arbour/arbourlaw06.OpsDecodes", spec := "opsDecodes", inPlace := ["internal/bytealg.IndexByteString", "internal/bytealg.IndexString", "slices.overlaps[arbour/api.Op]"], unfollowed := true, recurses := true, named := ["unicode/utf8.first", "unicode/utf8.acceptRanges", "internal/bytealg.MaxLen"], plainKeys := false, apart := false, laid := [("unicode/utf8.acceptRanges", laid_unicode_utf8_acceptRanges), ("unicode/utf8.first", laid_unicode_utf8_first)], narrowed := true }
def OpsDecodesUptoSaid : Prop := opsDecodesUptoRow.holds Tryd.pinned (OpenSpec.upto opsDecodesSpec)

/-- 'arbourlaw06.OpsAdds', WHERE WHAT IT READS IS OF BULK AT MOST 1048576: true; the input reads as it did. -/
def opsAddsUptoRow : OpenClaim := { program := "ytifpdejgkofnaaadoor", sum := "3b857087f80da34dbe9c8eeb53610c3fd5038243066f8a570f4854b67588cc49", func := "arbour/arbourlaw06.OpsAdds", spec := "opsAdds", inPlace := ["internal/bytealg.IndexByteString", "internal/bytealg.IndexString", "slices.overlaps[arbour/api.Op]"], unfollowed := true, recurses := true, named := ["unicode/utf8.first", "unicode/utf8.acceptRanges", "internal/bytealg.MaxLen"], plainKeys := false, apart := false, laid := [("unicode/utf8.acceptRanges", laid_unicode_utf8_acceptRanges), ("unicode/utf8.first", laid_unicode_utf8_first)], narrowed := true }
def OpsAddsUptoSaid : Prop := opsAddsUptoRow.holds Tryd.pinned (OpenSpec.upto opsAddsSpec)

/-- 'arbourlaw06.OpsOrder', WHERE WHAT IT READS IS OF BULK AT MOST 1048576: true; the input reads as it did. -/
def opsOrderUptoRow : OpenClaim := { program := "ytifpdejgkofnaaadoor", sum := "3b857087f80da34dbe9c8eeb53610c3fd5038243066f8a570f4854b67588cc49", func := "arbour/arbourlaw06.OpsOrder", spec := "opsOrder", inPlace := ["internal/bytealg.IndexByteString", "internal/bytealg.IndexString", "slices.overlaps[arbour/api.Op]"], unfollowed := true, recurses := true, named := ["unicode/utf8.first", "unicode/utf8.acceptRanges", "internal/bytealg.MaxLen"], plainKeys := false, apart := false, laid := [("unicode/utf8.acceptRanges", laid_unicode_utf8_acceptRanges), ("unicode/utf8.first", laid_unicode_utf8_first)], narrowed := true }
def OpsOrderUptoSaid : Prop := opsOrderUptoRow.holds Tryd.pinned (OpenSpec.upto opsOrderSpec)

/-- 'arbourlaw06.OpsVector', WHERE WHAT IT READS IS OF BULK AT MOST 1048576: true; the input reads as it did. -/
def opsVectorUptoRow : OpenClaim := { program := "ytifpdejgkofnaaadoor", sum := "3b857087f80da34dbe9c8eeb53610c3fd5038243066f8a570f4854b67588cc49", func := "arbour/arbourlaw06.OpsVector", spec := "opsVector", inPlace := ["internal/bytealg.IndexByteString", "internal/bytealg.IndexString", "slices.overlaps[arbour/api.Op]"], unfollowed := true, recurses := true, named := ["unicode/utf8.first", "unicode/utf8.acceptRanges", "internal/bytealg.MaxLen"], plainKeys := false, apart := false, laid := [("unicode/utf8.acceptRanges", laid_unicode_utf8_acceptRanges), ("unicode/utf8.first", laid_unicode_utf8_first)], narrowed := true }
def OpsVectorUptoSaid : Prop := opsVectorUptoRow.holds Tryd.pinned (OpenSpec.upto opsVectorSpec)

/-- 'arbourlaw06.OpsSince', WHERE WHAT IT READS IS OF BULK AT MOST 1048576: true; the input reads as it did. -/
def opsSinceUptoRow : OpenClaim := { program := "ytifpdejgkofnaaadoor", sum := "3b857087f80da34dbe9c8eeb53610c3fd5038243066f8a570f4854b67588cc49", func := "arbour/arbourlaw06.OpsSince", spec := "opsSince", inPlace := ["internal/bytealg.IndexByteString", "internal/bytealg.IndexString", "slices.overlaps[arbour/api.Op]"], unfollowed := true, recurses := true, named := ["unicode/utf8.first", "unicode/utf8.acceptRanges", "internal/bytealg.MaxLen"], plainKeys := false, apart := false, laid := [("unicode/utf8.acceptRanges", laid_unicode_utf8_acceptRanges), ("unicode/utf8.first", laid_unicode_utf8_first)], narrowed := true }
def OpsSinceUptoSaid : Prop := opsSinceUptoRow.holds Tryd.pinned (OpenSpec.upto opsSinceSpec)

/-- 'arbourlaw06.OpsSets', WHERE WHAT IT READS IS OF BULK AT MOST 1048576: true; the input reads as it did. -/
def opsSetsUptoRow : OpenClaim := { program := "ytifpdejgkofnaaadoor", sum := "3b857087f80da34dbe9c8eeb53610c3fd5038243066f8a570f4854b67588cc49", func := "arbour/arbourlaw06.OpsSets", spec := "opsSets", inPlace := ["internal/bytealg.IndexByteString", "internal/bytealg.IndexString", "slices.overlaps[arbour/api.Op]"], unfollowed := true, recurses := true, named := ["unicode/utf8.first", "unicode/utf8.acceptRanges", "internal/bytealg.MaxLen"], plainKeys := false, apart := false, laid := [("unicode/utf8.acceptRanges", laid_unicode_utf8_acceptRanges), ("unicode/utf8.first", laid_unicode_utf8_first)], narrowed := true }
def OpsSetsUptoSaid : Prop := opsSetsUptoRow.holds Tryd.pinned (OpenSpec.upto opsSetsSpec)

/-- 'arbourlaw06.OpsEncodes', WHERE WHAT IT READS IS OF BULK AT MOST 1048576: true; the input reads as it did. -/
def opsEncodesUptoRow : OpenClaim := { program := "ytifpdejgkofnaaadoor", sum := "3b857087f80da34dbe9c8eeb53610c3fd5038243066f8a570f4854b67588cc49", func := "arbour/arbourlaw06.OpsEncodes", spec := "opsEncodes", inPlace := ["internal/bytealg.IndexByteString", "internal/bytealg.IndexString", "slices.overlaps[arbour/api.Op]", "internal/abi.NoEscape"], unfollowed := true, recurses := true, named := ["unicode/utf8.first", "unicode/utf8.acceptRanges", "internal/bytealg.MaxLen"], plainKeys := false, apart := false, laid := [("unicode/utf8.acceptRanges", laid_unicode_utf8_acceptRanges), ("unicode/utf8.first", laid_unicode_utf8_first)], narrowed := true }
def OpsEncodesUptoSaid : Prop := opsEncodesUptoRow.holds Tryd.pinned (OpenSpec.upto opsEncodesSpec)

/-- 'arbourlaw06.OpsBack', WHERE WHAT IT READS IS OF BULK AT MOST 1048576: true; the input reads as it did. -/
def opsBackUptoRow : OpenClaim := { program := "ytifpdejgkofnaaadoor", sum := "3b857087f80da34dbe9c8eeb53610c3fd5038243066f8a570f4854b67588cc49", func := "arbour/arbourlaw06.OpsBack", spec := "opsBack", inPlace := ["internal/bytealg.IndexByteString", "internal/bytealg.IndexString", "internal/abi.NoEscape", "slices.overlaps[arbour/api.Op]"], unfollowed := true, recurses := true, named := ["unicode/utf8.first", "unicode/utf8.acceptRanges", "internal/bytealg.MaxLen"], plainKeys := false, apart := false, laid := [("unicode/utf8.acceptRanges", laid_unicode_utf8_acceptRanges), ("unicode/utf8.first", laid_unicode_utf8_first)], narrowed := true }
def OpsBackUptoSaid : Prop := opsBackUptoRow.holds Tryd.pinned (OpenSpec.upto opsBackSpec)

end Rows
end Go.Proofs.YtifpdejgkofnaaaDoor
