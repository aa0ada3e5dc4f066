/-
  No cell of these rows narrows 'for every input' (looked for: loops, veiled, ifaces, maps, wideKeys, modest, calm, conditions, laid).
  DERIVED. THE GIVEN ROWS OF THIS SEAT. 2 by the template 'for every input the law returns true; each argument reads behind the call as it read before'; 0 by the template 'total and deterministic' (their statements: YtmhfficfojfknaaTotals.lean).
  GIVEN WITH THE SEED: the statements are not yours to turn. If you find one false, say at which input.
  Laid BY PROGRAM, IN A SANDBOX (cutbox-rows.mjs): the forced cells as the released guide's own fill.sh prints them over the translation 79e5025d507f7471… (all of the seat's roots in one cut). By AI agents, Wed Nov 11 2026. No macro, syntax, notation, axiom, sorry.
-/
import Derived.Test.YtmhfficfojfknaaChecked
import GoSem.Claim
import GoSem.ClaimJoined
import GoSem.ClaimMapViews
import Derived.JoinedTies
import Derived.KernelRfl
namespace Go.Proofs.Ytmhfficfojfknaa
/- THE CELL 'sum', in the pinned program and in every row, IS THE sha256 OF THE DUMP (.gsa) THAT YtmhfficfojfknaaProg.lean LOADS. Nothing in Lean hashes anything: it is a label: what it is worth is what the hold of that sum in a sandbox is worth. -/
noncomputable def Try.pinned : Pinned := { name := "ytmhfficfojfknaa", sum := "79e5025d507f7471914e523a006211da180ad5dc7935ce6175babf67313d48de", checked := Try.checked }
namespace Rows
def none {H : Type} : Left H := { results := [], args := [] }

/-- 'arbourlaw12.ProjectShows': WHATEVER THE INPUT: true; the input reads as it did. -/
def projectShowsSpec : ChangeSpec := { name := "projectShows", fn := fun _ => fun
  | [d1, d2] => { results := [.lit (.bool true)], args := [d1, d2] }
  | _ => none }
def projectShowsRow : OpenClaim := { program := "ytmhfficfojfknaa", sum := "79e5025d507f7471914e523a006211da180ad5dc7935ce6175babf67313d48de", func := "arbour/arbourlaw12.ProjectShows", spec := "projectShows", unfollowed := true, recurses := true, apart := false }
def ProjectShowsSaid : Prop := projectShowsRow.holds Try.pinned (OpenSpec.ofChange projectShowsSpec)

/-- ITS FALSE NEIGHBOUR: 'it returns false'. Refute it at one input. -/
def projectShowsWrong : ChangeSpec := { name := "projectShows", fn := fun _ => fun
  | [d1, d2] => { results := [.lit (.bool false)], args := [d1, d2] }
  | _ => none }
def ProjectShowsWrongFalsely : Prop := projectShowsRow.holds Try.pinned (OpenSpec.ofChange projectShowsWrong)

/-- 'arbourlaw12.ProjectNeeds': WHATEVER THE INPUT: true; the input reads as it did. -/
def projectNeedsSpec : ChangeSpec := { name := "projectNeeds", fn := fun _ => fun
  | [d1, d2] => { results := [.lit (.bool true)], args := [d1, d2] }
  | _ => none }
def projectNeedsRow : OpenClaim := { program := "ytmhfficfojfknaa", sum := "79e5025d507f7471914e523a006211da180ad5dc7935ce6175babf67313d48de", func := "arbour/arbourlaw12.ProjectNeeds", spec := "projectNeeds", unfollowed := true, recurses := true, apart := false }
def ProjectNeedsSaid : Prop := projectNeedsRow.holds Try.pinned (OpenSpec.ofChange projectNeedsSpec)

/-- ITS FALSE NEIGHBOUR: 'it returns false'. Refute it at one input. -/
def projectNeedsWrong : ChangeSpec := { name := "projectNeeds", fn := fun _ => fun
  | [d1, d2] => { results := [.lit (.bool false)], args := [d1, d2] }
  | _ => none }
def ProjectNeedsWrongFalsely : Prop := projectNeedsRow.holds Try.pinned (OpenSpec.ofChange projectNeedsWrong)

/- THE SECOND FORM. 'bulk': how many values and letters a reading holds, each counted each time it is reached (what is shared counts as often as it is met; a slice's spare places count too). A statement '..UptoSaid' is the law's where the arguments, and the package variables that the reading takes, are together of bulk at most 1048576: NARROWER than '..Said'. Prove '..Said' where nothing that the law and all that it calls make is longer than what came in: it says more and counts as full. Else prove '..UptoSaid'. A law counts once. -/
mutual
def uptoBulk {H : Type} : DataW H → Nat
  | .lit (.string bytes) => bytes.length + 1
  | .lit _ => 1
  | .nil => 1
  | .ptr d => uptoBulk d + 1
  | .slice elems spare => uptoBulkAll elems + uptoBulkAll spare + 1
  | .agg parts => uptoBulkAll parts + 1
  | .iface _ d => uptoBulk d + 1
  | .map entries => uptoBulkEntries entries + 1
  | .held _ => 1
def uptoBulkAll {H : Type} : List (DataW H) → Nat
  | [] => 0
  | d :: r => uptoBulk d + uptoBulkAll r
def uptoBulkEntries {H : Type} : List (Lit × DataW H) → Nat
  | [] => 0
  | x :: r => uptoBulkEntry x + uptoBulkEntries r
def uptoBulkEntry {H : Type} : Lit × DataW H → Nat
  | (.string bytes, d) => bytes.length + uptoBulk d + 1
  | (_, d) => uptoBulk d + 1
 end
def uptoSmall : (H : Type) → List (DataW H) → Bool := fun _ ds => decide (uptoBulkAll ds ≤ 1048576)
def OpenSpec.upto (s : _root_.Go.ChangeSpec) : _root_.Go.OpenSpec := { _root_.Go.OpenSpec.ofChange s with cond := some uptoSmall }

/-- 'arbourlaw12.ProjectShows', WHERE WHAT IT READS IS OF BULK AT MOST 1048576: true; the input reads as it did. -/
def projectShowsUptoRow : OpenClaim := { program := "ytmhfficfojfknaa", sum := "79e5025d507f7471914e523a006211da180ad5dc7935ce6175babf67313d48de", func := "arbour/arbourlaw12.ProjectShows", spec := "projectShows", unfollowed := true, recurses := true, apart := false, narrowed := true }
def ProjectShowsUptoSaid : Prop := projectShowsUptoRow.holds Try.pinned (OpenSpec.upto projectShowsSpec)

/-- 'arbourlaw12.ProjectNeeds', WHERE WHAT IT READS IS OF BULK AT MOST 1048576: true; the input reads as it did. -/
def projectNeedsUptoRow : OpenClaim := { program := "ytmhfficfojfknaa", sum := "79e5025d507f7471914e523a006211da180ad5dc7935ce6175babf67313d48de", func := "arbour/arbourlaw12.ProjectNeeds", spec := "projectNeeds", unfollowed := true, recurses := true, apart := false, narrowed := true }
def ProjectNeedsUptoSaid : Prop := projectNeedsUptoRow.holds Try.pinned (OpenSpec.upto projectNeedsSpec)

end Rows
end Go.Proofs.Ytmhfficfojfknaa
