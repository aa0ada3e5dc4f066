/-
  arbourref23: texts as bytes; how many there are; a list of texts that is read. arbourref23.many: how many there are. arbourref23.list: a list of texts that is read. arbourlaw23.texts: are two lists the same?
-/
import Derived.Test.YtlenpifjkbcmdaaGreatDoorSessGB
import Derived.Test.YtlenpifjkbcmdaaGreatDoorSessGA
import Derived.Test.YtlenpifjkbcmdaaGreatDoorCodecW3
import Derived.Test.YtlenpifjkbcmdaaGreatDoorSame
namespace Go.Proofs.YtlenpifjkbcmdaaGreatDoor
open Go Go.RowKit Go.Lib

end Go.Proofs.YtlenpifjkbcmdaaGreatDoor

namespace Go.Proofs.YtlenpifjkbcmdaaGreatDoor
open Go Go.RowKit Go.Lib

theorem RrAt.setOdd {W : World} {b : Nat} {r : Rd} (h : RrAt W b r) : RrAt (W.setCell ⟨b, 1, none⟩ (.int .i64 11)) b ⟨11, []⟩ := by
  obtain ⟨d, hc, hd, _⟩ := h
  exact ⟨d, hc.setErr 11, hd, fun e => by cases e⟩
theorem RrAt.free {W : World} {b : Nat} {r : Rd} (h : RrAt W b r) : ∀ i, W.frozen? ⟨b, i, none⟩ = false := by
  obtain ⟨d, ⟨_, _, hf, _⟩, _⟩ := h
  exact hf
end Go.Proofs.YtlenpifjkbcmdaaGreatDoor

namespace Go.Proofs.YtlenpifjkbcmdaaGreatDoor
open Go Go.RowKit Go.Lib

theorem rr_keeps {W W' : World} {b : Nat} {r : Rd} {B : Nat} (h : RrAt W b r) (hb : Below B W W') (hlt : b < B) : RrAt W' b r := h.keeps hb hlt
end Go.Proofs.YtlenpifjkbcmdaaGreatDoor

namespace Go.Proofs.YtlenpifjkbcmdaaGreatDoor
open Go Go.RowKit Go.Lib

end Go.Proofs.YtlenpifjkbcmdaaGreatDoor

