/-
  A nil file system; the chapter's examples.
-/
import Derived.Test.YtgjgeojhhglidaaGreatDoorFsW
import Derived.Test.YtgjgeojhhglidaaGreatDoorFsX1
import Derived.Test.YtgjgeojhhglidaaGreatDoorAppends
namespace Go.Proofs.YtgjgeojhhglidaaGreatDoor
open Go Go.RowKit Go.Lib

set_option maxRecDepth 100000 in
theorem fmkdir_nil (p : ByteArray) (w : World) : Calls Tryz.prog 17 #[.pointer none, .string p] w fun e w' => e = .returned (.int .i64 2) ∧ w' = w := by
  go_enter Tryz.func17, Tryz.ntmps17
  go_wp2_with fail
  go_ret
  exact ⟨rfl, rfl⟩
set_option maxRecDepth 100000 in
theorem fwrite_nil (p d : ByteArray) (w : World) : Calls Tryz.prog 18 #[.pointer none, .string p, .string d] w fun e w' => e = .returned (.int .i64 2) ∧ w' = w := by
  go_enter Tryz.func18, Tryz.ntmps18
  go_wp2_with fail
  go_ret
  exact ⟨rfl, rfl⟩
set_option maxRecDepth 100000 in
set_option maxHeartbeats 1600000 in
theorem frename_nil (a b : ByteArray) (w : World) : Calls Tryz.prog 19 #[.pointer none, .string a, .string b] w fun e w' => e = .returned (.int .i64 2) ∧ Below w.heap.size w w' := by
  have HG := Lib.hid (fget_nil a w)
  rw [show noEnt.val = .agg #[.string ⟨#[]⟩, .int .i64 0, .bool false, .string ⟨#[]⟩] from rfl] at HG
  go_enter Tryz.func19, Tryz.ntmps19
  go_wp2_with fail
  refine HG.out.mono ?_
  rintro e w1 ⟨rfl, hb1⟩
  have hbz := hb1.alloc hb1.size (.cells #[.string ⟨#[]⟩, .int .i64 0, .bool false, .string ⟨#[]⟩] 51)
  go_wp2_with fail
  go_ret
  exact ⟨rfl, hbz⟩
set_option maxRecDepth 100000 in
set_option maxHeartbeats 1600000 in
theorem fremove_nil (a : ByteArray) (w : World) : Calls Tryz.prog 20 #[.pointer none, .string a] w fun e w' => e = .returned (.int .i64 2) ∧ Below w.heap.size w w' := by
  have HG := Lib.hid (fget_nil a w)
  rw [show noEnt.val = .agg #[.string ⟨#[]⟩, .int .i64 0, .bool false, .string ⟨#[]⟩] from rfl] at HG
  go_enter Tryz.func20, Tryz.ntmps20
  go_wp2_with fail
  refine HG.out.mono ?_
  rintro e w1 ⟨rfl, hb1⟩
  have hbz := hb1.alloc hb1.size (.cells #[.string ⟨#[]⟩, .int .i64 0, .bool false, .string ⟨#[]⟩] 51)
  go_wp2_with fail
  go_ret
  exact ⟨rfl, hbz⟩
theorem Fs.ext' {x y : Fs} (h1 : x.n = y.n) (h2 : x.es = y.es) : x = y := by
  cases x; cases y; simp_all
instance : DecidableEq Fs := fun x y => decidable_of_iff (x.n = y.n ∧ x.es = y.es) ⟨fun h => Fs.ext' h.1 h.2, fun h => by rw [h]; exact ⟨rfl, rfl⟩⟩
def exF1 : Fs := ⟨1, [⟨⟨#[100]⟩, 1, true, ⟨#[]⟩⟩]⟩
def exF2 : Fs := ⟨2, [⟨⟨#[100]⟩, 1, true, ⟨#[]⟩⟩, ⟨⟨#[100, 47, 97]⟩, 2, false, ⟨#[120]⟩⟩]⟩
def exF3 : Fs := ⟨2, [⟨⟨#[101]⟩, 1, true, ⟨#[]⟩⟩, ⟨⟨#[101, 47, 97]⟩, 2, false, ⟨#[120]⟩⟩]⟩
theorem ex_mkdir : mkdirF ⟨0, []⟩ ⟨#[100]⟩ = (exF1, 0) := by decide +kernel
theorem ex_write : writeF exF1 ⟨#[100, 47, 97]⟩ ⟨#[120]⟩ = (exF2, 0) := by decide +kernel
theorem ex_ren : renameF exF2 ⟨#[100]⟩ ⟨#[101]⟩ = (exF3, 0) := by decide +kernel
theorem ex_ren2 : renameF exF3 ⟨#[101]⟩ ⟨#[101, 47, 102]⟩ = (exF3, 44) := by decide +kernel
theorem ex_ok1 : FsOK exF1 := by
  have := ok_mkdir ok_new ⟨#[100]⟩
  rw [ex_mkdir] at this
  exact this
theorem ex_ok2 : FsOK exF2 := by
  have := ok_write ex_ok1 ⟨#[100, 47, 97]⟩ ⟨#[120]⟩
  rw [ex_write] at this
  exact this
theorem ex_ok3 : FsOK exF3 := by
  have := ok_rename ex_ok2 ⟨#[100]⟩ ⟨#[101]⟩
  rw [ex_ren] at this
  exact this
end Go.Proofs.YtgjgeojhhglidaaGreatDoor
