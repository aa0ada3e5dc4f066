/-
  FilesNil.
-/
import Derived.Test.YtgjgeojhhglidaaDoorFsX2
namespace Go.Proofs.YtgjgeojhhglidaaDoor
open Go Go.RowKit Go.Lib

set_option maxRecDepth 100000 in
set_option maxHeartbeats 1600000 in
theorem law_filesNil (s : ByteArray) (w : World) (hm : MaxAt w) : Calls Tryd.prog 6 #[.string s] w fun e w' => e = .returned (.bool true) ∧ Below w.heap.size w w' := by
  have HG := Lib.hid (fget_nil s w)
  rw [show noEnt.val = .agg #[.string ⟨#[]⟩, .int .i64 0, .bool false, .string ⟨#[]⟩] from rfl] at HG
  have H1 := Lib.hid fun W => fmkdir_nil s W
  have H2 := Lib.hid fun W => fwrite_nil s s W
  have H3 := Lib.hid fun W => frename_nil s s W
  have H4 := Lib.hid fun W => fremove_nil s W
  have H5 := Lib.hid fun W => flist_nil W
  have HA := Lib.hid fun W hM => awake19_any W hM
  go_enter Tryd.func6, Tryd.ntmps6
  go_wp2_with fail
  refine HG.out.mono ?_
  rintro e w1 ⟨rfl, hb1⟩
  have hbz := hb1.alloc hb1.size (.cells #[.string ⟨#[]⟩, .int .i64 0, .bool false, .string ⟨#[]⟩] 38)
  go_wp2_with fail
  refine (H1.out _).mono ?_
  rintro e w2 ⟨rfl, rfl⟩
  go_wp2_with fail
  refine (H2.out _).mono ?_
  rintro e w3 ⟨rfl, rfl⟩
  go_wp2_with fail
  refine (H3.out _).mono ?_
  rintro e w4 ⟨rfl, hb4⟩
  have hb4w := hbz.trans (hb4.mono hbz.size)
  go_wp2_with fail
  refine (H4.out _).mono ?_
  rintro e w5 ⟨rfl, hb5⟩
  have hb5w := hb4w.trans (hb5.mono hb4w.size)
  go_wp2_with fail
  refine (H5.out _).mono ?_
  rintro e w6 ⟨rfl, rfl⟩
  go_wp2_with fail
  refine (HA.out _ (hm.keeps hb5w)).mono ?_
  rintro e w7 ⟨rfl, hb7⟩
  go_wp2_with fail
  go_ret
  exact ⟨rfl, hb5w.trans (hb7.mono hb5w.size)⟩
end Go.Proofs.YtgjgeojhhglidaaDoor
