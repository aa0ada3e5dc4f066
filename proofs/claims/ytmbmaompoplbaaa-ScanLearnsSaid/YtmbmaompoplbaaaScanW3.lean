import Derived.Test.YtmbmaompoplbaaaScanW2
import Derived.IntWalk
namespace Go.Proofs.Ytmbmaompoplbaaa
open Go.RowKit Go.Lib

theorem zeroInt (w : World) : (zeroValue 3).run Try.prog w = .ok (.int .i64 0) w := by kernel_rfl

set_option maxRecDepth 100000 in
set_option maxHeartbeats 1600000 in
theorem get_any (g : Nat) (l : List KEnt) (id : Int) (w : World) (hs : SheetAt w g l) :
    Calls Try.prog 25 #[.pointer (some ⟨g, 0, none⟩), .int .i64 id] w fun e w' => e = .returned (.tuple #[((getK l id).getD noK).val, .bool (getK l id).isSome]) ∧ Below w.heap.size w w' := by
  have hb1 := (Below.refl w.heap.size w).alloc (Nat.le_refl _) (.cells #[.int .i64 0, .string ⟨#[]⟩, .bool false, .string ⟨#[]⟩] 34)
  obtain ⟨hg, a, cap, b1, n1, b2, n2, h0, h1, h2, hr, m1, m2⟩ := hs.keeps hb1
  obtain ⟨hgw, _⟩ := hs
  clear m2 h2
  have hl1 := m1.lookup_ok intK Try.underlying57 id (zeroInt _)
  clear m1
  unfold firstF at hl1
  have hne : g ≠ w.heap.size := by omega
  cases hf : l.findIdx? (fun x => decide (x.id = id)) with
  | none =>
    rw [hf] at hl1
    have Hr := Lib.hid (getK_none hf)
    have HR := Lib.hid hr
    clear hf hr
    simp only [Option.map_none, Option.getD_none, Option.isSome_none] at hl1
    go_enter Try.func25, Try.ntmps25
    go_wp2_with fail
    refine bodyPost_ret (v := .tuple #[.agg #[.int .i64 0, .string ⟨#[]⟩, .bool false, .string ⟨#[]⟩], .bool false]) (by simp [results, Try.results25, go_sem]) rfl ⟨by rw [Hr.out]; rfl, hb1⟩
  | some j =>
    rw [hf] at hl1
    obtain ⟨x, hx, hgx⟩ := getK_idx hf
    have Hr := Lib.hid hgx
    have hjl := (List.getElem?_eq_some_iff.1 hx).1
    obtain ⟨b, off, rfl, hbl, c0, c1, c2, c3⟩ := k_at hr hx
    obtain ⟨xi, xp, xd, xt⟩ := x
    dsimp only at c0 c1 c2 c3
    have HR := Lib.hid hr
    clear hf hr hx hgx
    simp only [Option.map_some, Option.getD_some, Option.isSome_some, Nat.zero_add] at hl1
    go_enter Try.func25, Try.ntmps25
    go_wp2_with fail
    refine bodyPost_ret (v := .tuple #[.agg #[.int .i64 xi, .string xp, .bool xd, .string xt], .bool true]) (by simp [results, Try.results25, go_sem]) rfl ⟨by rw [Hr.out]; rfl, ?_⟩
    go_grown

theorem keptK_def (a b : List KEnt) (id : Int) : keptK a b id = ((getK a id).isSome && (getK b id).isSome && (((getK a id).getD noK).dir == ((getK b id).getD noK).dir)) := by
  unfold keptK
  cases getK a id <;> cases getK b id <;> simp

set_option maxRecDepth 100000 in
set_option maxHeartbeats 1600000 in
theorem kept_any (g h : Nat) (l m : List KEnt) (id : Int) (w : World) (hs : SheetAt w g l) (ht : SheetAt w h m) :
    Calls Try.prog 22 #[.pointer (some ⟨g, 0, none⟩), .pointer (some ⟨h, 0, none⟩), .int .i64 id] w fun e w' => e = .returned (.bool (keptK l m id)) ∧ Below w.heap.size w w' := by
  have H1 := Lib.hid (get_any g l id w hs)
  have H2 := Lib.hid fun W (hb : Below w.heap.size w W) => get_any h m id W (ht.keeps hb)
  clear hs ht
  rw [keptK_def]
  generalize (getK l id).getD noK = x at *
  generalize (getK m id).getD noK = y at *
  generalize (getK l id).isSome = p at *
  generalize (getK m id).isSome = q at *
  obtain ⟨xi, xp, xd, xt⟩ := x
  obtain ⟨yi, yp, yd, yt⟩ := y
  unfold KEnt.val at H1 H2
  dsimp only at H1 H2 ⊢
  go_enter Try.func22, Try.ntmps22
  go_wp2_with fail
  refine H1.out.mono ?_
  rintro e w1 ⟨rfl, hb1⟩
  have hb1' := hb1.alloc hb1.size (.cells #[.int .i64 xi, .string xp, .bool xd, .string xt] 34)
  go_wp2_with fail
  refine (H2.out _ hb1').mono ?_
  rintro e w2 ⟨rfl, hb2⟩
  obtain ⟨f1, f2, f3⟩ := after_box hb2
  have hb3 := hb1'.trans (hb2.mono (by have := hb1.size; simp; omega))
  have hb4 := hb3.alloc hb3.size (.cells #[.int .i64 yi, .string yp, .bool yd, .string yt] 34)
  clear hb1 hb1' hb2 hb3
  cases p with
  | false =>
    go_wp2_with fail
    go_ret
    exact ⟨ret_bool (by simp), hb4⟩
  | true =>
    cases q with
    | false =>
      go_wp2_with fail
      go_ret
      exact ⟨ret_bool (by simp), hb4⟩
    | true =>
      go_wp2_with fail
      go_ret
      exact ⟨ret_bool (by simp), hb4⟩

theorem last_bounds (s : ByteArray) : -1 ≤ Lib.lastIndexByte s 47 ∧ Lib.lastIndexByte s 47 < s.size := by
  rcases Lib.lastIndexByte_spec s 47 with ⟨e, _⟩ | ⟨i, hi, e, _⟩
  · rw [e]; omega
  · rw [e]; omega
theorem split_none (p : ByteArray) : splitAtI p (-1) = (p.extract 0 (max (-1 : Int) 0).toNat, p) := by
  unfold splitAtI
  have : p.extract ((-1 : Int) + 1).toNat p.size = p := by
    refine ba_ext ?_
    rw [ByteArray.data_extract]
    simp
    exact List.take_of_length_le (by rw [size_eq]; exact Nat.le_refl _)
  rw [this]
theorem split_some (p : ByteArray) (n : Nat) : splitAtI p n = (p.extract 0 n, p.extract (n + 1) p.size) := by
  unfold splitAtI
  rw [show (max (n : Int) 0).toNat = n by omega, show ((n : Int) + 1).toNat = n + 1 by omega]
set_option maxRecDepth 100000 in
set_option maxHeartbeats 1600000 in
theorem split_any (p : ByteArray) (w : World) (hp : p.size ≤ 100000) :
    Calls Try.prog 23 #[.string p] w fun e w' => e = .returned (.tuple #[.string (splitK p).1, .string (splitK p).2]) ∧ Below w.heap.size w w' := by
  have HC := Lib.hid (Try.strings_LastIndexByte p 47 (by omega) w)
  unfold splitK
  have hr := last_bounds p
  generalize Lib.lastIndexByte p 47 = r at *
  obtain ⟨r1, r2⟩ := hr
  by_cases h : r = -1
  · subst h
    go_enter Try.func23, Try.ntmps23
    go_wp2_with fail
    refine HC.out.mono ?_
    rintro e w1 ⟨rfl, rfl⟩
    go_wp2_with fail
    go_quiet (fail)
    go_wp2_with fail
    refine bodyPost_ret (v := .tuple #[.string (p.extract 0 (max (-1 : Int) 0).toNat), .string p]) (by simp [results, Try.results23, go_sem]) rfl ⟨by rw [split_none], below_drewN (Below.refl _ _) _⟩
  · obtain ⟨n, rfl⟩ : ∃ n : Nat, r = n := ⟨r.toNat, by omega⟩
    have hm : max (n : Int) 0 = n := by omega
    have hn : n + 1 ≤ p.size := by omega
    have hn2 : (n : Int) + 1 ≤ p.size := by omega
    have hn3 : (n : Int) ≤ p.size := by omega
    clear r1 h
    go_enter Try.func23, Try.ntmps23
    go_wp2_with fail
    refine HC.out.mono ?_
    rintro e w1 ⟨rfl, rfl⟩
    go_wp2_with fail
    go_quiet (fail)
    go_wp2_with fail
    refine bodyPost_ret (v := .tuple #[.string (p.extract 0 n), .string (p.extract (n + 1) p.size)]) (by simp [results, Try.results23, go_sem]) rfl ⟨by rw [split_some], below_drewN (Below.refl _ _) _⟩

theorem empty_ne {s : ByteArray} (h : s ≠ ⟨#[]⟩) : s.toList.isEmpty = false := by
  rw [toList_data]
  obtain ⟨⟨l⟩⟩ := s
  cases l with
  | nil => exact absurd rfl h
  | cons a l => rfl
theorem ret_pair {a b : Int × ByteArray} (h : a = b) : Ending.returned (.tuple #[.int .i64 a.1, .string a.2]) = .returned (.tuple #[.int .i64 b.1, .string b.2]) := by rw [h]
set_option maxRecDepth 100000 in
set_option maxHeartbeats 1600000 in
theorem seat_any (g : Nat) (l : List KEnt) (x : KEnt) (w : World) (hp : x.path.size ≤ 100000) (hs : SheetAt w g l) :
    Calls Try.prog 26 #[.pointer (some ⟨g, 0, none⟩), .agg #[.int .i64 x.id, .string x.path, .bool x.dir, .string x.data]] w fun e w' => e = .returned (.tuple #[.int .i64 (seatK l x).1, .string (seatK l x).2]) ∧ Below w.heap.size w w' := by
  have hb1 := (Below.refl w.heap.size w).alloc (Nat.le_refl _) (.cells #[.int .i64 x.id, .string x.path, .bool x.dir, .string x.data] 34)
  obtain ⟨xi, xp, xd, xt⟩ := x
  dsimp only at hp hb1 ⊢
  have HC := Lib.hid fun W => split_any xp W hp
  have hsk : seatK l ⟨xi, xp, xd, xt⟩ = if (splitK xp).1 = ⟨#[]⟩ then (0, (splitK xp).2) else (((idF l (splitK xp).1).getD (.int .i64 0) |> RowKit.intOf), (splitK xp).2) := by
    unfold seatK idF
    dsimp only
    split
    · rfl
    · cases l.find? fun y => decide (y.path = (splitK xp).1) <;> rfl
  have hid2 : ∃ n, (idF l (splitK xp).1).getD (.int .i64 0) = .int .i64 n := by
    unfold idF
    cases l.find? fun y => decide (y.path = (splitK xp).1) <;> exact ⟨_, rfl⟩
  generalize (splitK xp).1 = dir at *
  generalize (splitK xp).2 = nm at *
  obtain ⟨n, hn⟩ := hid2
  rw [hn] at hsk
  by_cases he : dir = ⟨#[]⟩
  · rw [if_pos he] at hsk
    have Hsk := Lib.hid hsk
    have e1 := str_eq he
    subst he
    clear hs hn hsk
    go_enter Try.func26, Try.ntmps26
    go_wp2_with fail
    refine (HC.out _).mono ?_
    rintro e w1 ⟨rfl, hb2⟩
    have hb3 := hb1.trans (hb2.mono (by simp))
    go_wp2_with fail
    refine bodyPost_ret (v := .tuple #[.int .i64 0, .string nm]) (by simp [results, Try.results26, go_sem]) rfl ⟨ret_pair (a := (0, nm)) Hsk.out.symm, hb3⟩
  · rw [if_neg he] at hsk
    have Hsk := Lib.hid hsk
    have e1 : dir.toList.isEmpty = false := empty_ne he
    have Hn := Lib.hid hn
    have HS := Lib.hid hs
    clear hs hn hsk he
    go_enter Try.func26, Try.ntmps26
    go_wp2_with fail
    refine (HC.out _).mono ?_
    rintro e w1 ⟨rfl, hb2⟩
    have hb3 := hb1.trans (hb2.mono (by simp))
    obtain ⟨hg, a, cap, b1, n1, b2, n2, h0, h1, h2, hr, m1, m2⟩ := HS.out.keeps hb3
    have hl1 := m2.lookup mapK Try.underlying58 dir (zeroInt _)
    rw [Hn.out] at hl1
    clear m1 m2 hr
    go_wp2_with fail
    refine bodyPost_ret (v := .tuple #[.int .i64 n, .string nm]) (by simp [results, Try.results26, go_sem]) rfl ⟨ret_pair (a := (n, nm)) Hsk.out.symm, hb3⟩
end Go.Proofs.Ytmbmaompoplbaaa
