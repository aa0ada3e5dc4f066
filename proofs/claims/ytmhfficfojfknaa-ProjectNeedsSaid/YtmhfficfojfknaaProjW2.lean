import Derived.Test.YtmhfficfojfknaaProjW1
namespace Go.Proofs.Ytmhfficfojfknaa
open Go Go.RowKit Go.Lib

theorem all_bad {α : Type} {p : α → Bool} {l : List α} {k : Nat} {x : α} (hx : l[k]? = some x) (h : p x = false) : l.all p = false := by
  rw [List.all_eq_false]
  exact ⟨x, List.mem_of_getElem? hx, by simp [h]⟩
theorem all_step {α : Type} {p : α → Bool} {l : List α} {k : Nat} {x : α} (hx : l[k]? = some x) (h : p x = true) (h0 : (l.take k).all p = true) : (l.take (k + 1)).all p = true := by
  rw [List.take_add_one, hx, Option.toList_some, List.all_append, h0]
  simp [h]
theorem all_full {α : Type} {p : α → Bool} {l : List α} (h : (l.take l.length).all p = true) : l.all p = true := by rwa [List.take_length] at h

def itmSmall (x : Itm) : Bool := decide (x.path.size ≤ 500) && decide (x.man.size ≤ 1000)
def rulSmall (x : Rul) : Bool := decide (x.text.size ≤ 500)
def fewP (xs : List Itm) (l : List Rul) : Bool := decide (xs.length ≤ 100) && decide (l.length ≤ 30) && xs.all itmSmall && l.all rulSmall

set_option maxRecDepth 100000 in
set_option maxHeartbeats 1600000 in
theorem few12_any (a a' : Option Addr) (cap cap' : Nat) (xs : List Itm) (l : List Rul) (w : World) (ha : RowsAt itmLay w a xs) (ha' : RowsAt rulLay w a' l) :
    Calls Try.prog 5 #[.slice a xs.length cap, .slice a' l.length cap'] w fun e w' => e = .returned (.bool (fewP xs l)) ∧ w = w' := by
  have HA := Lib.hid ha
  have HA' := Lib.hid ha'
  clear ha ha'
  by_cases h100 : 100 < (xs.length : Int)
  · have Hr := Lib.hid (show fewP xs l = false by have : ¬ xs.length ≤ 100 := by omega
                                                  simp [fewP, this])
    go_enter Try.func5, Try.ntmps5
    go_wp2_with fail
    go_ret
    exact ⟨ret_bool Hr.out.symm, rfl⟩
  by_cases h30 : 30 < (l.length : Int)
  · have Hr := Lib.hid (show fewP xs l = false by have : ¬ l.length ≤ 30 := by omega
                                                  simp [fewP, this])
    go_enter Try.func5, Try.ntmps5
    go_wp2_with fail
    go_ret
    exact ⟨ret_bool Hr.out.symm, rfl⟩
  go_enter Try.func5, Try.ntmps5
  go_wp2_with fail
  go_loop [5] (fun i => ∃ k : Nat, k ≤ xs.length ∧ i = .int .i64 k ∧ Hid ((xs.take k).all itmSmall = true)) (fun i => xs.length - (RowKit.intOf i).toNat)
  case atStart => exact ⟨0, Nat.zero_le _, rfl, Lib.hid rfl⟩
  case round =>
    obtain ⟨k, hk, rfl, Hk⟩ := hrel
    by_cases hlt : k < xs.length
    · obtain ⟨x, hx⟩ := at_some hlt
      obtain ⟨b, off, rfl, hbl, c0, c1, c2, c3, c4, c5⟩ := itm_at HA.out hx
      have Hx := Lib.hid hx
      clear hx
      by_cases h1 : 500 < (x.path.size : Int)
      · have Hr := Lib.hid (show fewP xs l = false by rw [fewP, all_bad Hx.out (show itmSmall x = false by simp [itmSmall]; omega)]; simp)
        go_wp2_with fail
        go_ret
        exact ⟨ret_bool Hr.out.symm, rfl⟩
      · by_cases h2 : 1000 < (x.man.size : Int)
        · have Hr := Lib.hid (show fewP xs l = false by rw [fewP, all_bad Hx.out (show itmSmall x = false by simp [itmSmall]; omega)]; simp)
          go_wp2_with fail
          go_ret
          exact ⟨ret_bool Hr.out.symm, rfl⟩
        · have Hs := Lib.hid (all_step Hx.out (show itmSmall x = true by simp [itmSmall]; omega) Hk.out)
          go_wp2_with fail
          go_round
          case rel => exact ⟨k + 1, by omega, by go_num, Hs⟩
          case measure => simp [RowKit.intOf]; omega
    · obtain rfl : k = xs.length := by omega
      have Hall := Lib.hid (all_full Hk.out)
      clear Hk
      go_wp2_with fail
      go_loop [6] (fun i => ∃ k : Nat, k ≤ l.length ∧ i = .int .i64 k ∧ Hid ((l.take k).all rulSmall = true)) (fun i => l.length - (RowKit.intOf i).toNat)
      case atStart => exact ⟨0, Nat.zero_le _, rfl, Lib.hid rfl⟩
      case round =>
        obtain ⟨k, hk, rfl, Hk⟩ := hrel
        by_cases hlt : k < l.length
        · obtain ⟨x, hx⟩ := at_some hlt
          obtain ⟨b, off, rfl, hbl, c0, c1⟩ := rul_at HA'.out hx
          have Hx := Lib.hid hx
          clear hx
          by_cases h1 : 500 < (x.text.size : Int)
          · have Hr := Lib.hid (show fewP xs l = false by rw [fewP, all_bad Hx.out (show rulSmall x = false by simp [rulSmall]; omega)]; simp)
            go_wp2_with fail
            go_ret
            exact ⟨ret_bool Hr.out.symm, rfl⟩
          · have Hs := Lib.hid (all_step Hx.out (show rulSmall x = true by simp [rulSmall]; omega) Hk.out)
            go_wp2_with fail
            go_round
            case rel => exact ⟨k + 1, by omega, by go_num, Hs⟩
            case measure => simp [RowKit.intOf]; omega
        · obtain rfl : k = l.length := by omega
          have Hr := Lib.hid (show fewP xs l = true by rw [fewP, Hall.out, all_full Hk.out]; simp; omega)
          go_wp2_with fail
          go_ret
          exact ⟨ret_bool Hr.out.symm, rfl⟩

set_option maxRecDepth 100000 in
set_option maxHeartbeats 1600000 in
theorem held_any (a a' : Option Addr) (cap cap' : Nat) (xs : List Itm) (l : List Rul) (w : World) (hxs : ∀ x ∈ xs, x.path.size ≤ 100000) (hlx : xs.length ≤ 100000) (hsz : ∀ x ∈ l, x.text.size ≤ 100000) (hl : l.length ≤ 1000)
    (ha : RowsAt itmLay w a xs) (ha' : RowsAt rulLay w a' l) :
    Calls Try.prog 13 #[.slice a xs.length cap, .slice a' l.length cap'] w fun e w' => ∃ v, e = .returned v ∧ OwnRows boolLay w' w.heap.size 4 v (xs.map (inG l)) ∧ Below w.heap.size w w' := by
  obtain ⟨i0, hi, hz0, hz1, hz2⟩ := info_parts boolInfo
  have Hi := Lib.hid hi
  have Hz0 := Lib.hid hz0
  have Hz1 := Lib.hid hz1
  have Hz2 := Lib.hid hz2
  have HA := Lib.hid ha
  have HM := Lib.hid fun p d W (hp : p.size ≤ 100000) (hb : Below w.heap.size w W) => match_any a' cap' l p d W hsz hl hp (ha'.keeps hb)
  have Hxs := Lib.hid hxs
  clear hi hz0 hz1 hz2 ha ha' hsz hxs
  go_enter Try.func13, Try.ntmps13
  go_wp2_with fail
  go_loopw [5, 10] (fun va i wr => ∃ k : Nat, k ≤ xs.length ∧ i = .int .i64 k ∧ OwnRows boolLay wr w.heap.size 4 va ((xs.map (inG l)).take k) ∧ Below w.heap.size w wr) (fun _ i _ => xs.length - (RowKit.intOf i).toNat)
  case atStart => exact ⟨0, Nat.zero_le _, rfl, OwnRows.nil _ _ _ _, Below.refl _ _⟩
  case round =>
    obtain ⟨k, hk, rfl, hoa, hb⟩ := hrel
    by_cases hlt : k < xs.length
    · obtain ⟨x, hx⟩ := at_some hlt
      obtain ⟨b, off, rfl, hbl, c0, c1, c2, c3, c4, c5⟩ := itm_at (HA.out.keeps hb) hx
      have hpx := Hxs.out x (List.mem_of_getElem? hx)
      have Hst := Lib.hid (show (xs.map (inG l)).take (k + 1) = (xs.map (inG l)).take k ++ [matchG l x.path x.dir] by rw [List.take_add_one, List.getElem?_map, hx]; rfl)
      have hlen : ((xs.map (inG l)).take k).length ≤ 100000 := by simp; omega
      obtain ⟨xp, xc, xw, xd, xg, xm⟩ := x
      dsimp only at c0 c1 c2 c3 c4 c5 hpx Hst
      generalize (xs.map (inG l)).take k = out at *
      generalize hmx : matchG l xp xd = mx at *
      clear hx
      go_wp2_with fail
      refine (HM.out xp xd _ hpx (hb.alloc hb.size _)).mono ?_
      rintro e w2 ⟨rfl, hb2⟩
      rw [hmx]
      have hb3 := (hb.alloc hb.size _).trans (hb2.mono (hb.alloc hb.size _).size)
      have hoa2 := (hoa.alloc _).below hb2
      clear hoa hb hb2 c0 c1 c2 c3 c4 c5
      go_wp2_with (at_builtin; refine wpList_append_rows _ rfl _ _ 39 rfl boolLay w.heap.size 4 i0 (.bool false) 1 Try.underlying39 Hi.out Hz0.out Hz1.out Hz2.out rfl (by decide) _ _ rfl (hoa2.alloc _) ⟨w2.heap.size, 0, none⟩ 1 mx rfl (cells_new_at w2 w2.heap.size #[.bool mx] 4 rfl) (by unfold maxLen; omega) (by omega) (by have := hb3.size; simp; omega) ?_)
      intro va w4 hoa4 hg4 _
      have hb4 := (hb3.alloc hb3.size (.cells #[.bool mx] 4)).grown hg4 (by have := hb3.size; simp; omega) (fun j ej => (hoa2.lt ej).1)
      clear hg4 hoa2
      go_wp2_with fail
      go_roundw
      case rel =>
        refine ⟨k + 1, by omega, by go_num, ?_, hb4⟩
        rw [Hst.out]
        exact hoa4
      case measure => simp [RowKit.intOf]; omega
    · obtain rfl : k = xs.length := by omega
      have hfull : (xs.map (inG l)).take xs.length = xs.map (inG l) := by rw [List.take_of_length_le (by simp)]
      rw [hfull] at hoa
      clear hfull
      go_wp2_with fail
      go_ret
      exact ⟨_, rfl, hoa, hb⟩

set_option maxRecDepth 100000 in
set_option maxHeartbeats 1600000 in
theorem in12_any (a' : Option Addr) (cap' : Nat) (x : Itm) (l : List Rul) (w : World) (hx : x.path.size ≤ 100000) (hsz : ∀ x ∈ l, x.text.size ≤ 100000) (hl : l.length ≤ 1000) (ha' : RowsAt rulLay w a' l) :
    Calls Try.prog 14 #[.agg #[.string x.path, .int .i64 x.cnt, .int .i64 x.who, .bool x.dir, .bool x.ghost, .string x.man], .slice a' l.length cap'] w fun e w' => e = .returned (.bool (inG l x)) ∧ Below w.heap.size w w' := by
  obtain ⟨xp, xc, xw, xd, xg, xm⟩ := x
  have hb0 := (Below.refl w.heap.size w).alloc (Nat.le_refl _) (.cells #[.string xp, .int .i64 xc, .int .i64 xw, .bool xd, .bool xg, .string xm] 36)
  have HM := Lib.hid (rmatch_any a' cap' l xp xd _ hsz hl hx (ha'.keeps hb0))
  clear ha' hsz
  go_enter Try.func14, Try.ntmps14
  go_wp2_with fail
  refine HM.out.mono ?_
  rintro e w2 ⟨rfl, hb2⟩
  go_wp2_with fail
  go_ret
  exact ⟨rfl, below_box hb2⟩

set_option maxHeartbeats 800000 in
theorem above_any (d p : ByteArray) (w : World) (hd : d.size ≤ 100000) :
    Calls Try.prog 15 #[.string d, .string p] w fun e w' => e = .returned (.bool (underB p d)) ∧ w = w' := by
  by_cases h1 : d.size + 1 < p.size
  · have hlo : (d.size : Int) < p.size := by omega
    have hlt3 : d.size < p.size := by omega
    by_cases h2 : p.extract 0 d.size = d
    · have e3 := str_eq h2
      by_cases h3 : p[d.size] = 47
      · have e4 : ((p[d.size].toNat : Int) == 47) = true := by rw [h3]; rfl
        have Hr := Lib.hid (under_yes h1 h2 h3)
        clear h2 h3
        go_enter Try.func15, Try.ntmps15
        go_wp2_with fail
        go_ret
        exact ⟨ret_bool Hr.out.symm, rfl⟩
      · have e4 : ((p[d.size].toNat : Int) == 47) = false := byte_ne h3
        have Hr := Lib.hid (under_no3 hlt3 h3)
        clear h2 h3
        go_enter Try.func15, Try.ntmps15
        go_wp2_with fail
        go_ret
        exact ⟨ret_bool Hr.out.symm, rfl⟩
    · have e3 := str_ne h2
      have Hr := Lib.hid (under_no2 h2)
      clear h2
      go_enter Try.func15, Try.ntmps15
      go_wp2_with fail
      go_ret
      exact ⟨ret_bool Hr.out.symm, rfl⟩
  · have hu : underB p d = false := by unfold underB; simp [h1]
    have Hr := Lib.hid hu
    clear hu
    have h1 : ¬ ((d.size : Int) + 1 < p.size) := by omega
    go_enter Try.func15, Try.ntmps15
    go_wp2_with fail
    go_ret
    exact ⟨ret_bool Hr.out.symm, rfl⟩
end Go.Proofs.Ytmhfficfojfknaa
