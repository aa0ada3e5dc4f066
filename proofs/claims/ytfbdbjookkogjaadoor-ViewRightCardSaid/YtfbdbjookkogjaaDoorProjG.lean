/-
  
-/
import Derived.Test.YtfbdbjookkogjaaDoorProjW1
import Derived.Test.YtfbdbjookkogjaaDoorRange
import Derived.Test.YtfbdbjookkogjaaDoorAppends
namespace Go.Proofs.YtfbdbjookkogjaaDoor
open Go Go.RowKit Go.Lib

theorem all_bad {α : Type} {p : α → Bool} {l : List α} {k : Nat} {x : α} (hx : l[k]? = some x) (h : p x = false) : l.all p = false := by
  rw [List.all_eq_false]
  exact ⟨x, List.mem_of_getElem? hx, by simp [h]⟩
theorem all_step {α : Type} {p : α → Bool} {l : List α} {k : Nat} {x : α} (hx : l[k]? = some x) (h : p x = true) (h0 : (l.take k).all p = true) : (l.take (k + 1)).all p = true := by
  rw [List.take_add_one, hx, Option.toList_some, List.all_append, h0]
  simp [h]
theorem all_full {α : Type} {p : α → Bool} {l : List α} (h : (l.take l.length).all p = true) : l.all p = true := by rwa [List.take_length] at h

def itmSmall (x : Itm) : Bool := decide (x.path.size ≤ 500) && decide (x.man.size ≤ 1000)
def rulSmall (x : Rul) : Bool := decide (x.text.size ≤ 500)
def fewP (xs : List Itm) (l : List Rul) : Bool := decide (xs.length ≤ 100) && decide (l.length ≤ 30) && xs.all itmSmall && l.all rulSmall

set_option maxRecDepth 100000 in
set_option maxHeartbeats 1600000 in
theorem few12_any (a a' : Option Addr) (cap cap' : Nat) (xs : List Itm) (l : List Rul) (w : World) (ha : RowsAt itmLay w a xs) (ha' : RowsAt rulLay w a' l) :
    Calls Tryd.prog 41 #[.slice a xs.length cap, .slice a' l.length cap'] w fun e w' => e = .returned (.bool (fewP xs l)) ∧ w = w' := by
  have HA := Lib.hid ha
  have HA' := Lib.hid ha'
  clear ha ha'
  by_cases h100 : 100 < (xs.length : Int)
  · have Hr := Lib.hid (show fewP xs l = false by have : ¬ xs.length ≤ 100 := by omega
                                                  simp [fewP, this])
    go_enter Tryd.func41, Tryd.ntmps41
    go_wp2_with fail
    go_ret
    exact ⟨ret_bool Hr.out.symm, rfl⟩
  by_cases h30 : 30 < (l.length : Int)
  · have Hr := Lib.hid (show fewP xs l = false by have : ¬ l.length ≤ 30 := by omega
                                                  simp [fewP, this])
    go_enter Tryd.func41, Tryd.ntmps41
    go_wp2_with fail
    go_ret
    exact ⟨ret_bool Hr.out.symm, rfl⟩
  go_enter Tryd.func41, Tryd.ntmps41
  go_wp2_with fail
  go_loop [5] (fun i => ∃ k : Nat, k ≤ xs.length ∧ i = .int .i64 k ∧ Hid ((xs.take k).all itmSmall = true)) (fun i => xs.length - (RowKit.intOf i).toNat)
  case atStart => exact ⟨0, Nat.zero_le _, rfl, Lib.hid rfl⟩
  case round =>
    obtain ⟨k, hk, rfl, Hk⟩ := hrel
    by_cases hlt : k < xs.length
    · obtain ⟨x, hx⟩ := at_some hlt
      obtain ⟨b, off, rfl, hbl, c0, c1, c2, c3, c4, c5⟩ := itm_at HA.out hx
      have Hx := Lib.hid hx
      clear hx
      by_cases h1 : 500 < (x.path.size : Int)
      · have Hr := Lib.hid (show fewP xs l = false by rw [fewP, all_bad Hx.out (show itmSmall x = false by simp [itmSmall]; omega)]; simp)
        go_wp2_with fail
        go_ret
        exact ⟨ret_bool Hr.out.symm, rfl⟩
      · by_cases h2 : 1000 < (x.man.size : Int)
        · have Hr := Lib.hid (show fewP xs l = false by rw [fewP, all_bad Hx.out (show itmSmall x = false by simp [itmSmall]; omega)]; simp)
          go_wp2_with fail
          go_ret
          exact ⟨ret_bool Hr.out.symm, rfl⟩
        · have Hs := Lib.hid (all_step Hx.out (show itmSmall x = true by simp [itmSmall]; omega) Hk.out)
          go_wp2_with fail
          go_round
          case rel => exact ⟨k + 1, by omega, by go_num, Hs⟩
          case measure => simp [RowKit.intOf]; omega
    · obtain rfl : k = xs.length := by omega
      have Hall := Lib.hid (all_full Hk.out)
      clear Hk
      go_wp2_with fail
      go_loop [6] (fun i => ∃ k : Nat, k ≤ l.length ∧ i = .int .i64 k ∧ Hid ((l.take k).all rulSmall = true)) (fun i => l.length - (RowKit.intOf i).toNat)
      case atStart => exact ⟨0, Nat.zero_le _, rfl, Lib.hid rfl⟩
      case round =>
        obtain ⟨k, hk, rfl, Hk⟩ := hrel
        by_cases hlt : k < l.length
        · obtain ⟨x, hx⟩ := at_some hlt
          obtain ⟨b, off, rfl, hbl, c0, c1⟩ := rul_at HA'.out hx
          have Hx := Lib.hid hx
          clear hx
          by_cases h1 : 500 < (x.text.size : Int)
          · have Hr := Lib.hid (show fewP xs l = false by rw [fewP, all_bad Hx.out (show rulSmall x = false by simp [rulSmall]; omega)]; simp)
            go_wp2_with fail
            go_ret
            exact ⟨ret_bool Hr.out.symm, rfl⟩
          · have Hs := Lib.hid (all_step Hx.out (show rulSmall x = true by simp [rulSmall]; omega) Hk.out)
            go_wp2_with fail
            go_round
            case rel => exact ⟨k + 1, by omega, by go_num, Hs⟩
            case measure => simp [RowKit.intOf]; omega
        · obtain rfl : k = l.length := by omega
          have Hr := Lib.hid (show fewP xs l = true by rw [fewP, Hall.out, all_full Hk.out]; simp; omega)
          go_wp2_with fail
          go_ret
          exact ⟨ret_bool Hr.out.symm, rfl⟩

set_option maxRecDepth 100000 in
set_option maxHeartbeats 1600000 in
theorem held_any (a a' : Option Addr) (cap cap' : Nat) (xs : List Itm) (l : List Rul) (w : World) (hxs : ∀ x ∈ xs, x.path.size ≤ 100000) (hlx : xs.length ≤ 100000) (hsz : ∀ x ∈ l, x.text.size ≤ 100000) (hl : l.length ≤ 1000)
    (ha : RowsAt itmLay w a xs) (ha' : RowsAt rulLay w a' l) :
    Calls Tryd.prog 63 #[.slice a xs.length cap, .slice a' l.length cap'] w fun e w' => ∃ v, e = .returned v ∧ OwnRows boolLay w' w.heap.size 4 v (xs.map (inG l)) ∧ Below w.heap.size w w' := by
  obtain ⟨i0, hi, hz0, hz1, hz2⟩ := info_parts boolInfo
  have Hi := Lib.hid hi
  have Hz0 := Lib.hid hz0
  have Hz1 := Lib.hid hz1
  have Hz2 := Lib.hid hz2
  have HA := Lib.hid ha
  have HM := Lib.hid fun p d W (hp : p.size ≤ 100000) (hb : Below w.heap.size w W) => match_any a' cap' l p d W hsz hl hp (ha'.keeps hb)
  have Hxs := Lib.hid hxs
  clear hi hz0 hz1 hz2 ha ha' hsz hxs
  go_enter Tryd.func63, Tryd.ntmps63
  go_wp2_with fail
  go_loopw [5, 10] (fun va i wr => ∃ k : Nat, k ≤ xs.length ∧ i = .int .i64 k ∧ OwnRows boolLay wr w.heap.size 4 va ((xs.map (inG l)).take k) ∧ Below w.heap.size w wr) (fun _ i _ => xs.length - (RowKit.intOf i).toNat)
  case atStart => exact ⟨0, Nat.zero_le _, rfl, OwnRows.nil _ _ _ _, Below.refl _ _⟩
  case round =>
    obtain ⟨k, hk, rfl, hoa, hb⟩ := hrel
    by_cases hlt : k < xs.length
    · obtain ⟨x, hx⟩ := at_some hlt
      obtain ⟨b, off, rfl, hbl, c0, c1, c2, c3, c4, c5⟩ := itm_at (HA.out.keeps hb) hx
      have hpx := Hxs.out x (List.mem_of_getElem? hx)
      have Hst := Lib.hid (show (xs.map (inG l)).take (k + 1) = (xs.map (inG l)).take k ++ [matchG l x.path x.dir] by rw [List.take_add_one, List.getElem?_map, hx]; rfl)
      have hlen : ((xs.map (inG l)).take k).length ≤ 100000 := by simp; omega
      obtain ⟨xp, xc, xw, xd, xg, xm⟩ := x
      dsimp only at c0 c1 c2 c3 c4 c5 hpx Hst
      generalize (xs.map (inG l)).take k = out at *
      generalize hmx : matchG l xp xd = mx at *
      clear hx
      go_wp2_with fail
      refine (HM.out xp xd _ hpx (hb.alloc hb.size _)).mono ?_
      rintro e w2 ⟨rfl, hb2⟩
      rw [hmx]
      have hb3 := (hb.alloc hb.size _).trans (hb2.mono (hb.alloc hb.size _).size)
      have hoa2 := (hoa.alloc _).below hb2
      clear hoa hb hb2 c0 c1 c2 c3 c4 c5
      go_wp2_with (at_builtin; refine wpList_append_rows _ rfl _ _ 99 rfl boolLay w.heap.size 4 i0 (.bool false) 1 Tryd.underlying99 Hi.out Hz0.out Hz1.out Hz2.out rfl (by decide) _ _ rfl (hoa2.alloc _) ⟨w2.heap.size, 0, none⟩ 1 mx rfl (cells_new_at w2 w2.heap.size #[.bool mx] 4 rfl) (by unfold maxLen; omega) (by omega) (by have := hb3.size; simp; omega) ?_)
      intro va w4 hoa4 hg4 _
      have hb4 := (hb3.alloc hb3.size (.cells #[.bool mx] 4)).grown hg4 (by have := hb3.size; simp; omega) (fun j ej => (hoa2.lt ej).1)
      clear hg4 hoa2
      go_wp2_with fail
      go_roundw
      case rel =>
        refine ⟨k + 1, by omega, by go_num, ?_, hb4⟩
        rw [Hst.out]
        exact hoa4
      case measure => simp [RowKit.intOf]; omega
    · obtain rfl : k = xs.length := by omega
      have hfull : (xs.map (inG l)).take xs.length = xs.map (inG l) := by rw [List.take_of_length_le (by simp)]
      rw [hfull] at hoa
      clear hfull
      go_wp2_with fail
      go_ret
      exact ⟨_, rfl, hoa, hb⟩

end Go.Proofs.YtfbdbjookkogjaaDoor

namespace Go.Proofs.YtfbdbjookkogjaaDoor
open Go Go.RowKit Go.Lib

def yesAt (f : ByteArray → Bool) : ByteArray → Option Value := fun d => if f d then some (.bool true) else none
theorem yesAt_put {f g : ByteArray → Bool} {c : ByteArray} (h : ∀ d, g d = (decide (d = c) || f d)) : ∀ d, yesAt g d = putAt (yesAt f) c (.bool true) d := by
  intro d
  unfold yesAt putAt
  rw [h d]
  by_cases e : d = c
  · simp [e]
  · simp [e]
theorem yesAt_congr {f g : ByteArray → Bool} (h : ∀ d, g d = f d) : ∀ d, yesAt g d = yesAt f d := by
  intro d; unfold yesAt; rw [h d]
theorem yesAt_get (f : ByteArray → Bool) (d : ByteArray) : (yesAt f d).getD (.bool false) = .bool (f d) := by
  unfold yesAt; cases f d <;> rfl

theorem show_in {l : List Rul} {xs : List Itm} {x : Itm} (h : inG l x = true) : showG l xs x = some { x with ghost := false } := by simp [showG, h]
theorem show_ghost {l : List Rul} {xs : List Itm} {x : Itm} (h : inG l x = false) (h2 : (x.dir && overG l xs xs.length x.path) = true) : showG l xs x = some { x with ghost := true, man := ⟨#[]⟩ } := by
  unfold showG; rw [h, h2]; rfl
theorem show_none {l : List Rul} {xs : List Itm} {x : Itm} (h : inG l x = false) (h2 : (x.dir && overG l xs xs.length x.path) = false) : showG l xs x = none := by
  unfold showG; rw [h, h2]; rfl

set_option maxRecDepth 100000 in
set_option maxHeartbeats 3200000 in
theorem project_any (a a' : Option Addr) (cap cap' : Nat) (xs : List Itm) (l : List Rul) (w : World) (hxs : ∀ x ∈ xs, x.path.size ≤ 100000) (hlx : xs.length ≤ 100000) (hsz : ∀ x ∈ l, x.text.size ≤ 100000) (hl : l.length ≤ 1000)
    (ha : RowsAt itmLay w a xs) (ha' : RowsAt rulLay w a' l) :
    Calls Tryd.prog 42 #[.slice a xs.length cap, .slice a' l.length cap'] w fun e w' => ∃ v, e = .returned v ∧ OwnRows itmLay w' w.heap.size 34 v (projG l xs xs.length) ∧ Below w.heap.size w w' := by
  obtain ⟨i0, hi, hz0, hz1, hz2⟩ := info_parts itmInfo
  have Hi := Lib.hid hi
  have Hz0 := Lib.hid hz0
  have Hz1 := Lib.hid hz1
  have Hz2 := Lib.hid hz2
  have HA := Lib.hid ha
  have HH := Lib.hid (held_any a a' cap cap' xs l w hxs hlx hsz hl ha ha')
  have Hxs := Lib.hid hxs
  have hmm := @run_makeMap Tryd.prog
  clear hi hz0 hz1 hz2 ha ha' hsz hxs hl
  go_enter Tryd.func42, Tryd.ntmps42
  go_wp2_with fail
  refine HH.out.mono ?_
  rintro e w1 ⟨v1, rfl, hob1, hb1⟩
  obtain ⟨ba, bc, rfl, hrb, _⟩ := hob1.read
  rw [List.length_map]
  have HB := Lib.hid hrb
  clear hob1 HH hrb
  go_wp2_with fail
  have hm0 := (MapOf.made (inj := Value.string) w1).congr (g' := yesAt fun d => overG l xs 0 d) (fun d => by simp [yesAt, overG])
  have hbm0 := (Below.refl w1.heap.size w1).alloc (Nat.le_refl _) (.map #[] 0)
  clear hmm
  go_loopw [19] (fun i wr => ∃ k n : Nat, k ≤ xs.length ∧ i = .int .i64 k ∧ MapOf Value.string wr w1.heap.size n (yesAt fun d => overG l xs k d) ∧ Below w1.heap.size w1 wr) (fun i _ => xs.length - (RowKit.intOf i).toNat)
  case atStart => exact ⟨0, _, Nat.zero_le _, rfl, hm0, hbm0⟩
  case round =>
    clear hm0 hbm0
    obtain ⟨k, n, hk, rfl, hm, hb⟩ := hrel
    have hb2 := hb1.trans (hb.mono hb1.size)
    have hbs := hb.size
    by_cases hlt : k < xs.length
    · obtain ⟨x, hx⟩ := at_some hlt
      obtain ⟨b, off, rfl, hbl, c0, c1, c2, c3, c4, c5⟩ := itm_at (HA.out.keeps hb2) hx
      obtain ⟨bb, bo, rfl, hbbl, d0⟩ := bool_at (HB.out.keeps hb) (show (xs.map (inG l))[k]? = some (inG l x) by rw [List.getElem?_map, hx]; rfl)
      have hpx := Hxs.out x (List.mem_of_getElem? hx)
      have Hst := Lib.hid fun d => overG_step (l := l) hx d
      obtain ⟨xp, xc, xw, xd, xg, xm⟩ := x
      generalize hix : inG l ⟨xp, xc, xw, xd, xg, xm⟩ = ix at *
      dsimp only at c0 c1 c2 c3 c4 c5 hpx Hst
      clear hx hix
      have hmx := hm.alloc (.cells #[.string xp, .int .i64 xc, .int .i64 xw, .bool xd, .bool xg, .string xm] 34)
      have hbx := hb.alloc hbs (.cells #[.string xp, .int .i64 xc, .int .i64 xw, .bool xd, .bool xg, .string xm] 34)
      have hlm := hm.lt
      cases ix with
      | false =>
        go_wp2_with fail
        go_roundw
        case rel => exact ⟨k + 1, n, by omega, by go_num, hmx.congr (yesAt_congr fun d => by rw [Hst.out d]; simp), hbx⟩
        case measure => simp [RowKit.intOf]; omega
      | true =>
        go_wp2_with fail
        have hx0 : (wr.alloc (.cells #[.string xp, .int .i64 xc, .int .i64 xw, .bool xd, .bool xg, .string xm] 34)).cell? ⟨wr.heap.size, 0, none⟩ = some (.string xp) := by simp
        have hxs1 : (wr.alloc (.cells #[.string xp, .int .i64 xc, .int .i64 xw, .bool xd, .bool xg, .string xm] 34)).heap.size = wr.heap.size + 1 := by simp
        generalize hWX : wr.alloc (.cells #[.string xp, .int .i64 xc, .int .i64 xw, .bool xd, .bool xg, .string xm] 34) = WX at *
        have hit := iter_new WX xp (wr.heap.size + 1) hxs1.symm
        have hmi : MapOf Value.string (WX.iter xp 0) w1.heap.size n (yesAt fun d => overG l xs k d || upTo xp 0 d) := (hmx.alloc (.stringIter xp 0)).congr (yesAt_congr fun d => by rw [upTo_zero]; simp)
        have hbi : Below w1.heap.size w1 (WX.iter xp 0) := hbx.alloc (by omega) (.stringIter xp 0)
        have hci : (WX.iter xp 0).cell? ⟨wr.heap.size, 0, none⟩ = some (.string xp) := (World.grownBy_alloc WX (.stringIter xp 0) none).cell hx0 (by simp)
        have hsi : (WX.iter xp 0).heap.size = wr.heap.size + 2 := by show (WX.alloc _).heap.size = _; simp; omega
        clear hmx hbx hx0 c0 c1 c2 c3 c4 c5 d0 hWX hxs1 hm hb hb2
        generalize WX.iter xp 0 = WI at *
        go_loopw [9] (fun _ wr' => ∃ pos n : Nat, wr'.heap[wr.heap.size + 1]? = some (.stringIter xp pos) ∧ MapOf Value.string wr' w1.heap.size n (yesAt fun d => overG l xs k d || upTo xp pos d) ∧ Below w1.heap.size w1 wr' ∧ wr'.cell? ⟨wr.heap.size, 0, none⟩ = some (.string xp) ∧ wr.heap.size + 2 ≤ wr'.heap.size) (fun _ wr' => xp.size - wr'.iterPos (wr.heap.size + 1))
        case atStart => exact ⟨0, n, hit, hmi, hbi, hci, by omega⟩
        case round =>
          clear hit hmi hbi hci hsi
          obtain ⟨pos, n, hit, hm, hb, hc, hsz⟩ := hrel
          have hip := iterPos_of hit
          by_cases hp : pos < xp.size
          · obtain ⟨wn, hnx, hitn, hgn⟩ := next_more (P := Tryd.prog) hit hp
            have hmn := hm.grown hgn (by simp; omega)
            have hbn := hb.grown hgn (by omega) (fun j ej => by cases ej; omega)
            have hcn := hgn.cell hc (by simp)
            have hszn := hgn.size
            clear hm hb hc hgn hit
            by_cases h47 : xp[pos] = 47 ∧ pos + 1 < xp.size
            · obtain ⟨h1, h2⟩ := h47
              have Hup := Lib.hid fun d => upTo_put hp h1 h2 d
              have e1 : ((xp[pos].toNat : Int) == 47) = true := by rw [h1]; rfl
              have h2' : ((pos : Int) + 1 < xp.size) := by omega
              clear h1
              go_wp2_with (at_mapUpdate; refine wpList_mapUpdate_of rfl _ _ _ 101 rfl 9 4 mapK Tryd.underlying101 rfl hmn (xp.extract 0 pos) rfl _ rfl ?_)
              intro w5 hm5 hg5
              have hit5 := hg5.block _ (Array.getElem?_eq_some_iff.1 hitn).1 (by simp; omega)
              have hb5 := hbn.grown hg5 (by omega) (fun j ej => by cases ej; omega)
              have hc5 := hg5.cell hcn (by simp; omega)
              have hs5 := hg5.size
              have hm6 := hm5.congr (yesAt_put (f := fun d => overG l xs k d || upTo xp pos d) (g := fun d => overG l xs k d || upTo xp (pos + (Utf8.decode xp pos).2) d) fun d => by rw [Hup.out d]; cases overG l xs k d <;> simp)
              rw [hitn] at hit5
              have hw := rune_width xp pos hp
              clear hm5 hg5 hmn hbn hcn hitn e1 hnx
              go_wp2_with fail
              go_roundw
              case rel => exact ⟨_, _, hit5, hm6, hb5, hc5, by omega⟩
              case measure => rw [iterPos_of hit5, hip]; omega
            · have Hup := Lib.hid fun d => upTo_skip hp h47 d
              have hm6 := hmn.congr (g' := yesAt fun d => overG l xs k d || upTo xp (pos + (Utf8.decode xp pos).2) d) (yesAt_congr fun d => by rw [Hup.out d])
              have hw := rune_width xp pos hp
              clear hmn
              by_cases h1 : xp[pos] = 47
              · have e1 : ((xp[pos].toNat : Int) == 47) = true := by rw [h1]; rfl
                have h2' : ¬ ((pos : Int) + 1 < xp.size) := by have : ¬ pos + 1 < xp.size := fun h2 => h47 ⟨h1, h2⟩; omega
                clear h1 h47
                go_wp2_with fail
                go_roundw
                case rel => exact ⟨_, _, hitn, hm6, hbn, hcn, by omega⟩
                case measure => rw [iterPos_of hitn, hip]; omega
              · have e1 : ((xp[pos].toNat : Int) == 47) = false := byte_ne h1
                clear h1 h47
                go_wp2_with fail
                go_roundw
                case rel => exact ⟨_, _, hitn, hm6, hbn, hcn, by omega⟩
                case measure => rw [iterPos_of hitn, hip]; omega
          · have hnx := next_done (P := Tryd.prog) hit hp
            go_wp2_with fail
            go_roundw
            case rel => exact ⟨k + 1, n, by omega, by go_num, hm.congr (yesAt_congr fun d => by rw [Hst.out d, upTo_end _ _ _ (by omega)]; simp), hb⟩
            case measure => simp [RowKit.intOf]; omega
    · obtain rfl : k = xs.length := by omega
      clear hbs hk hlt
      generalize hwo : wr = wo at *
      clear hwo wr
      go_wp2_with fail
      go_loopw [10, 56] (fun va i wr => ∃ k : Nat, k ≤ xs.length ∧ i = .int .i64 k ∧ OwnRows itmLay wr wo.heap.size 34 va (projG l xs k) ∧ Below wo.heap.size wo wr) (fun _ i _ => xs.length - (RowKit.intOf i).toNat)
      case atStart => exact ⟨0, Nat.zero_le _, rfl, OwnRows.nil _ _ _ _, Below.refl _ _⟩
      case round =>
        obtain ⟨k, hk, rfl, hoa, hbl⟩ := hrel
        have hml := hm.below hbl hm.lt
        by_cases hlt : k < xs.length
        · obtain ⟨x, hx⟩ := at_some hlt
          have hbq := hb.trans (hbl.mono hb.size)
          have hb2q := hb1.trans (hbq.mono hb1.size)
          obtain ⟨b, off, rfl, hbl1, c0, c1, c2, c3, c4, c5⟩ := itm_at (HA.out.keeps hb2q) hx
          obtain ⟨bb, bo, rfl, hbbl, d0⟩ := bool_at (HB.out.keeps hbq) (show (xs.map (inG l))[k]? = some (inG l x) by rw [List.getElem?_map, hx]; rfl)
          have Hst := Lib.hid (projG_step (l := l) hx)
          have hplen := projG_len l xs k
          have hsz1 := hbl.size
          cases hix : inG l x with
          | true =>
            have Hsh := Lib.hid (show_in (xs := xs) hix)
            obtain ⟨xp, xc, xw, xd, xg, xm⟩ := x
            dsimp only at c0 c1 c2 c3 c4 c5 Hsh
            rw [hix] at d0
            clear hx hix
            generalize projG l xs k = out at *
            go_wp2_with (at_builtin; refine wpList_append_rows _ rfl _ _ 25 rfl itmLay wo.heap.size 34 i0 (.agg #[.string ⟨#[]⟩, .int .i64 0, .int .i64 0, .bool false, .bool false, .string ⟨#[]⟩]) 56 Tryd.underlying25 Hi.out Hz0.out Hz1.out Hz2.out rfl (by decide) _ _ rfl ((hoa.alloc _).alloc _) ⟨wr.heap.size + 1, 0, none⟩ 1 ⟨xp, xc, xw, xd, false, xm⟩ rfl (cells_new_at _ (wr.heap.size + 1) #[.string xp, .int .i64 xc, .int .i64 xw, .bool xd, .bool false, .string xm] 34 (by simp)) (by unfold maxLen; omega) (by omega) (by simp; omega) ?_)
            intro va w4 hoa4 hg4 _
            have hb4 := ((hbl.alloc hsz1 (.cells #[.string xp, .int .i64 xc, .int .i64 xw, .bool xd, .bool false, .string xm] 34)).alloc (by simp; omega) (.cells #[.string xp, .int .i64 xc, .int .i64 xw, .bool xd, .bool false, .string xm] 34)).grown hg4 (by simp; omega) (fun j ej => (hoa.lt ej).1)
            clear hg4 hoa
            go_wp2_with fail
            go_roundw
            case rel =>
              refine ⟨k + 1, by omega, by go_num, ?_, hb4⟩
              rw [Hst.out, Hsh.out]
              exact hoa4
            case measure => simp [RowKit.intOf]; omega
          | false =>
            have Hng := Lib.hid hix
            obtain ⟨xp, xc, xw, xd, xg, xm⟩ := x
            dsimp only at c0 c1 c2 c3 c4 c5
            rw [hix] at d0
            have hlk := fun (W : World) (h : MapOf Value.string W w1.heap.size n (yesAt fun d => overG l xs xs.length d)) => h.lookup mapK Tryd.underlying101 xp (zeroBool _)
            have hlk1 := hlk _ (hml.alloc (.cells #[.string xp, .int .i64 xc, .int .i64 xw, .bool xd, .bool true, .string ⟨#[]⟩] 34))
            rw [yesAt_get] at hlk1
            clear hx hix hlk
            cases xd with
            | false =>
              have Hsh := Lib.hid (show_none (l := l) (xs := xs) (x := ⟨xp, xc, xw, false, xg, xm⟩) Hng.out rfl)
              have hb4 := hbl.alloc hsz1 (.cells #[.string xp, .int .i64 xc, .int .i64 xw, .bool false, .bool true, .string ⟨#[]⟩] 34)
              have hoa4 := hoa.alloc (.cells #[.string xp, .int .i64 xc, .int .i64 xw, .bool false, .bool true, .string ⟨#[]⟩] 34)
              generalize projG l xs k = out at *
              go_wp2_with fail
              go_roundw
              case rel => exact ⟨k + 1, by omega, by go_num, by rw [Hst.out, Hsh.out]; simpa using hoa4, hb4⟩
              case measure => simp [RowKit.intOf]; omega
            | true =>
              generalize hov : overG l xs xs.length xp = ov at *
              cases ov with
              | false =>
                have Hsh := Lib.hid (show_none (l := l) (xs := xs) (x := ⟨xp, xc, xw, true, xg, xm⟩) Hng.out (by rw [hov]; rfl))
                have hb4 := hbl.alloc hsz1 (.cells #[.string xp, .int .i64 xc, .int .i64 xw, .bool true, .bool true, .string ⟨#[]⟩] 34)
                have hoa4 := hoa.alloc (.cells #[.string xp, .int .i64 xc, .int .i64 xw, .bool true, .bool true, .string ⟨#[]⟩] 34)
                generalize projG l xs k = out at *
                clear hov
                go_wp2_with fail
                go_roundw
                case rel => exact ⟨k + 1, by omega, by go_num, by rw [Hst.out, Hsh.out]; simpa using hoa4, hb4⟩
                case measure => simp [RowKit.intOf]; omega
              | true =>
                have Hsh := Lib.hid (show_ghost (l := l) (xs := xs) (x := ⟨xp, xc, xw, true, xg, xm⟩) Hng.out (by rw [hov]; rfl))
                generalize projG l xs k = out at *
                clear hov
                go_wp2_with (at_builtin; refine wpList_append_rows _ rfl _ _ 25 rfl itmLay wo.heap.size 34 i0 (.agg #[.string ⟨#[]⟩, .int .i64 0, .int .i64 0, .bool false, .bool false, .string ⟨#[]⟩]) 56 Tryd.underlying25 Hi.out Hz0.out Hz1.out Hz2.out rfl (by decide) _ _ rfl ((hoa.alloc _).alloc _) ⟨wr.heap.size + 1, 0, none⟩ 1 ⟨xp, xc, xw, true, true, ⟨#[]⟩⟩ rfl (cells_new_at _ (wr.heap.size + 1) #[.string xp, .int .i64 xc, .int .i64 xw, .bool true, .bool true, .string ⟨#[]⟩] 34 (by simp)) (by unfold maxLen; omega) (by omega) (by simp; omega) ?_)
                intro va w4 hoa4 hg4 _
                have hb4 := ((hbl.alloc hsz1 (.cells #[.string xp, .int .i64 xc, .int .i64 xw, .bool true, .bool true, .string ⟨#[]⟩] 34)).alloc (by simp; omega) (.cells #[.string xp, .int .i64 xc, .int .i64 xw, .bool true, .bool true, .string ⟨#[]⟩] 34)).grown hg4 (by simp; omega) (fun j ej => (hoa.lt ej).1)
                clear hg4 hoa
                go_wp2_with fail
                go_roundw
                case rel =>
                  refine ⟨k + 1, by omega, by go_num, ?_, hb4⟩
                  rw [Hst.out, Hsh.out]
                  exact hoa4
                case measure => simp [RowKit.intOf]; omega
        · obtain rfl : k = xs.length := by omega
          go_wp2_with fail
          go_ret
          have hb9 := hb.trans (hbl.mono hb.size)
          exact ⟨_, rfl, hoa.lower (Nat.le_trans hb1.size hb.size), hb1.trans (hb9.mono hb1.size)⟩
end Go.Proofs.YtfbdbjookkogjaaDoor

namespace Go.Proofs.YtfbdbjookkogjaaDoor
open Go Go.RowKit Go.Lib

theorem over_more {l : List Rul} {xs : List Itm} {m : Nat} {d : ByteArray} (h : overG l xs m d = true) : overG l xs xs.length d = true := by
  rw [overG_all]
  unfold overG at h
  rw [List.any_eq_true] at h ⊢
  obtain ⟨y, hy, e⟩ := h
  exact ⟨y, List.mem_of_mem_take hy, e⟩
theorem keep7 {W w1 w2 : World} {p0 p1 p2 p3 p4 p5 p6 : Addr} {v0 v1 v2 v3 v4 v5 v6 : Value} (hb : Below W.heap.size W w1) (h : Below w1.heap.size w1 w2)
    (c0 : W.cell? p0 = some v0) (c1 : W.cell? p1 = some v1) (c2 : W.cell? p2 = some v2) (c3 : W.cell? p3 = some v3) (c4 : W.cell? p4 = some v4) (c5 : W.cell? p5 = some v5) (c6 : W.cell? p6 = some v6)
    (l0 : p0.block < W.heap.size) (l1 : p1.block < W.heap.size) (l2 : p2.block < W.heap.size) (l3 : p3.block < W.heap.size) (l4 : p4.block < W.heap.size) (l5 : p5.block < W.heap.size) (l6 : p6.block < W.heap.size) :
    Below W.heap.size W w2 ∧ w2.cell? p0 = some v0 ∧ w2.cell? p1 = some v1 ∧ w2.cell? p2 = some v2 ∧ w2.cell? p3 = some v3 ∧ w2.cell? p4 = some v4 ∧ w2.cell? p5 = some v5 ∧ w2.cell? p6 = some v6 := by
  have hb2 := hb.trans (h.mono hb.size)
  exact ⟨hb2, (hb2.cell l0).trans c0, (hb2.cell l1).trans c1, (hb2.cell l2).trans c2, (hb2.cell l3).trans c3, (hb2.cell l4).trans c4, (hb2.cell l5).trans c5, (hb2.cell l6).trans c6⟩

/-- The variable x of arbourref12.Project, as it lies in memory. -/
def BoxIs (W : World) (b : Nat) (x : Itm) : Prop := W.cell? ⟨b, 0, none⟩ = some (.string x.path) ∧ W.cell? ⟨b, 1, none⟩ = some (.int .i64 x.cnt) ∧ W.cell? ⟨b, 2, none⟩ = some (.int .i64 x.who) ∧ W.cell? ⟨b, 3, none⟩ = some (.bool x.dir) ∧
  W.cell? ⟨b, 4, none⟩ = some (.bool x.ghost) ∧ W.cell? ⟨b, 5, none⟩ = some (.string x.man) ∧ ∀ i, W.frozen? ⟨b, i, none⟩ = false
theorem BoxIs.new (W : World) (x : Itm) : BoxIs (W.alloc (.cells #[.string x.path, .int .i64 x.cnt, .int .i64 x.who, .bool x.dir, .bool x.ghost, .string x.man] 34)) W.heap.size x := by
  refine ⟨?_, ?_, ?_, ?_, ?_, ?_, fun i => ?_⟩ <;> simp
theorem BoxIs.keeps {W W' : World} {b : Nat} {x : Itm} (h : BoxIs W b x) {B : Nat} (hb : Below B W W') (hlt : b < B) : BoxIs W' b x := by
  obtain ⟨h0, h1, h2, h3, h4, h5, hf⟩ := h
  exact ⟨(hb.cell (p := ⟨b, 0, none⟩) hlt).trans h0, (hb.cell (p := ⟨b, 1, none⟩) hlt).trans h1, (hb.cell (p := ⟨b, 2, none⟩) hlt).trans h2, (hb.cell (p := ⟨b, 3, none⟩) hlt).trans h3, (hb.cell (p := ⟨b, 4, none⟩) hlt).trans h4, (hb.cell (p := ⟨b, 5, none⟩) hlt).trans h5, fun i => (hb.frozen (p := ⟨b, i, none⟩) hlt).trans (hf i)⟩

end Go.Proofs.YtfbdbjookkogjaaDoor

namespace Go.Proofs.YtfbdbjookkogjaaDoor
open Go Go.RowKit Go.Lib

def wakeI : List Itm := [⟨⟨#[100]⟩, 0, 0, true, false, ⟨#[]⟩⟩, ⟨⟨#[100, 47, 97, 46, 116, 120, 116]⟩, 0, 0, false, false, ⟨#[109]⟩⟩, ⟨⟨#[101]⟩, 0, 0, false, false, ⟨#[]⟩⟩]
def wakeR : List Rul := [⟨1, ⟨#[100, 47, 97, 46, 116, 120, 116]⟩⟩]
def wakeO : List Itm := [⟨⟨#[100]⟩, 0, 0, true, true, ⟨#[]⟩⟩, ⟨⟨#[100, 47, 97, 46, 116, 120, 116]⟩, 0, 0, false, false, ⟨#[109]⟩⟩]
theorem wake_proj : projG wakeR wakeI 3 = wakeO := by decide +kernel

set_option maxRecDepth 100000 in
set_option maxHeartbeats 800000 in
theorem awake12_any (w : World) : Calls Tryd.prog 27 #[] w fun e w' => e = .returned (.bool true) ∧ Below w.heap.size w w' := by
  go_enter Tryd.func27, Tryd.ntmps27
  go_wp2_with fail
  refine (project_any _ _ 3 1 wakeI wakeR _ (by decide) (by decide) (by decide) (by decide) ((rows_new itmLay _ _ _ _ wakeI rfl rfl).keeps ((Below.refl _ _).alloc (Nat.le_refl _) _)) (rows_new rulLay _ _ _ _ wakeR (by simp) rfl)).mono ?_
  rintro e w3 ⟨v, rfl, hoa, hb3⟩
  have hb4 : Below w.heap.size w w3 := (((Below.refl _ _).alloc (Nat.le_refl _) _).alloc (by simp) _).trans (hb3.mono (by simp; omega))
  rw [show projG wakeR wakeI wakeI.length = wakeO from wake_proj] at hoa
  obtain ⟨a, cap, rfl, hra, _⟩ := hoa.read
  clear hb3 hoa
  go_wp2_with fail
  refine (items_any _ _ _ 2 wakeO wakeO _ (by decide) (hra.keeps ((Below.refl _ _).alloc (Nat.le_refl _) _)) (rows_new itmLay _ _ _ _ wakeO rfl rfl)).mono ?_
  rintro e w6 ⟨rfl, n, rfl⟩
  rw [show decide (wakeO = wakeO) = true by simp]
  go_wp2_with fail
  go_ret
  exact ⟨rfl, Below.trans (hb4.alloc hb4.size _) ⟨rfl, rfl, rfl, Nat.le_refl _, fun _ _ => rfl⟩⟩

theorem items_self (a b : Option Addr) (cap cap' : Nat) (xs : List Itm) (w : World) (hl : xs.length ≤ 140737488351232) (ha : RowsAt itmLay w a xs) (hb : RowsAt itmLay w b xs) :
    Calls Tryd.prog 13 #[.slice a xs.length cap, .slice b xs.length cap'] w fun e w' => e = .returned (.bool true) ∧ ∃ n, w' = w.drewN n :=
  (items_any a b cap cap' xs xs w hl ha hb).mono fun _ _ h => ⟨by rw [h.1]; simp, h.2⟩
theorem fewP_parts {xs : List Itm} {l : List Rul} (h : fewP xs l = true) : xs.length ≤ 100 ∧ l.length ≤ 30 ∧ (∀ x ∈ xs, x.path.size ≤ 500 ∧ x.man.size ≤ 1000) ∧ ∀ x ∈ l, x.text.size ≤ 500 := by
  simp only [fewP, Bool.and_eq_true, decide_eq_true_eq, List.all_eq_true, itmSmall, rulSmall] at h
  obtain ⟨⟨⟨h1, h2⟩, h3⟩, h4⟩ := h
  exact ⟨h1, h2, h3, h4⟩

end Go.Proofs.YtfbdbjookkogjaaDoor

