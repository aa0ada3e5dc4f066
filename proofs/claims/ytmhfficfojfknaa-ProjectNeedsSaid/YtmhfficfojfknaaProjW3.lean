import Derived.Test.YtmhfficfojfknaaProjW2
import Derived.Test.YtmhfficfojfknaaRange
namespace Go.Proofs.Ytmhfficfojfknaa
open Go Go.RowKit Go.Lib

def yesAt (f : ByteArray → Bool) : ByteArray → Option Value := fun d => if f d then some (.bool true) else none
theorem yesAt_put {f g : ByteArray → Bool} {c : ByteArray} (h : ∀ d, g d = (decide (d = c) || f d)) : ∀ d, yesAt g d = putAt (yesAt f) c (.bool true) d := by
  intro d
  unfold yesAt putAt
  rw [h d]
  by_cases e : d = c
  · simp [e]
  · simp [e]
theorem yesAt_congr {f g : ByteArray → Bool} (h : ∀ d, g d = f d) : ∀ d, yesAt g d = yesAt f d := by
  intro d; unfold yesAt; rw [h d]
theorem yesAt_get (f : ByteArray → Bool) (d : ByteArray) : (yesAt f d).getD (.bool false) = .bool (f d) := by
  unfold yesAt; cases f d <;> rfl

theorem show_in {l : List Rul} {xs : List Itm} {x : Itm} (h : inG l x = true) : showG l xs x = some { x with ghost := false } := by simp [showG, h]
theorem show_ghost {l : List Rul} {xs : List Itm} {x : Itm} (h : inG l x = false) (h2 : (x.dir && overG l xs xs.length x.path) = true) : showG l xs x = some { x with ghost := true, man := ⟨#[]⟩ } := by
  unfold showG; rw [h, h2]; rfl
theorem show_none {l : List Rul} {xs : List Itm} {x : Itm} (h : inG l x = false) (h2 : (x.dir && overG l xs xs.length x.path) = false) : showG l xs x = none := by
  unfold showG; rw [h, h2]; rfl

set_option maxRecDepth 100000 in
set_option maxHeartbeats 3200000 in
theorem project_any (a a' : Option Addr) (cap cap' : Nat) (xs : List Itm) (l : List Rul) (w : World) (hxs : ∀ x ∈ xs, x.path.size ≤ 100000) (hlx : xs.length ≤ 100000) (hsz : ∀ x ∈ l, x.text.size ≤ 100000) (hl : l.length ≤ 1000)
    (ha : RowsAt itmLay w a xs) (ha' : RowsAt rulLay w a' l) :
    Calls Try.prog 8 #[.slice a xs.length cap, .slice a' l.length cap'] w fun e w' => ∃ v, e = .returned v ∧ OwnRows itmLay w' w.heap.size 36 v (projG l xs xs.length) ∧ Below w.heap.size w w' := by
  obtain ⟨i0, hi, hz0, hz1, hz2⟩ := info_parts itmInfo
  have Hi := Lib.hid hi
  have Hz0 := Lib.hid hz0
  have Hz1 := Lib.hid hz1
  have Hz2 := Lib.hid hz2
  have HA := Lib.hid ha
  have HH := Lib.hid (held_any a a' cap cap' xs l w hxs hlx hsz hl ha ha')
  have Hxs := Lib.hid hxs
  have hmm := @run_makeMap Try.prog
  clear hi hz0 hz1 hz2 ha ha' hsz hxs hl
  go_enter Try.func8, Try.ntmps8
  go_wp2_with fail
  refine HH.out.mono ?_
  rintro e w1 ⟨v1, rfl, hob1, hb1⟩
  obtain ⟨ba, bc, rfl, hrb, _⟩ := hob1.read
  rw [List.length_map]
  have HB := Lib.hid hrb
  clear hob1 HH hrb
  go_wp2_with fail
  have hm0 := (MapOf.made (inj := Value.string) w1).congr (g' := yesAt fun d => overG l xs 0 d) (fun d => by simp [yesAt, overG])
  have hbm0 := (Below.refl w1.heap.size w1).alloc (Nat.le_refl _) (.map #[] 0)
  clear hmm
  go_loopw [19] (fun i wr => ∃ k n : Nat, k ≤ xs.length ∧ i = .int .i64 k ∧ MapOf Value.string wr w1.heap.size n (yesAt fun d => overG l xs k d) ∧ Below w1.heap.size w1 wr) (fun i _ => xs.length - (RowKit.intOf i).toNat)
  case atStart => exact ⟨0, _, Nat.zero_le _, rfl, hm0, hbm0⟩
  case round =>
    clear hm0 hbm0
    obtain ⟨k, n, hk, rfl, hm, hb⟩ := hrel
    have hb2 := hb1.trans (hb.mono hb1.size)
    have hbs := hb.size
    by_cases hlt : k < xs.length
    · obtain ⟨x, hx⟩ := at_some hlt
      obtain ⟨b, off, rfl, hbl, c0, c1, c2, c3, c4, c5⟩ := itm_at (HA.out.keeps hb2) hx
      obtain ⟨bb, bo, rfl, hbbl, d0⟩ := bool_at (HB.out.keeps hb) (show (xs.map (inG l))[k]? = some (inG l x) by rw [List.getElem?_map, hx]; rfl)
      have hpx := Hxs.out x (List.mem_of_getElem? hx)
      have Hst := Lib.hid fun d => overG_step (l := l) hx d
      obtain ⟨xp, xc, xw, xd, xg, xm⟩ := x
      generalize hix : inG l ⟨xp, xc, xw, xd, xg, xm⟩ = ix at *
      dsimp only at c0 c1 c2 c3 c4 c5 hpx Hst
      clear hx hix
      have hmx := hm.alloc (.cells #[.string xp, .int .i64 xc, .int .i64 xw, .bool xd, .bool xg, .string xm] 36)
      have hbx := hb.alloc hbs (.cells #[.string xp, .int .i64 xc, .int .i64 xw, .bool xd, .bool xg, .string xm] 36)
      have hlm := hm.lt
      cases ix with
      | false =>
        go_wp2_with fail
        go_roundw
        case rel => exact ⟨k + 1, n, by omega, by go_num, hmx.congr (yesAt_congr fun d => by rw [Hst.out d]; simp), hbx⟩
        case measure => simp [RowKit.intOf]; omega
      | true =>
        go_wp2_with fail
        have hx0 : (wr.alloc (.cells #[.string xp, .int .i64 xc, .int .i64 xw, .bool xd, .bool xg, .string xm] 36)).cell? ⟨wr.heap.size, 0, none⟩ = some (.string xp) := by simp
        have hxs1 : (wr.alloc (.cells #[.string xp, .int .i64 xc, .int .i64 xw, .bool xd, .bool xg, .string xm] 36)).heap.size = wr.heap.size + 1 := by simp
        generalize hWX : wr.alloc (.cells #[.string xp, .int .i64 xc, .int .i64 xw, .bool xd, .bool xg, .string xm] 36) = WX at *
        have hit := iter_new WX xp (wr.heap.size + 1) hxs1.symm
        have hmi : MapOf Value.string (WX.iter xp 0) w1.heap.size n (yesAt fun d => overG l xs k d || upTo xp 0 d) := (hmx.alloc (.stringIter xp 0)).congr (yesAt_congr fun d => by rw [upTo_zero]; simp)
        have hbi : Below w1.heap.size w1 (WX.iter xp 0) := hbx.alloc (by omega) (.stringIter xp 0)
        have hci : (WX.iter xp 0).cell? ⟨wr.heap.size, 0, none⟩ = some (.string xp) := (World.grownBy_alloc WX (.stringIter xp 0) none).cell hx0 (by simp)
        have hsi : (WX.iter xp 0).heap.size = wr.heap.size + 2 := by show (WX.alloc _).heap.size = _; simp; omega
        clear hmx hbx hx0 c0 c1 c2 c3 c4 c5 d0 hWX hxs1 hm hb hb2
        generalize WX.iter xp 0 = WI at *
        go_loopw [9] (fun _ wr' => ∃ pos n : Nat, wr'.heap[wr.heap.size + 1]? = some (.stringIter xp pos) ∧ MapOf Value.string wr' w1.heap.size n (yesAt fun d => overG l xs k d || upTo xp pos d) ∧ Below w1.heap.size w1 wr' ∧ wr'.cell? ⟨wr.heap.size, 0, none⟩ = some (.string xp) ∧ wr.heap.size + 2 ≤ wr'.heap.size) (fun _ wr' => xp.size - wr'.iterPos (wr.heap.size + 1))
        case atStart => exact ⟨0, n, hit, hmi, hbi, hci, by omega⟩
        case round =>
          clear hit hmi hbi hci hsi
          obtain ⟨pos, n, hit, hm, hb, hc, hsz⟩ := hrel
          have hip := iterPos_of hit
          by_cases hp : pos < xp.size
          · obtain ⟨wn, hnx, hitn, hgn⟩ := next_more (P := Try.prog) hit hp
            have hmn := hm.grown hgn (by simp; omega)
            have hbn := hb.grown hgn (by omega) (fun j ej => by cases ej; omega)
            have hcn := hgn.cell hc (by simp)
            have hszn := hgn.size
            clear hm hb hc hgn hit
            by_cases h47 : xp[pos] = 47 ∧ pos + 1 < xp.size
            · obtain ⟨h1, h2⟩ := h47
              have Hup := Lib.hid fun d => upTo_put hp h1 h2 d
              have e1 : ((xp[pos].toNat : Int) == 47) = true := by rw [h1]; rfl
              have h2' : ((pos : Int) + 1 < xp.size) := by omega
              clear h1
              go_wp2_with (at_mapUpdate; refine wpList_mapUpdate_of rfl _ _ _ 41 rfl 9 4 mapK Try.underlying41 rfl hmn (xp.extract 0 pos) rfl _ rfl ?_)
              intro w5 hm5 hg5
              have hit5 := hg5.block _ (Array.getElem?_eq_some_iff.1 hitn).1 (by simp; omega)
              have hb5 := hbn.grown hg5 (by omega) (fun j ej => by cases ej; omega)
              have hc5 := hg5.cell hcn (by simp; omega)
              have hs5 := hg5.size
              have hm6 := hm5.congr (yesAt_put (f := fun d => overG l xs k d || upTo xp pos d) (g := fun d => overG l xs k d || upTo xp (pos + (Utf8.decode xp pos).2) d) fun d => by rw [Hup.out d]; cases overG l xs k d <;> simp)
              rw [hitn] at hit5
              have hw := rune_width xp pos hp
              clear hm5 hg5 hmn hbn hcn hitn e1 hnx
              go_wp2_with fail
              go_roundw
              case rel => exact ⟨_, _, hit5, hm6, hb5, hc5, by omega⟩
              case measure => rw [iterPos_of hit5, hip]; omega
            · have Hup := Lib.hid fun d => upTo_skip hp h47 d
              have hm6 := hmn.congr (g' := yesAt fun d => overG l xs k d || upTo xp (pos + (Utf8.decode xp pos).2) d) (yesAt_congr fun d => by rw [Hup.out d])
              have hw := rune_width xp pos hp
              clear hmn
              by_cases h1 : xp[pos] = 47
              · have e1 : ((xp[pos].toNat : Int) == 47) = true := by rw [h1]; rfl
                have h2' : ¬ ((pos : Int) + 1 < xp.size) := by have : ¬ pos + 1 < xp.size := fun h2 => h47 ⟨h1, h2⟩; omega
                clear h1 h47
                go_wp2_with fail
                go_roundw
                case rel => exact ⟨_, _, hitn, hm6, hbn, hcn, by omega⟩
                case measure => rw [iterPos_of hitn, hip]; omega
              · have e1 : ((xp[pos].toNat : Int) == 47) = false := byte_ne h1
                clear h1 h47
                go_wp2_with fail
                go_roundw
                case rel => exact ⟨_, _, hitn, hm6, hbn, hcn, by omega⟩
                case measure => rw [iterPos_of hitn, hip]; omega
          · have hnx := next_done (P := Try.prog) hit hp
            go_wp2_with fail
            go_roundw
            case rel => exact ⟨k + 1, n, by omega, by go_num, hm.congr (yesAt_congr fun d => by rw [Hst.out d, upTo_end _ _ _ (by omega)]; simp), hb⟩
            case measure => simp [RowKit.intOf]; omega
    · obtain rfl : k = xs.length := by omega
      clear hbs hk hlt
      generalize hwo : wr = wo at *
      clear hwo wr
      go_wp2_with fail
      go_loopw [10, 56] (fun va i wr => ∃ k : Nat, k ≤ xs.length ∧ i = .int .i64 k ∧ OwnRows itmLay wr wo.heap.size 36 va (projG l xs k) ∧ Below wo.heap.size wo wr) (fun _ i _ => xs.length - (RowKit.intOf i).toNat)
      case atStart => exact ⟨0, Nat.zero_le _, rfl, OwnRows.nil _ _ _ _, Below.refl _ _⟩
      case round =>
        obtain ⟨k, hk, rfl, hoa, hbl⟩ := hrel
        have hml := hm.below hbl hm.lt
        by_cases hlt : k < xs.length
        · obtain ⟨x, hx⟩ := at_some hlt
          have hbq := hb.trans (hbl.mono hb.size)
          have hb2q := hb1.trans (hbq.mono hb1.size)
          obtain ⟨b, off, rfl, hbl1, c0, c1, c2, c3, c4, c5⟩ := itm_at (HA.out.keeps hb2q) hx
          obtain ⟨bb, bo, rfl, hbbl, d0⟩ := bool_at (HB.out.keeps hbq) (show (xs.map (inG l))[k]? = some (inG l x) by rw [List.getElem?_map, hx]; rfl)
          have Hst := Lib.hid (projG_step (l := l) hx)
          have hplen := projG_len l xs k
          have hsz1 := hbl.size
          cases hix : inG l x with
          | true =>
            have Hsh := Lib.hid (show_in (xs := xs) hix)
            obtain ⟨xp, xc, xw, xd, xg, xm⟩ := x
            dsimp only at c0 c1 c2 c3 c4 c5 Hsh
            rw [hix] at d0
            clear hx hix
            generalize projG l xs k = out at *
            go_wp2_with (at_builtin; refine wpList_append_rows _ rfl _ _ 22 rfl itmLay wo.heap.size 36 i0 (.agg #[.string ⟨#[]⟩, .int .i64 0, .int .i64 0, .bool false, .bool false, .string ⟨#[]⟩]) 56 Try.underlying22 Hi.out Hz0.out Hz1.out Hz2.out rfl (by decide) _ _ rfl ((hoa.alloc _).alloc _) ⟨wr.heap.size + 1, 0, none⟩ 1 ⟨xp, xc, xw, xd, false, xm⟩ rfl (cells_new_at _ (wr.heap.size + 1) #[.string xp, .int .i64 xc, .int .i64 xw, .bool xd, .bool false, .string xm] 36 (by simp)) (by unfold maxLen; omega) (by omega) (by simp; omega) ?_)
            intro va w4 hoa4 hg4 _
            have hb4 := ((hbl.alloc hsz1 (.cells #[.string xp, .int .i64 xc, .int .i64 xw, .bool xd, .bool false, .string xm] 36)).alloc (by simp; omega) (.cells #[.string xp, .int .i64 xc, .int .i64 xw, .bool xd, .bool false, .string xm] 36)).grown hg4 (by simp; omega) (fun j ej => (hoa.lt ej).1)
            clear hg4 hoa
            go_wp2_with fail
            go_roundw
            case rel =>
              refine ⟨k + 1, by omega, by go_num, ?_, hb4⟩
              rw [Hst.out, Hsh.out]
              exact hoa4
            case measure => simp [RowKit.intOf]; omega
          | false =>
            have Hng := Lib.hid hix
            obtain ⟨xp, xc, xw, xd, xg, xm⟩ := x
            dsimp only at c0 c1 c2 c3 c4 c5
            rw [hix] at d0
            have hlk := fun (W : World) (h : MapOf Value.string W w1.heap.size n (yesAt fun d => overG l xs xs.length d)) => h.lookup mapK Try.underlying41 xp (zeroBool _)
            have hlk1 := hlk _ (hml.alloc (.cells #[.string xp, .int .i64 xc, .int .i64 xw, .bool xd, .bool true, .string ⟨#[]⟩] 36))
            rw [yesAt_get] at hlk1
            clear hx hix hlk
            cases xd with
            | false =>
              have Hsh := Lib.hid (show_none (l := l) (xs := xs) (x := ⟨xp, xc, xw, false, xg, xm⟩) Hng.out rfl)
              have hb4 := hbl.alloc hsz1 (.cells #[.string xp, .int .i64 xc, .int .i64 xw, .bool false, .bool true, .string ⟨#[]⟩] 36)
              have hoa4 := hoa.alloc (.cells #[.string xp, .int .i64 xc, .int .i64 xw, .bool false, .bool true, .string ⟨#[]⟩] 36)
              generalize projG l xs k = out at *
              go_wp2_with fail
              go_roundw
              case rel => exact ⟨k + 1, by omega, by go_num, by rw [Hst.out, Hsh.out]; simpa using hoa4, hb4⟩
              case measure => simp [RowKit.intOf]; omega
            | true =>
              generalize hov : overG l xs xs.length xp = ov at *
              cases ov with
              | false =>
                have Hsh := Lib.hid (show_none (l := l) (xs := xs) (x := ⟨xp, xc, xw, true, xg, xm⟩) Hng.out (by rw [hov]; rfl))
                have hb4 := hbl.alloc hsz1 (.cells #[.string xp, .int .i64 xc, .int .i64 xw, .bool true, .bool true, .string ⟨#[]⟩] 36)
                have hoa4 := hoa.alloc (.cells #[.string xp, .int .i64 xc, .int .i64 xw, .bool true, .bool true, .string ⟨#[]⟩] 36)
                generalize projG l xs k = out at *
                clear hov
                go_wp2_with fail
                go_roundw
                case rel => exact ⟨k + 1, by omega, by go_num, by rw [Hst.out, Hsh.out]; simpa using hoa4, hb4⟩
                case measure => simp [RowKit.intOf]; omega
              | true =>
                have Hsh := Lib.hid (show_ghost (l := l) (xs := xs) (x := ⟨xp, xc, xw, true, xg, xm⟩) Hng.out (by rw [hov]; rfl))
                generalize projG l xs k = out at *
                clear hov
                go_wp2_with (at_builtin; refine wpList_append_rows _ rfl _ _ 22 rfl itmLay wo.heap.size 36 i0 (.agg #[.string ⟨#[]⟩, .int .i64 0, .int .i64 0, .bool false, .bool false, .string ⟨#[]⟩]) 56 Try.underlying22 Hi.out Hz0.out Hz1.out Hz2.out rfl (by decide) _ _ rfl ((hoa.alloc _).alloc _) ⟨wr.heap.size + 1, 0, none⟩ 1 ⟨xp, xc, xw, true, true, ⟨#[]⟩⟩ rfl (cells_new_at _ (wr.heap.size + 1) #[.string xp, .int .i64 xc, .int .i64 xw, .bool true, .bool true, .string ⟨#[]⟩] 36 (by simp)) (by unfold maxLen; omega) (by omega) (by simp; omega) ?_)
                intro va w4 hoa4 hg4 _
                have hb4 := ((hbl.alloc hsz1 (.cells #[.string xp, .int .i64 xc, .int .i64 xw, .bool true, .bool true, .string ⟨#[]⟩] 36)).alloc (by simp; omega) (.cells #[.string xp, .int .i64 xc, .int .i64 xw, .bool true, .bool true, .string ⟨#[]⟩] 36)).grown hg4 (by simp; omega) (fun j ej => (hoa.lt ej).1)
                clear hg4 hoa
                go_wp2_with fail
                go_roundw
                case rel =>
                  refine ⟨k + 1, by omega, by go_num, ?_, hb4⟩
                  rw [Hst.out, Hsh.out]
                  exact hoa4
                case measure => simp [RowKit.intOf]; omega
        · obtain rfl : k = xs.length := by omega
          go_wp2_with fail
          go_ret
          have hb9 := hb.trans (hbl.mono hb.size)
          exact ⟨_, rfl, hoa.lower (Nat.le_trans hb1.size hb.size), hb1.trans (hb9.mono hb1.size)⟩
end Go.Proofs.Ytmhfficfojfknaa
