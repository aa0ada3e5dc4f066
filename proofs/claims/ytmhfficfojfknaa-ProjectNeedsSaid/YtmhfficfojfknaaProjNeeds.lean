import Derived.Test.YtmhfficfojfknaaNeedsW1
namespace Go.Proofs.Ytmhfficfojfknaa
open Go Go.RowKit Go.Lib

theorem texts_self (a b : Option Addr) (cap cap' : Nat) (xs : List ByteArray) (w : World) (hl : xs.length ≤ 140737488351232) (ha : RowsAt strLay w a xs) (hb : RowsAt strLay w b xs) :
    Calls Try.prog 10 #[.slice a xs.length cap, .slice b xs.length cap'] w fun e w' => e = .returned (.bool true) ∧ ∃ n, w' = w.drewN n :=
  (texts12_any a b cap cap' xs xs w hl ha hb).mono fun _ _ h => ⟨by rw [h.1]; simp, h.2⟩
set_option maxRecDepth 100000 in
set_option maxHeartbeats 1600000 in
theorem law_needs (a a' : Option Addr) (cap cap' : Nat) (xs : List Itm) (l : List Rul) (w : World) (ha : RowsAt itmLay w a xs) (ha' : RowsAt rulLay w a' l) :
    Calls Try.prog 4 #[.slice a xs.length cap, .slice a' l.length cap'] w fun e w' => e = .returned (.bool true) ∧ Below w.heap.size w w' := by
  have HF := Lib.hid (few12_any a a' cap cap' xs l w ha ha')
  cases hf : fewP xs l with
  | false =>
    rw [hf] at HF
    clear hf ha ha'
    go_enter Try.func4, Try.ntmps4
    go_wp2_with fail
    refine HF.out.mono ?_
    rintro e w1 ⟨rfl, rfl⟩
    go_wp2_with fail
    refine (awake12_any _).mono ?_
    rintro e w1 ⟨rfl, hb⟩
    go_wp2_with fail
    go_ret
    exact ⟨rfl, hb⟩
  | true =>
    rw [hf] at HF
    obtain ⟨hx1, hl1, hx2, hl2⟩ := fewP_parts hf
    have HP := Lib.hid (needs_any a a' cap cap' xs l w (fun x hx => by have := hx2 x hx; omega) (by omega) (fun x hx => by have := hl2 x hx; omega) (by omega) ha ha')
    have HQ := Lib.hid fun W (hb : Below w.heap.size w W) => rneeds_any a a' cap cap' xs l W (fun x hx => by have := hx2 x hx; omega) (by omega) (fun x hx => by have := hl2 x hx; omega) (by omega) (ha.keeps hb) (ha'.keeps hb)
    have Hln := Lib.hid (needK_len l xs xs.length)
    clear hf hx2 hl2 ha ha'
    go_enter Try.func4, Try.ntmps4
    go_wp2_with fail
    refine HF.out.mono ?_
    rintro e w1 ⟨rfl, rfl⟩
    go_wp2_with fail
    refine HP.out.mono ?_
    rintro e w3 ⟨v3, out, rfl, ho3, hr3, hm3, hb3⟩
    go_wp2_with fail
    refine (HQ.out w3 hb3).mono ?_
    rintro e w4 ⟨v4, out', rfl, ho4, hr4, hm4, hb4⟩
    have hnd : out.Nodup := List.Pairwise.imp (fun {a b} h e => by subst e; exact List.lt_irrefl _ h) hr3
    obtain rfl : out = out' := rising_one hr3 hr4 fun z => (hm3 z).trans (hm4 z).symm
    have hb4' := hb3.trans (hb4.mono hb3.size)
    have ho3' := ho3.below hb4
    obtain ⟨a3, c3, rfl, hr3, hlc, _, hmx⟩ := ho3'.read_nil
    obtain ⟨a4, c4, rfl, hr4, _⟩ := ho4.read
    have hlen : out.length ≤ 140737488351232 := by
      have h1 : out.length ≤ (needK l xs xs.length).length := List.Nodup.length_le_of_subset (hnd) fun z hz => (hm3 z).1 hz
      have := Hln.out
      omega
    clear ho3 ho3' ho4 hb3 hb4 hm3 hm4
    go_wp2_with fail
    refine (texts_self a3 a4 c3 c4 out w4 hlen hr3 hr4).mono ?_
    rintro e w5 ⟨rfl, n, rfl⟩
    have hb5 : Below w.heap.size w (w4.drewN n) := hb4'.trans ⟨rfl, rfl, rfl, Nat.le_refl _, fun _ _ => rfl⟩
    go_wp2_with fail
    refine (awake12_any _).mono ?_
    rintro e w7 ⟨rfl, hb⟩
    go_wp2_with fail
    go_ret
    exact ⟨rfl, hb5.trans (hb.mono hb5.size)⟩
end Go.Proofs.Ytmhfficfojfknaa
