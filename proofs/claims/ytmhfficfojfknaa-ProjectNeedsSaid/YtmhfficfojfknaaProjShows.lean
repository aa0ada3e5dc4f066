import Derived.Test.YtmhfficfojfknaaProjW4
import Derived.Test.YtmhfficfojfknaaAppends
namespace Go.Proofs.Ytmhfficfojfknaa
open Go Go.RowKit Go.Lib

def wakeI : List Itm := [⟨⟨#[100]⟩, 0, 0, true, false, ⟨#[]⟩⟩, ⟨⟨#[100, 47, 97, 46, 116, 120, 116]⟩, 0, 0, false, false, ⟨#[109]⟩⟩, ⟨⟨#[101]⟩, 0, 0, false, false, ⟨#[]⟩⟩]
def wakeR : List Rul := [⟨1, ⟨#[100, 47, 97, 46, 116, 120, 116]⟩⟩]
def wakeO : List Itm := [⟨⟨#[100]⟩, 0, 0, true, true, ⟨#[]⟩⟩, ⟨⟨#[100, 47, 97, 46, 116, 120, 116]⟩, 0, 0, false, false, ⟨#[109]⟩⟩]
theorem wake_proj : projG wakeR wakeI 3 = wakeO := by decide +kernel

set_option maxRecDepth 100000 in
set_option maxHeartbeats 800000 in
theorem awake12_any (w : World) : Calls Try.prog 6 #[] w fun e w' => e = .returned (.bool true) ∧ Below w.heap.size w w' := by
  go_enter Try.func6, Try.ntmps6
  go_wp2_with fail
  refine (project_any _ _ 3 1 wakeI wakeR _ (by decide) (by decide) (by decide) (by decide) ((rows_new itmLay _ _ _ _ wakeI rfl rfl).keeps ((Below.refl _ _).alloc (Nat.le_refl _) _)) (rows_new rulLay _ _ _ _ wakeR (by simp) rfl)).mono ?_
  rintro e w3 ⟨v, rfl, hoa, hb3⟩
  have hb4 : Below w.heap.size w w3 := (((Below.refl _ _).alloc (Nat.le_refl _) _).alloc (by simp) _).trans (hb3.mono (by simp; omega))
  rw [show projG wakeR wakeI wakeI.length = wakeO from wake_proj] at hoa
  obtain ⟨a, cap, rfl, hra, _⟩ := hoa.read
  clear hb3 hoa
  go_wp2_with fail
  refine (items_any _ _ _ 2 wakeO wakeO _ (by decide) (hra.keeps ((Below.refl _ _).alloc (Nat.le_refl _) _)) (rows_new itmLay _ _ _ _ wakeO rfl rfl)).mono ?_
  rintro e w6 ⟨rfl, n, rfl⟩
  rw [show decide (wakeO = wakeO) = true by simp]
  go_wp2_with fail
  go_ret
  exact ⟨rfl, Below.trans (hb4.alloc hb4.size _) ⟨rfl, rfl, rfl, Nat.le_refl _, fun _ _ => rfl⟩⟩

theorem items_self (a b : Option Addr) (cap cap' : Nat) (xs : List Itm) (w : World) (hl : xs.length ≤ 140737488351232) (ha : RowsAt itmLay w a xs) (hb : RowsAt itmLay w b xs) :
    Calls Try.prog 7 #[.slice a xs.length cap, .slice b xs.length cap'] w fun e w' => e = .returned (.bool true) ∧ ∃ n, w' = w.drewN n :=
  (items_any a b cap cap' xs xs w hl ha hb).mono fun _ _ h => ⟨by rw [h.1]; simp, h.2⟩
theorem fewP_parts {xs : List Itm} {l : List Rul} (h : fewP xs l = true) : xs.length ≤ 100 ∧ l.length ≤ 30 ∧ (∀ x ∈ xs, x.path.size ≤ 500 ∧ x.man.size ≤ 1000) ∧ ∀ x ∈ l, x.text.size ≤ 500 := by
  simp only [fewP, Bool.and_eq_true, decide_eq_true_eq, List.all_eq_true, itmSmall, rulSmall] at h
  obtain ⟨⟨⟨h1, h2⟩, h3⟩, h4⟩ := h
  exact ⟨h1, h2, h3, h4⟩

set_option maxRecDepth 100000 in
set_option maxHeartbeats 1600000 in
theorem law_shows (a a' : Option Addr) (cap cap' : Nat) (xs : List Itm) (l : List Rul) (w : World) (ha : RowsAt itmLay w a xs) (ha' : RowsAt rulLay w a' l) (hnil : a = none → cap = 0) :
    Calls Try.prog 3 #[.slice a xs.length cap, .slice a' l.length cap'] w fun e w' => e = .returned (.bool true) ∧ Below w.heap.size w w' := by
  have HF := Lib.hid (few12_any a a' cap cap' xs l w ha ha')
  cases hf : fewP xs l with
  | false =>
    rw [hf] at HF
    clear hf ha ha'
    go_enter Try.func3, Try.ntmps3
    go_wp2_with fail
    refine HF.out.mono ?_
    rintro e w1 ⟨rfl, rfl⟩
    go_wp2_with fail
    refine (awake12_any _).mono ?_
    rintro e w1 ⟨rfl, hb⟩
    go_wp2_with fail
    go_ret
    exact ⟨rfl, hb⟩
  | true =>
    rw [hf] at HF
    obtain ⟨hx1, hl1, hx2, hl2⟩ := fewP_parts hf
    obtain ⟨i0, hi, hz0, hz1, hz2⟩ := info_parts itmInfo
    have Hi := Lib.hid hi
    have Hz0 := Lib.hid hz0
    have Hz1 := Lib.hid hz1
    have Hz2 := Lib.hid hz2
    have HP := Lib.hid fun A C W (hA : RowsAt itmLay W A xs) (hb : Below w.heap.size w W) => project_any A a' C cap' xs l W (fun x hx => by have := (hx2 x hx).1; omega) (by omega) (fun x hx => by have := hl2 x hx; omega) (by omega) hA (ha'.keeps hb)
    have HQ := Lib.hid fun W (hb : Below w.heap.size w W) => rproject_any a a' cap cap' xs l W (fun x hx => by have := (hx2 x hx).1; omega) (by omega) (fun x hx => by have := hl2 x hx; omega) (by omega) (ha.keeps hb) (ha'.keeps hb)
    have HS := Lib.hid fun A C W (hA : RowsAt itmLay W A xs) (hb : Below w.heap.size w W) => items_self A a C cap xs W (by omega) hA (ha.keeps hb)
    have HA := Lib.hid ha
    have Hln := Lib.hid (projG_len l xs xs.length)
    clear hi hz0 hz1 hz2 hf hx2 hl2 ha ha'
    generalize projG l xs xs.length = out at *
    go_enter Try.func3, Try.ntmps3
    go_wp2_with fail
    refine HF.out.mono ?_
    rintro e w1 ⟨rfl, rfl⟩
    have hlit := OwnRows.lit w itmLay w.heap.size w.heap.size 36 #[] 0 [] rfl (Nat.le_refl _) (by decide) rfl rfl
    go_wp2_with (at_builtin; refine wpList_append_from _ rfl _ _ 22 rfl itmLay w.heap.size 36 i0 (.agg #[.string ⟨#[]⟩, .int .i64 0, .int .i64 0, .bool false, .bool false, .string ⟨#[]⟩]) 56 Try.underlying22 Hi.out Hz0.out Hz1.out Hz2.out rfl (by decide) _ [] rfl hlit a cap xs.length xs rfl rfl (HA.out.keeps ((Below.refl _ _).alloc (Nat.le_refl _) _)) hnil (by unfold maxLen; simp; omega) (by simp; omega) (by simp) ?_)
    intro vo w2 hoo hg2 _
    have hb2 : Below w.heap.size w w2 := ((Below.refl _ _).alloc (Nat.le_refl _) _).grown hg2 (by simp) (fun j ej => by cases ej; exact Nat.le_refl _)
    obtain ⟨oa, oc, rfl, hro, _⟩ := hoo.read
    clear hoo hg2 hlit
    go_wp2_with fail
    refine (HP.out oa oc w2 hro hb2).mono ?_
    rintro e w3 ⟨v3, rfl, ho3, hb3⟩
    have hb3' := hb2.trans (hb3.mono hb2.size)
    have hro3 := hro.keeps hb3
    go_wp2_with fail
    refine (HQ.out w3 hb3').mono ?_
    rintro e w4 ⟨v4, rfl, ho4, hb4⟩
    have hb4' := hb3'.trans (hb4.mono hb3'.size)
    have hro4 := hro3.keeps hb4
    have ho3' := ho3.below hb4
    obtain ⟨a3, c3, rfl, hr3, _⟩ := ho3'.read
    obtain ⟨a4, c4, rfl, hr4, _⟩ := ho4.read
    clear ho3 ho3' ho4 hb3 hb4 hro hro3
    go_wp2_with fail
    refine (items_self a3 a4 c3 c4 out w4 (by have := Hln.out; omega) hr3 hr4).mono ?_
    rintro e w5 ⟨rfl, n, rfl⟩
    have hb5 : Below w.heap.size w (w4.drewN n) := hb4'.trans ⟨rfl, rfl, rfl, Nat.le_refl _, fun _ _ => rfl⟩
    have hro5 := hro4.keeps (w' := w4.drewN n) ⟨rfl, rfl, rfl, Nat.le_refl _, fun _ _ => rfl⟩
    go_wp2_with fail
    refine (HS.out oa oc _ hro5 hb5).mono ?_
    rintro e w6 ⟨rfl, n', rfl⟩
    have hb6 : Below w.heap.size w (w4.drewN (n + n')) := hb4'.trans ⟨rfl, rfl, rfl, Nat.le_refl _, fun _ _ => rfl⟩
    go_wp2_with fail
    refine (awake12_any _).mono ?_
    rintro e w7 ⟨rfl, hb⟩
    go_wp2_with fail
    go_ret
    exact ⟨rfl, hb6.trans (hb.mono hb6.size)⟩
end Go.Proofs.Ytmhfficfojfknaa
