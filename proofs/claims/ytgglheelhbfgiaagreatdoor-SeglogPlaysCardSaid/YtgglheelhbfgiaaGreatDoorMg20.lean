/-
  arbourlaw16: the chapter's example. Eight records stand in each file: the plain law. The law SeglogFiles. From a contract of a law ('it returns true, and nothing that was there has turned') to its row. Of no program.
-/
import Derived.Test.YtgglheelhbfgiaaGreatDoorMg19
import Derived.Test.YtgglheelhbfgiaaGreatDoorMg5
import Derived.ProofKit
import Derived.OpenShut
import Derived.Lay
import Derived.LaidMore
import Derived.Stop.Joined
import Derived.SizedLaws
import Derived.SliceStrings
import Derived.Lib.LaidU8
import Derived.Lib.LaidTab
import Derived.Test.YtgglheelhbfgiaaGreatDoorMg1
namespace Go.Proofs.YtgglheelhbfgiaaGreatDoor
open Go Go.RowKit Go.Lib
theorem below_turned {w0 w w' : World} {S : Nat → Prop} (hb : Below w0.heap.size w0 w) (ht : Turned S w.heap.size w w') (hS : ∀ k, S k → w0.heap.size ≤ k) : Below w0.heap.size w0 w' :=
  hb.trans (ht.below hb.size fun k hk hs => by have := hS k hs; omega)
theorem name0 : nameS 0 = ⟨#[115, 101, 103, 45, 48]⟩ := by decide +kernel
theorem name1 : nameS 1 = ⟨#[115, 101, 103, 45, 49]⟩ := by decide +kernel
set_option maxRecDepth 100000 in
set_option maxHeartbeats 6400000 in
theorem awake16_any (w : World) (ht : TabD w) : Calls Tryz.prog 12 #[] w fun e w' => e = .returned (.bool true) ∧ Below w.heap.size w w' := by
  obtain ⟨p1, p2, p3, p4, p5, p6, p7, p8, p9, p10, p11, p12, p13, p14, p15⟩ := awake_plain
  have HN := Lib.hid (new_any w 100000 (by decide) (by decide))
  have HP := Lib.hid awake_plain
  have HT := Lib.hid ht
  clear ht p1 p2 p3 p4 p5 p6 p7 p8 p9 p10 p11 p12 p13 p14 p15
  obtain ⟨db, hdb⟩ : ∃ db, w.heap.size + 2 = db := ⟨_, rfl⟩
  rw [hdb] at HN
  clear hdb
  go_enter Tryz.func12, Tryz.ntmps12
  go_wp2_with fail
  refine HN.out.mono ?_
  rintro e w1 ⟨rfl, hD, hb1⟩
  have HO := Lib.hid (sopen_any hD (by show ([] : Fls).length ≤ _; decide) (by show ([] : List ActD).length ≤ _; decide) ⟨w, rfl, HT.out, hb1⟩ (fun k hk => hk.1))
  have HB1 := Lib.hid hb1
  clear hD hb1
  go_wp2_with fail
  refine HO.out.mono ?_
  rintro e w2 hO
  change OpenIs w1 db _ aO1 e w2 at hO
  obtain ⟨T1, hD1, hT1, hTu1, hcase⟩ := hO
  rcases hcase with ⟨h, _⟩ | ⟨l1, lb, v1, hl1, rfl, hL1, hlb1, hlbT1, hown1, _⟩
  · rw [HP.out.1] at h
    cases h
  rw [HP.out.1] at hl1
  cases hl1
  rw [HP.out.2.1] at hown1
  rw [HP.out.2.2.1]
  obtain ⟨a1, c1, rfl, _, _⟩ := hown1.read
  have hS1 : ∀ k, T1 k → w.heap.size ≤ k := fun k hk => by
    rcases hT1 k hk with h | h
    · exact h.1
    · exact Nat.le_trans HB1.out.size h
  have hb2 : Below w.heap.size w w2 := below_turned HB1.out hTu1 fun k hk => hk.1
  have hP4 := HP.out.2.2.2.1
  have hal3 := (Below.refl w2.heap.size w2).alloc (Nat.le_refl _) (.cells #[.string ⟨#[97]⟩, .string ⟨#[98, 99]⟩] 9)
  have hA : Calls Tryz.prog 10 #[.pointer (some ⟨lb, 0, none⟩), .slice (some ⟨w2.heap.size, 0, none⟩) 2 2] (w2.alloc (.cells #[.string ⟨#[97]⟩, .string ⟨#[98, 99]⟩] 9)) fun e w' => AppIs (w2.alloc (.cells #[.string ⟨#[97]⟩, .string ⟨#[98, 99]⟩] 9)) db lb T1 aA1 e w' :=
    sappend_any (rs := rA) (hD1.below hal3) (hL1.keeps hal3 hL1.1) hlbT1 (some ⟨w2.heap.size, 0, none⟩) 2 (rows_new strLay w2 w2.heap.size _ _ rA rfl rfl) (fun ad e _ => by cases e; exact ⟨by simp, fun h => Nat.lt_irrefl _ (hD1.slt _ h)⟩) (by decide) (by decide) (Nat.le_trans (names_len hP4.names) (by decide)) (by rw [hP4.acts]; decide)
  have HA := Lib.hid hA
  have HL1 := Lib.hid hL1
  have HB3 := Lib.hid (hb2.trans (hal3.mono hb2.size))
  have HS1 := Lib.hid hS1
  have hsz3 : (w2.alloc (.cells #[.string ⟨#[97]⟩, .string ⟨#[98, 99]⟩] 9)).heap.size = w2.heap.size + 1 := by simp
  have Hlbw := Lib.hid (show w.heap.size ≤ lb from Nat.le_trans HB1.out.size hlb1)
  clear hA hL1 hD1 hT1 hTu1 hown1 hS1 hb2 hal3 hP4 hlb1 hlbT1
  go_wp2_with fail
  refine HA.out.mono ?_
  rintro e w4 ⟨rfl, hL4, T2, hD2, hT2, hlbT2, hTu2⟩
  rw [HP.out.2.2.2.2.1]
  have hlb3 : lb < w2.heap.size := HL1.out.1
  have hS2 : ∀ k, T2 k → w.heap.size ≤ k := fun k hk => by
    rcases hT2 k hk with h | h
    · exact HS1.out k h
    · exact Nat.le_trans HB3.out.size h
  have hb4 : Below w.heap.size w w4 := below_turned HB3.out hTu2 fun k hk => by
    rcases hk with h | h
    · exact HS1.out k h
    · rw [h]
      exact Hlbw.out
  have hP6 := HP.out.2.2.2.2.2.1
  have HO2 := Lib.hid (sopen_any hD2 (Nat.le_trans (names_len hP6.names) (by decide)) (by rw [hP6.acts]; decide) ⟨w, rfl, HT.out, hb4⟩ hS2)
  have HL4 := Lib.hid hL4
  have HB4 := Lib.hid hb4
  have HS2 := Lib.hid hS2
  have HlT2 := Lib.hid hlbT2
  clear hL4 hD2 hT2 hTu2 hS2 hb4 hP6 hlbT2
  go_wp2_with fail
  refine HO2.out.mono ?_
  rintro e w5 hO
  change OpenIs w4 db _ aO2 e w5 at hO
  obtain ⟨T3, hD3, hT3, hTu3, hcase⟩ := hO
  rcases hcase with ⟨h, _⟩ | ⟨l2, lb2, v2, hl2, rfl, hL2, hlb2, hlbT3', hown2, hvT2⟩
  · exact absurd h HP.out.2.2.2.2.2.2.2.2.2.1
  clear hL2 hlbT3'
  rw [HP.out.2.2.2.2.2.2.2.1] at hown2
  rw [HP.out.2.2.2.2.2.2.2.2.1]
  obtain ⟨a2, c2, rfl, hrow2, _⟩ := hown2.read
  have hS3 : ∀ k, T3 k → w.heap.size ≤ k := fun k hk => by
    rcases hT3 k hk with h | h
    · exact HS2.out k h
    · exact Nat.le_trans HB4.out.size h
  have hL5 : LAt w5 lb db aA1.1 := HL4.out.same (hTu3.block lb HL4.out.1 HlT2.out) hTu3.size
  have hlbT3 : ¬ T3 lb := notT hT3 HlT2.out HL4.out.1
  have hb5 : Below w.heap.size w w5 := below_turned HB4.out hTu3 HS2.out
  have hP11 := HP.out.2.2.2.2.2.2.2.2.2.2.1
  have hP7 := HP.out.2.2.2.2.2.2.1
  have hal6 := (Below.refl w5.heap.size w5).alloc (Nat.le_refl _) (.cells #[.string ⟨#[51]⟩, .string ⟨#[52]⟩, .string ⟨#[53]⟩, .string ⟨#[54]⟩, .string ⟨#[55]⟩, .string ⟨#[56]⟩, .string ⟨#[57]⟩] 9)
  have hB : Calls Tryz.prog 10 #[.pointer (some ⟨lb, 0, none⟩), .slice (some ⟨w5.heap.size, 0, none⟩) 7 7] (w5.alloc (.cells #[.string ⟨#[51]⟩, .string ⟨#[52]⟩, .string ⟨#[53]⟩, .string ⟨#[54]⟩, .string ⟨#[55]⟩, .string ⟨#[56]⟩, .string ⟨#[57]⟩] 9)) fun e w' => AppIs (w5.alloc (.cells #[.string ⟨#[51]⟩, .string ⟨#[52]⟩, .string ⟨#[53]⟩, .string ⟨#[54]⟩, .string ⟨#[55]⟩, .string ⟨#[56]⟩, .string ⟨#[57]⟩] 9)) db lb T3 aA2 e w' :=
    sappend_any (rs := rB) (hD3.below hal6) (hL5.keeps hal6 hL5.1) hlbT3 (some ⟨w5.heap.size, 0, none⟩) 7 (rows_new strLay w5 w5.heap.size _ _ rB rfl rfl) (fun ad e _ => by cases e; exact ⟨by simp, fun h => Nat.lt_irrefl _ (hD3.slt _ h)⟩) (by rw [hP7.many]; decide) (by decide) (Nat.le_trans (names_len hP11.names) (by decide)) (by rw [hP11.acts]; decide)
  have HBb := Lib.hid hB
  have HB6 := Lib.hid (hb5.trans (hal6.mono hb5.size))
  have HS3 := Lib.hid hS3
  have hsz6 : (w5.alloc (.cells #[.string ⟨#[51]⟩, .string ⟨#[52]⟩, .string ⟨#[53]⟩, .string ⟨#[54]⟩, .string ⟨#[55]⟩, .string ⟨#[56]⟩, .string ⟨#[57]⟩] 9)).heap.size = w5.heap.size + 1 := by simp
  have hr6 := hrow2.keeps hal6
  have Hvb := Lib.hid (show ∀ ad, a2 = some ad → ad.block < (w5.alloc (.cells #[.string ⟨#[51]⟩, .string ⟨#[52]⟩, .string ⟨#[53]⟩, .string ⟨#[54]⟩, .string ⟨#[55]⟩, .string ⟨#[56]⟩, .string ⟨#[57]⟩] 9)).heap.size ∧ ¬ (T3 ad.block ∨ ad.block = lb) from fun ad e => by
    subst e
    have h1 := (hown2.lt (k := ad.block) rfl)
    have h2 := hvT2 ad.block rfl
    refine ⟨by rw [hsz6]; omega, fun h => ?_⟩
    rcases h with h | h
    · exact h2.1 h
    · have := HL4.out.1
      omega)
  have Hr6 := Lib.hid hr6
  have hal4 := HL4.out.1
  clear hB hL5 hD3 hT3 hTu3 hown2 hS3 hb5 hal6 hP11 hP7 hlbT3 hrow2 hr6 hvT2 hlb2
  go_wp2_with fail
  refine HBb.out.mono ?_
  rintro e w7 ⟨rfl, hL7, T4, hD4, hT4, hlbT4, hTu4⟩
  rw [HP.out.2.2.2.2.2.2.2.2.2.2.2.1]
  have hb7 : Below w.heap.size w w7 := below_turned HB6.out hTu4 fun k hk => by
    rcases hk with h | h
    · exact HS3.out k h
    · rw [h]
      exact Hlbw.out
  have hr7 : RowsAt strLay w7 a2 rA := Hr6.out.turned hTu4 Hvb.out
  have hP14 := HP.out.2.2.2.2.2.2.2.2.2.2.2.2.2.1
  have hnames : namesD aA2.2.1 = [⟨#[115, 101, 103, 45, 48]⟩, ⟨#[115, 101, 103, 45, 49]⟩] := by
    rw [← name0, ← name1]
    exact names_are hD4.ok.now.rise (by rw [name0, name1]; decide) HP.out.2.2.2.2.2.2.2.2.2.2.2.2.2.2
  have HNm := Lib.hid fun W (hW : Below w7.heap.size w7 W) => dnames_any (hD4.below hW) (Nat.le_trans (names_len hP14.names) (by decide))
  rw [hnames] at HNm
  have HLn := Lib.hid fun W (hW : Below w7.heap.size w7 W) => slen_any lb db _ W (hL7.keeps hW hL7.1)
  have hm9 : (aA2.1.many : Int) = 9 := by rw [HP.out.2.2.2.2.2.2.2.2.2.2.2.2.1]; rfl
  rw [hm9] at HLn
  have hal8 := (Below.refl w7.heap.size w7).alloc (Nat.le_refl _) (.cells #[.string ⟨#[97]⟩, .string ⟨#[98, 99]⟩] 9)
  have HT1 : Hid (Calls Tryz.prog 25 #[.slice a2 2 c2, .slice (some ⟨w7.heap.size, 0, none⟩) 2 2] (w7.alloc (.cells #[.string ⟨#[97]⟩, .string ⟨#[98, 99]⟩] 9)) fun e w' => e = .returned (.bool true) ∧ ∃ n, w' = (w7.alloc (.cells #[.string ⟨#[97]⟩, .string ⟨#[98, 99]⟩] 9)).drewN n) :=
    Lib.hid (stexts_any a2 _ c2 2 rA rA _ (by decide) (hr7.keeps hal8) (rows_new strLay w7 w7.heap.size _ _ rA rfl rfl))
  have HB7 := Lib.hid hb7
  have hal8s : (w7.alloc (.cells #[.string ⟨#[97]⟩, .string ⟨#[98, 99]⟩] 9)).heap.size = w7.heap.size + 1 := by simp
  have HAl8 := Lib.hid hal8
  clear hL7 hD4 hT4 hTu4 hb7 hP14 hnames hm9 hal8 hr7 hlbT4
  go_wp2_with fail
  refine HT1.out.mono ?_
  rintro e w8 ⟨rfl, n8, rfl⟩
  have hb8 := belowDrew HAl8.out n8
  generalize (w7.alloc (.cells #[.string ⟨#[97]⟩, .string ⟨#[98, 99]⟩] 9)).drewN n8 = w8 at *
  clear hal8s HT1
  go_wp2_with fail
  refine (HNm.out w8 hb8).mono ?_
  rintro e w9 ⟨u, rfl, hu, hb9⟩
  obtain ⟨ua, uc, rfl, hur, _⟩ := hu.read
  have hb79 := hb8.trans (hb9.mono hb8.size)
  have hal9 := (Below.refl w9.heap.size w9).alloc (Nat.le_refl _) (.cells #[.string ⟨#[115, 101, 103, 45, 48]⟩, .string ⟨#[115, 101, 103, 45, 49]⟩] 9)
  have HT2 : Hid (Calls Tryz.prog 25 #[.slice ua 2 uc, .slice (some ⟨w9.heap.size, 0, none⟩) 2 2] (w9.alloc (.cells #[.string ⟨#[115, 101, 103, 45, 48]⟩, .string ⟨#[115, 101, 103, 45, 49]⟩] 9)) fun e w' => e = .returned (.bool true) ∧ ∃ n, w' = (w9.alloc (.cells #[.string ⟨#[115, 101, 103, 45, 48]⟩, .string ⟨#[115, 101, 103, 45, 49]⟩] 9)).drewN n) :=
    Lib.hid (stexts_any ua _ uc 2 [⟨#[115, 101, 103, 45, 48]⟩, ⟨#[115, 101, 103, 45, 49]⟩] [⟨#[115, 101, 103, 45, 48]⟩, ⟨#[115, 101, 103, 45, 49]⟩] _ (by decide) (hur.keeps hal9) (rows_new strLay w9 w9.heap.size _ _ _ rfl rfl))
  have hal9s : (w9.alloc (.cells #[.string ⟨#[115, 101, 103, 45, 48]⟩, .string ⟨#[115, 101, 103, 45, 49]⟩] 9)).heap.size = w9.heap.size + 1 := by simp
  have HAl9 := Lib.hid (hb79.trans (hal9.mono hb79.size))
  clear hu hur hb8 hb9 hb79 hal9
  go_wp2_with fail
  refine HT2.out.mono ?_
  rintro e w10 ⟨rfl, n10, rfl⟩
  have hb10 := belowDrew HAl9.out n10
  generalize (w9.alloc (.cells #[.string ⟨#[115, 101, 103, 45, 48]⟩, .string ⟨#[115, 101, 103, 45, 49]⟩] 9)).drewN n10 = w10 at *
  clear hal9s HT2
  go_wp2_with fail
  refine (HLn.out w10 hb10).mono ?_
  rintro e w11 ⟨rfl, hw11⟩
  rw [hw11]
  clear hw11
  go_wp2_with fail
  go_ret
  exact ⟨rfl, HB7.out.trans (hb10.mono HB7.out.size)⟩
end Go.Proofs.YtgglheelhbfgiaaGreatDoor

namespace Go.Proofs.YtgglheelhbfgiaaGreatDoor
open Go Go.RowKit
def oneR : ByteArray := ⟨#[114]⟩
structure FilesSt (n : Nat) (d : Dk) (l : Lg) : Prop where
  st : StL 100000 d (List.replicate n [114])
  lg : LgFor l (List.replicate n [114])
  names : ∀ p, (findK d.now p).isSome = true ↔ ∃ j, j < n ∧ p = nameS (j / 8)
theorem rep_all (j : Nat) : (List.replicate j oneR).all rightR = true := by
  refine List.all_eq_true.2 fun x hx => ?_
  rw [List.eq_of_mem_replicate hx]
  decide
theorem rep_rsL (j : Nat) : rsL (List.replicate j oneR) = List.replicate j [114] := by
  unfold rsL
  rw [List.map_replicate]
  rfl
theorem files_start : FilesSt 0 aO1.d (logOf []) := by
  obtain ⟨a1, a2, a3, a4, a5⟩ := open_still (new_mid (lim := 100000)) (by decide)
  refine ⟨a4, LgFor.of [], fun p => ?_⟩
  rw [show (findK aO1.d.now p).isSome = (findK (newD 100000).now p).isSome from a5 p]
  refine ⟨fun h => ?_, fun ⟨j, h, _⟩ => absurd h (Nat.not_lt_zero j)⟩
  have : (none : Option ByteArray).isSome = true := h
  cases this
theorem files_step {n j : Nat} {d : Dk} {l : Lg} (h : FilesSt n d l) (hn : n + j ≤ 100) : (appendD l (List.replicate j oneR) d).2.2 = 0 ∧ FilesSt (n + j) (appendD l (List.replicate j oneR) d).2.1 (appendD l (List.replicate j oneR) d).1 := by
  have hle : ∀ {m : Nat}, ∀ s ∈ List.replicate m ([114] : List UInt8), s.length ≤ 1 := fun {m} s hs => by
    rw [List.eq_of_mem_replicate hs]
    decide
  obtain ⟨b1, b2, b3, b4⟩ := append_still (c := 1) h.st h.lg (List.replicate j oneR) (rep_all j) hle (by rw [rep_rsL]; exact hle) (by decide) (by rw [List.length_replicate, List.length_replicate]; omega)
  rw [rep_rsL, List.replicate_append_replicate] at b2 b3
  refine ⟨b1, b2, b3, fun p => (b4 p).trans ?_⟩
  rw [h.names p, List.length_replicate, List.length_replicate]
  constructor
  · rintro (⟨i, h1, h2⟩ | ⟨i, h1, h2, h3⟩)
    · exact ⟨i, by omega, h2⟩
    · exact ⟨i, h2, h3⟩
  · rintro ⟨i, h1, h2⟩
    by_cases hi : i < n
    · exact .inl ⟨i, hi, h2⟩
    · exact .inr ⟨i, by omega, h1, h2⟩
theorem files_end {n : Nat} {d : Dk} {l : Lg} (h : FilesSt n d l) : (openD d).err = 0 ∧ (openD d).out.length = n ∧ (openD d).log ≠ none ∧ (openD d).d.now.length = (n + 7) / 8 := by
  obtain ⟨a1, a2, a3, a4, a5⟩ := open_still h.st.mid (by decide)
  refine ⟨a3, by rw [a2, List.length_map, List.length_replicate], fun hh => (by rw [a1] at hh; cases hh), names_count a4.names.nodup fun p => ?_⟩
  rw [a5 p, h.names p]
  constructor
  · rintro ⟨j, h1, h2⟩
    exact ⟨j / 8, by omega, h2⟩
  · rintro ⟨i, h1, h2⟩
    exact ⟨8 * i, by omega, by rw [Nat.mul_div_cancel_left i (by decide)]; exact h2⟩
end Go.Proofs.YtgglheelhbfgiaaGreatDoor

namespace Go.Proofs.YtgglheelhbfgiaaGreatDoor
open Go Go.RowKit Go.Lib
/-- A disk and a log in the world, since w0. -/
structure LIn (w0 w : World) (db lb : Nat) (T : Nat → Prop) (d : Dk) (l : Lg) : Prop where
  disk : DOk w db T d
  log : LAt w lb db l
  old : ∀ k, T k → w0.heap.size ≤ k
  lbT : ¬ T lb
  lbo : w0.heap.size ≤ lb
  below : Below w0.heap.size w0 w
theorem LIn.keeps {w0 w w' : World} {db lb : Nat} {T : Nat → Prop} {d : Dk} {l : Lg} (h : LIn w0 w db lb T d l) (hb : Below w.heap.size w w') : LIn w0 w' db lb T d l :=
  ⟨h.disk.below hb, h.log.keeps hb h.log.1, h.old, h.lbT, h.lbo, h.below.trans (hb.mono h.below.size)⟩
theorem LIn.app {w0 w w' : World} {db lb : Nat} {T : Nat → Prop} {d : Dk} {l : Lg} {r : Lg × Dk × Int} {e : Ending} (h : LIn w0 w db lb T d l) (ha : AppIs w db lb T r e w') : e = .returned (.int .i64 r.2.2) ∧ ∃ T', LIn w0 w' db lb T' r.2.1 r.1 ∧ (∀ k, T' k → T k ∨ w.heap.size ≤ k) ∧ Turned (fun k => T k ∨ k = lb) w.heap.size w w' := by
  obtain ⟨he, hL, T', h1, h2, h3, h4⟩ := ha
  refine ⟨he, T', ⟨h1, hL, fun k hk => ?_, h3, h.lbo, below_turned h.below h4 fun k hk => ?_⟩, h2, h4⟩
  · rcases h2 k hk with hk | hk
    · exact h.old k hk
    · exact Nat.le_trans h.below.size hk
  · rcases hk with hk | hk
    · exact h.old k hk
    · rw [hk]
      exact h.lbo
set_option maxRecDepth 100000 in
set_option maxHeartbeats 6400000 in
theorem law_seglogFiles (many each : Int) (w : World) (_ : -9223372036854775808 ≤ many) (_ : many ≤ 9223372036854775807) (_ : -9223372036854775808 ≤ each) (_ : each ≤ 9223372036854775807) (ht : TabD w) :
    Calls Tryz.prog 4 #[.int .i64 many, .int .i64 each] w fun e w' => e = .returned (.bool true) ∧ Below w.heap.size w w' := by
  by_cases hm : many < 0 ∨ 100 < many
  · have HA := Lib.hid (awake16_any w ht)
    clear ht
    rcases hm with hm | hm
    · go_enter Tryz.func4, Tryz.ntmps4
      go_wp2_with fail
      refine HA.out.mono ?_
      rintro e w4 ⟨rfl, hb4⟩
      go_wp2_with fail
      go_ret
      exact ⟨rfl, hb4⟩
    · have hm2 : 0 ≤ many := by omega
      go_enter Tryz.func4, Tryz.ntmps4
      go_wp2_with fail
      refine HA.out.mono ?_
      rintro e w4 ⟨rfl, hb4⟩
      go_wp2_with fail
      go_ret
      exact ⟨rfl, hb4⟩
  · obtain ⟨m, rfl⟩ : ∃ m : Nat, many = (m : Int) := ⟨many.toNat, by omega⟩
    have hm100 : m ≤ 100 := by omega
    have hm100i : (m : Int) ≤ 100 := by omega
    obtain ⟨st, hst⟩ : ∃ st : Nat, min (max each 1) 20 = (st : Int) := ⟨(min (max each 1) 20).toNat, by omega⟩
    have hst1 : 1 ≤ st := by omega
    have hst20 : st ≤ 20 := by omega
    have Hst := Lib.hid hst
    obtain ⟨p1, p2, p3, p4, _⟩ := awake_plain
    have HP := Lib.hid (⟨p1, p2, p3, p4⟩ : aO1.log = some (logOf []) ∧ aO1.out = [] ∧ aO1.err = 0 ∧ StL 100000 aO1.d [])
    have HN := Lib.hid (new_any w 100000 (by decide) (by decide))
    have HT := Lib.hid ht
    clear ht hm p1 p2 p3 p4 hst
    obtain ⟨db, hdb⟩ : ∃ db, w.heap.size + 2 = db := ⟨_, rfl⟩
    rw [hdb] at HN
    clear hdb
    go_enter Tryz.func4, Tryz.ntmps4
    go_wp2_with fail
    refine HN.out.mono ?_
    rintro e w1 ⟨rfl, hD, hb1⟩
    have HO := Lib.hid (sopen_any hD (by show ([] : Fls).length ≤ _; decide) (by show ([] : List ActD).length ≤ _; decide) ⟨w, rfl, HT.out, hb1⟩ (fun k hk => hk.1))
    have HB1 := Lib.hid hb1
    clear hD hb1
    go_wp2_with fail
    refine HO.out.mono ?_
    rintro e w2 hO
    change OpenIs w1 db _ aO1 e w2 at hO
    obtain ⟨T1, hD1, hT1, hTu1, hcase⟩ := hO
    rcases hcase with ⟨h, _⟩ | ⟨l1, lb, v1, hl1, rfl, hL1, hlb1, hlbT1, hown1, _⟩
    · rw [HP.out.1] at h
      cases h
    rw [HP.out.1] at hl1
    cases hl1
    rw [HP.out.2.1] at hown1
    rw [HP.out.2.2.1]
    obtain ⟨a1, c1, rfl, _, _⟩ := hown1.read
    have hS1 : ∀ k, T1 k → w.heap.size ≤ k := fun k hk => by
      rcases hT1 k hk with h | h
      · exact h.1
      · exact Nat.le_trans HB1.out.size h
    have hIn : LIn w w2 db lb T1 aO1.d (logOf []) := ⟨hD1, hL1, hS1, hlbT1, Nat.le_trans HB1.out.size hlb1, below_turned HB1.out hTu1 fun k hk => hk.1⟩
    clear hD1 hT1 hTu1 hL1 hlb1 hlbT1 hown1 hS1
    go_wp2_with fail
    rw [Hst.out]
    go_loopw [11, 12] (fun i _ wr => ∃ (n : Nat) (l : Lg) (d : Dk) (T : Nat → Prop), n ≤ m ∧ i = .int .i64 n ∧ LIn w wr db lb T d l ∧ Hid (FilesSt n d l)) (fun i _ _ => m - (RowKit.intOf i).toNat)
    case atStart => exact ⟨0, _, _, T1, Nat.zero_le _, rfl, hIn, Lib.hid files_start⟩
    case round =>
      obtain ⟨n, l, d, T, hn, rfl, hIn, HF⟩ := hrel
      obtain ⟨wo, hwo⟩ : ∃ wo, wr = wo := ⟨_, rfl⟩
      rw [hwo] at hIn ⊢
      clear hwo
      by_cases hlt : n < m
      · have hlti : (n : Int) < (m : Int) := by omega
        obtain ⟨i0, hi, hz0, hz1, hz2⟩ := info_three strInfoS
        have Hi := Lib.hid hi
        have Hz0 := Lib.hid hz0
        have Hz1 := Lib.hid hz1
        have Hz2 := Lib.hid hz2
        clear hi hz0 hz1 hz2
        have HIn := Lib.hid hIn
        clear hIn
        go_wp2_with fail
        go_loopw [11, 12] (fun i r wx => ∃ j : Nat, n + j ≤ m ∧ j ≤ st ∧ i = .int .i64 ((n + j : Nat) : Int) ∧ OwnRows strLay wx wo.heap.size 9 r (List.replicate j oneR) ∧ Below wo.heap.size wo wx) (fun _ r _ => st - lenV r)
        case atStart => exact ⟨0, by omega, by omega, rfl, OwnRows.nil _ _ _ _, Below.refl _ _⟩
        case round =>
          obtain ⟨j, hj, hjs, rfl, ho, hb⟩ := hrel
          have hrl : (List.replicate j oneR).length = j := List.length_replicate
          obtain ⟨ra, rc, rfl, hrow, _⟩ := ho.read
          rw [hrl] at ho ⊢
          have Hrl := Lib.hid hrl
          clear hrl
          by_cases hjl : j < st ∧ n + j < m
          · obtain ⟨h1, h2⟩ := hjl
            have h1i : (j : Int) < (st : Int) := by omega
            have h2i : ((n + j : Nat) : Int) < (m : Int) := by omega
            have h3i : (n : Int) + (j : Int) < (m : Int) := by omega
            have Ho := Lib.hid ho
            clear hrow ho
            go_wp2_with (at_builtin; refine wpList_append_rows _ rfl _ _ 23 rfl strLay wo.heap.size 9 i0 (.string ⟨#[]⟩) 16 Tryz.underlying23 Hi.out Hz0.out Hz1.out Hz2.out rfl (by decide) _ (List.replicate j oneR) rfl (Ho.out.alloc _) ⟨wr.heap.size, 0, none⟩ 1 oneR rfl (cells_new_at wr wr.heap.size #[.string ⟨#[114]⟩] 9 rfl) (by rw [Hrl.out]; unfold maxLen; omega) (by rw [Hrl.out]; omega) (by have := hb.size; simp; omega) ?_; intro va w3 hrow3 hg3 _; go_frame)
            have hb3 := (hb.alloc hb.size (.cells #[.string ⟨#[114]⟩] 9)).grown hg3 (by have := hb.size; simp; omega) (fun q eq => (Ho.out.lt eq).1)
            rw [show List.replicate j oneR ++ [oneR] = List.replicate (j + 1) oneR from List.replicate_succ'.symm] at hrow3
            obtain ⟨rb, rd, rfl, _, _⟩ := hrow3.read
            go_roundw
            case rel => exact ⟨j + 1, by omega, by omega, by go_num, hrow3, hb3⟩
            case measure => simp only [lenV, List.length_replicate]; omega
          · have hj1 : 1 ≤ j := by omega
            have hrow' := hrow
            have hstep := files_step (j := j) HF.out (by omega)
            have HIx := HIn.out.keeps hb
            have hA : Calls Tryz.prog 10 #[.pointer (some ⟨lb, 0, none⟩), .slice ra j rc] wr fun e w' => AppIs wr db lb T (appendD l (List.replicate j oneR) d) e w' := by
              have := sappend_any (rs := List.replicate j oneR) HIx.disk HIx.log HIx.lbT ra rc hrow' (fun ad e _ => by
                subst e
                have h1 := (ho.lt (k := ad.block) rfl)
                exact ⟨h1.2, fun h => by have := HIn.out.disk.slt _ h; omega⟩) (by rw [HF.out.lg.many, List.length_replicate]; omega) (by rw [Hrl.out]; omega) (Nat.le_trans (names_len HF.out.st.names) (by decide)) (by rw [HF.out.st.acts]; decide)
              rw [Hrl.out] at this
              exact this
            have HA := Lib.hid hA
            have HIx2 := Lib.hid HIx
            have Hs1 := Lib.hid hstep
            clear hA HIx hrow hrow' ho hstep
            generalize appendD l (List.replicate j oneR) d = R at *
            have fin : ∀ b : Bool, True := fun _ => trivial
            clear fin
            rcases Nat.lt_or_ge j st with h1 | h1
            · have hnm : n + j = m := by omega
              have h1i : (j : Int) < (st : Int) := by omega
              have h2i : ¬ ((n : Int) + (j : Int) < (m : Int)) := by omega
              have h2d : decide ((n : Int) + (j : Int) < (m : Int)) = false := decide_eq_false h2i
              have Hnm := Lib.hid hnm
              clear hnm
              go_wp2_with fail
              refine HA.out.mono ?_
              rintro e w4 hApp
              obtain ⟨rfl, T', hIn', _, _⟩ := HIx2.out.app hApp
              have hm' : (R.1.many : Int) = ((n + j : Nat) : Int) := by rw [Hs1.out.2.lg.many, List.length_replicate]
              have HLn := Lib.hid (slen_any lb db _ w4 hIn'.log)
              rw [hm'] at HLn
              rw [Hs1.out.1]
              have HIn' := Lib.hid hIn'
              clear hApp hm' hIn'
              go_wp2_with fail
              refine HLn.out.mono ?_
              rintro e w5 ⟨rfl, hw5⟩
              rw [hw5]
              clear hw5
              go_wp2_with fail
              go_roundw
              case rel => exact ⟨n + j, R.1, R.2.1, T', by omega, by go_num, HIn'.out, Lib.hid Hs1.out.2⟩
              case measure => simp [RowKit.intOf]; omega
            · obtain rfl : j = st := by omega
              go_wp2_with fail
              refine HA.out.mono ?_
              rintro e w4 hApp
              obtain ⟨rfl, T', hIn', _, _⟩ := HIx2.out.app hApp
              have hm' : (R.1.many : Int) = ((n + j : Nat) : Int) := by rw [Hs1.out.2.lg.many, List.length_replicate]
              have HLn := Lib.hid (slen_any lb db _ w4 hIn'.log)
              rw [hm'] at HLn
              rw [Hs1.out.1]
              have HIn' := Lib.hid hIn'
              clear hApp hm' hIn'
              go_wp2_with fail
              refine HLn.out.mono ?_
              rintro e w5 ⟨rfl, hw5⟩
              rw [hw5]
              clear hw5
              go_wp2_with fail
              go_roundw
              case rel => exact ⟨n + j, R.1, R.2.1, T', by omega, by go_num, HIn'.out, Lib.hid Hs1.out.2⟩
              case measure => simp [RowKit.intOf]; omega
      · obtain rfl : n = m := by omega
        have hE := files_end HF.out
        have HE := Lib.hid hE
        have HO2 := Lib.hid (sopen_any hIn.disk (Nat.le_trans (names_len HF.out.st.names) (by decide)) (by rw [HF.out.st.acts]; decide) ⟨w, rfl, HT.out, hIn.below⟩ hIn.old)
        have HIn := Lib.hid hIn
        clear hE hIn
        obtain ⟨O, hO⟩ : ∃ O, openD d = O := ⟨_, rfl⟩
        rw [hO] at HE HO2
        clear hO
        go_wp2_with fail
        refine HO2.out.mono ?_
        rintro e w5 hO
        obtain ⟨T3, hD3, hT3, hTu3, hcase⟩ := hO
        rcases hcase with ⟨h, _⟩ | ⟨l2, lb2, v2, hl2, rfl, _, _, _, hown2, _⟩
        · exact absurd h HE.out.2.2.1
        rw [HE.out.1]
        obtain ⟨a2, c2, hv2, _, _⟩ := hown2.read
        rw [HE.out.2.1] at hv2
        subst hv2
        have hb5 : Below w.heap.size w w5 := below_turned HIn.out.below hTu3 HIn.out.old
        have hnow := HE.out.2.2.2
        have HNm := Lib.hid (dnames_any hD3 (by rw [hnow]; omega))
        have hnl : (namesD O.d).length = (n + 7) / 8 := by rw [← hnow]; exact List.length_map ..
        have hq8 : (((n + 7) / 8 : Nat) : Int) = ((n : Int) + 7) / 8 := by omega
        have Hb5 := Lib.hid hb5
        have Hnl := Lib.hid hnl
        clear hown2 hD3 hT3 hTu3 hb5 hnow hnl hl2
        go_wp2_with fail
        refine HNm.out.mono ?_
        rintro e w6 ⟨u, rfl, hu, hb6⟩
        obtain ⟨ua, uc, hu2, _, _⟩ := hu.read
        rw [Hnl.out] at hu2
        subst hu2
        have hb56 := Hb5.out.trans (hb6.mono Hb5.out.size)
        have HAw := Lib.hid (awake16_any w6 (HT.out.keeps hb56))
        have Hb56 := Lib.hid hb56
        clear hu hb6 hb56
        go_wp2_with fail
        refine HAw.out.mono ?_
        rintro e w7 ⟨rfl, hb7⟩
        go_wp2_with fail
        go_ret
        exact ⟨rfl, Hb56.out.trans (hb7.mono Hb56.out.size)⟩
end Go.Proofs.YtgglheelhbfgiaaGreatDoor

namespace Go.Proofs.YtgglheelhbfgiaaGreatDoor
open Go Go.RowKit Go.ChangeShapes Go.WideShapes Go.ChangeAt

theorem trodAll_below {H : Type} {enc : TypeId × Value → H} {P : Program} (hl : laidOutB P = true) {W W' : World} (hb : Below W.heap.size W W') :
    ∀ (ts : List TypeId) (vs : List Value) (ds : List (DataW H)) (ps : List MemPlace), (∀ t ∈ ts, P.readableRec t = true ∧ t < P.types.size) → DataW.TrodAll enc P W 0 (fun _ => true) true ts vs ds ps →
      (∀ x ∈ ps, x.block < W.heap.size) → DataW.TrodAll enc P W' 0 (fun b => decide (b < W.heap.size)) true ts vs ds ps := by
  intro ts
  induction ts with
  | nil =>
    intro vs ds ps _ h _
    obtain ⟨rfl, rfl, rfl⟩ := trodAll_nil h
    exact trodAll_mk0
  | cons t ts ih =>
    intro vs ds ps hr h hlt
    obtain ⟨v, vs', d, ds', p, q, rfl, rfl, rfl, h0, h1⟩ := trodAll_cons h
    exact trodAll_cons_mk (Below.trod hl (hr t (.head _)).1 (hr t (.head _)).2 h0 hb (fun x hx => hlt x (List.mem_append_left _ hx)))
      (ih vs' ds' q (fun u hu => hr u (.tail _ hu)) h1 (fun x hx => hlt x (List.mem_append_right _ hx)))

theorem trodAll_len {H : Type} {enc : TypeId × Value → H} {P : Program} {W : World} {base : Nat} {sp : Nat → Bool} {held : Bool} :
    ∀ (ts : List TypeId) (vs : List Value) (ds : List (DataW H)) (ps : List MemPlace), DataW.TrodAll enc P W base sp held ts vs ds ps → ds.length = ts.length := by
  intro ts
  induction ts with
  | nil =>
    intro vs ds ps h
    obtain ⟨_, rfl, _⟩ := trodAll_nil h
    rfl
  | cons t ts ih =>
    intro vs ds ps h
    obtain ⟨v, vs', d, ds', p, q, rfl, rfl, rfl, h0, h1⟩ := trodAll_cons h
    simp [ih vs' ds' q h1]

/-- A law that lists variables: all but its contract and its witness. -/
theorem lifted_of_contract {C : Checked} {os : Os} {f : FuncId} {fn : Func} {s : ChangeSpec} {laid : List (String × DataW Unit)} {t4 : TypeId} {H : Type} {enc : TypeId × Value → H}
    (own : ownKnob C.prog.godebug = none) (started : os.Started) (noInit : C.prog.inits.idxOf? f = none) (hfn : C.prog.funcs[f]? = some fn)
    (hvars : s.vars = []) (hlo : laidOutB C.prog = true) (hread : ∀ t ∈ fn.params.toList, C.prog.readableRec t = true ∧ t < C.prog.types.size)
    (hres : fn.resultTypes = #[t4]) (hb : C.prog.underlying t4 = some .bool)
    (hspec : ∀ ds : List (DataW H), ds.length = fn.params.toList.length → s.fn H (ds ++ []) = { results := [.lit (.bool true)], args := ds })
    (witness : ∃ (w : World) (tape : Tape) (i : Input), w.os = os ∧ (w.forCall tape i).Shaped C.prog ∧ i.vars = [] ∧ Input.okWide C.prog (w.forCall tape i) .any w.heap.size f i ∧
      ((s.pre enc C.prog fn [] false (w.forCall tape i).memory i.args ∧ laidMetH C.prog laid (w.forCall tape i).memory) ∧ sizedMet enc C.prog fn (OpenSpec.ofChange s) false (w.forCall tape i).memory i.args) ∧ ({} : Assume).holds C.prog (lone (Frame.enter C.prog f i.args .normal) [] (w.forCall tape i)))
    (contract : ∀ (W : World) (base : Nat) (args : Array Value) (ds : List (DataW H)) (p : List MemPlace),
      (∀ (j : Nat) t v, fn.params[j]? = some t → args[j]? = some v → Value.okWide C.prog W .any base t v) →
      DataW.TrodAll enc C.prog W 0 (fun _ => true) true fn.params.toList args.toList ds p → (∀ x ∈ p, x.block < W.heap.size) →
      (DataW.weightsEach C.prog fn.params.toList ds).all (· ≤ reachBytes) = true → laidMetH C.prog laid W →
      Calls C.prog f args W fun e W' => e = .returned (.bool true) ∧ Below W.heap.size W W') :
    ReturnsInHanded {} C os f .any (fun w args => (s.pre enc C.prog fn [] false w args ∧ laidMetH C.prog laid w) ∧ sizedMet enc C.prog fn (OpenSpec.ofChange s) false w args)
      (s.post enc C.prog fn false true false false) := by
  refine returnsInHanded_of_change_and (C := C) (X := fun w _ => laidMetH C.prog laid w) (fun _ _ _ hh h => h.of_heap hh) own started noInit hfn witness ?_
  intro W base args ds gs before hval hW _ hsz hL _
  have hW' := hW
  obtain ⟨p, q, hA, hV, rfl, _, _⟩ := hW
  rw [hvars] at hV
  obtain ⟨rfl, rfl⟩ := trodVars_none hV
  have hlt : ∀ x ∈ p, x.block < W.heap.size := fun x hx => by
    have := hW'.lt x (by simpa using hx)
    exact this
  have hvt : s.plain.varTypes C.prog = [] := by
    have : s.plain.vars = [] := hvars
    unfold DataSpec.varTypes
    rw [this]
    rfl
  rw [hvt, List.append_nil, List.append_nil] at hsz
  refine (contract W base args ds p hval hA hlt hsz hL).mono fun e W' ⟨he, hbl⟩ => ?_
  subst he
  refine ⟨_, rfl, ds, [], _, [], p, [], hW', ?_, ?_, ?_, hbl.frame _, fun h => by cases h⟩
  · rw [hspec ds (trodAll_len _ _ _ _ hA), hres]
    exact trodAll_mk1 (shut_bool hb _)
  · rw [hspec ds (trodAll_len _ _ _ _ hA)]
    exact trodAll_below hlo hbl _ _ _ _ hread hA hlt
  · rw [hspec ds (trodAll_len _ _ _ _ hA), hvars]
    rfl

/-- The same for a law that lists no variable's contents. -/
theorem lifted_plain {C : Checked} {os : Os} {f : FuncId} {fn : Func} {s : ChangeSpec} {t4 : TypeId} {H : Type} {enc : TypeId × Value → H}
    (own : ownKnob C.prog.godebug = none) (started : os.Started) (noInit : C.prog.inits.idxOf? f = none) (hfn : C.prog.funcs[f]? = some fn)
    (hvars : s.vars = []) (hlo : laidOutB C.prog = true) (hread : ∀ t ∈ fn.params.toList, C.prog.readableRec t = true ∧ t < C.prog.types.size)
    (hres : fn.resultTypes = #[t4]) (hb : C.prog.underlying t4 = some .bool)
    (hspec : ∀ ds : List (DataW H), ds.length = fn.params.toList.length → s.fn H (ds ++ []) = { results := [.lit (.bool true)], args := ds })
    (witness : ∃ (w : World) (tape : Tape) (i : Input), w.os = os ∧ (w.forCall tape i).Shaped C.prog ∧ i.vars = [] ∧ Input.okWide C.prog (w.forCall tape i) .any w.heap.size f i ∧
      s.pre6 enc C.prog fn [] false (w.forCall tape i).memory i.args ∧ ({} : Assume).holds C.prog (lone (Frame.enter C.prog f i.args .normal) [] (w.forCall tape i)))
    (contract : ∀ (W : World) (base : Nat) (args : Array Value) (ds : List (DataW H)) (p : List MemPlace),
      (∀ (j : Nat) t v, fn.params[j]? = some t → args[j]? = some v → Value.okWide C.prog W .any base t v) →
      DataW.TrodAll enc C.prog W 0 (fun _ => true) true fn.params.toList args.toList ds p → (∀ x ∈ p, x.block < W.heap.size) →
      (DataW.weightsEach C.prog fn.params.toList ds).all (· ≤ reachBytes) = true →
      Calls C.prog f args W fun e W' => e = .returned (.bool true) ∧ Below W.heap.size W W') :
    ReturnsInHanded {} C os f .any (s.pre6 enc C.prog fn [] false) (s.post enc C.prog fn false true false false) := by
  refine returnsInHanded_of_change_sized (C := C) own started noInit hfn witness ?_
  intro W base args ds gs before hval hW _ hsz _
  have hW' := hW
  obtain ⟨p, q, hA, hV, rfl, _, _⟩ := hW
  rw [hvars] at hV
  obtain ⟨rfl, rfl⟩ := trodVars_none hV
  have hlt : ∀ x ∈ p, x.block < W.heap.size := fun x hx => by
    have := hW'.lt x (by simpa using hx)
    exact this
  have hvt : s.plain.varTypes C.prog = [] := by
    have : s.plain.vars = [] := hvars
    unfold DataSpec.varTypes
    rw [this]
    rfl
  rw [hvt, List.append_nil, List.append_nil] at hsz
  refine (contract W base args ds p hval hA hlt hsz).mono fun e W' ⟨he, hbl⟩ => ?_
  subst he
  refine ⟨_, rfl, ds, [], _, [], p, [], hW', ?_, ?_, ?_, hbl.frame _, fun h => by cases h⟩
  · rw [hspec ds (trodAll_len _ _ _ _ hA), hres]
    exact trodAll_mk1 (shut_bool hb _)
  · rw [hspec ds (trodAll_len _ _ _ _ hA)]
    exact trodAll_below hlo hbl _ _ _ _ hread hA hlt
  · rw [hspec ds (trodAll_len _ _ _ _ hA), hvars]
    rfl

open Go.ChangeMaps (open_string) in
/-- A text that came in. -/
theorem arg_string {H : Type} {enc : TypeId × Value → H} {P : Program} {W : World} {base : Nat} {ts : List TypeId} {ds : List (DataW H)} {j : Nat} {t : TypeId} {v : Value} {d : DataW H} {p : List MemPlace} (ht : P.underlying t = some .string)
    (hv : Value.okWide P W .any base t v) (h : DataW.Trod enc P W 0 (fun _ => true) true t v d p) (hsz : (DataW.weightsEach P ts ds).all (· ≤ reachBytes) = true) (h1 : ts[j]? = some t) (h2 : ds[j]? = some d) :
    ∃ s : ByteArray, v = .string s ∧ s.size ≤ 140737488351232 := by
  obtain ⟨s, rfl, rfl, rfl, _⟩ := open_string ht hv h
  refine ⟨s, rfl, ?_⟩
  have := sized_string hsz h1 h2
  rw [Go.Lib.size_eq]
  simpa [reachBytes] using this
theorem arg_int {H : Type} {enc : TypeId × Value → H} {P : Program} {W : World} {base : Nat} {t : TypeId} {v : Value} {d : DataW H} {p : List MemPlace} (ht : P.underlying t = some (.int .i64))
    (hv : Value.okWide P W .any base t v) (h : DataW.Trod enc P W 0 (fun _ => true) true t v d p) : ∃ n : Int, v = .int .i64 n ∧ -9223372036854775808 ≤ n ∧ n ≤ 9223372036854775807 := by
  obtain ⟨n, rfl, rfl, rfl, wn⟩ := open_int ht hv h
  exact ⟨n, rfl, by simpa [Lit.wf, IntKind.min, IntKind.max, IntKind.signed, IntKind.bits] using wn⟩
/-- Texts that came in. -/
theorem arg_strings {H : Type} {enc : TypeId × Value → H} {P : Program} {W : World} {base : Nat} {ts : List TypeId} {ds : List (DataW H)} {j : Nat} {t e : TypeId} {v : Value} {d : DataW H} {p : List MemPlace} (ht : P.underlying t = some (.slice e)) (he : P.underlying e = some .string) (hc : P.cellsOf e = 1) (hby : P.bytesOf e = 16)
    (hv : Value.okWide P W .any base t v) (h : DataW.Trod enc P W 0 (fun _ => true) true t v d p) (hlt : ∀ x ∈ p, x.block < W.heap.size) (hsz : (DataW.weightsEach P ts ds).all (· ≤ reachBytes) = true) (h1 : ts[j]? = some t) (h2 : ds[j]? = some d) :
    ∃ (a : Option Addr) (cap : Nat) (ss : List ByteArray), v = .slice a ss.length cap ∧ StrsAt W a ss ∧ ss.length ≤ cap ∧ ss.length ≤ 8796093021952 := by
  obtain ⟨a0, len, cap, rfl⟩ := okWide_slice ht hv
  obtain ⟨fuel, hf⟩ := h
  rcases open_strings ht he hc hf with ⟨hcs, hx⟩ | ⟨a, len', cap', ss, hcs, _, hl, hm, hz, hx, hcell, hws⟩
  · have hcs' : Value.slice a0 len cap = .slice none 0 0 := by simpa [Value.cells] using hcs
    cases hcs'
    exact ⟨none, 0, [], rfl, StrsAt.nil _ _, Nat.le_refl _, Nat.zero_le _⟩
  · have hcs' : Value.slice a0 len cap = .slice (some a) len' cap' := by simpa [Value.cells] using hcs
    cases hcs'
    simp only [if_true] at hz
    obtain ⟨rfl, hp⟩ := Prod.mk.inj hx
    have hlen : (ss.take len).length = len := by rw [List.length_take]; omega
    have hs := sized_slice hsz h1 h2 ht
    rw [hby] at hs
    simp only [strs, List.length_map, List.length_take, List.length_drop, reachBytes] at hs
    refine ⟨some a, cap, ss.take len, by rw [hlen], ?_, by omega, by omega⟩
    intro j hj
    rw [hlen] at hj
    have h0 := hcell 0 (by omega)
    have hspot : a.spot = none := by
      cases hsp : a.spot with
      | none => rfl
      | some q =>
        have : W.cell? (a.add 0) = none := by
          unfold World.cell? Addr.add
          simp only [if_true]
          rw [hsp]
          split <;> rfl
        rw [this] at h0
        cases h0
    obtain ⟨b, off, sp⟩ := a
    simp only at hspot
    subst hspot
    refine ⟨b, off, rfl, ?_, ?_⟩
    · have hin : MemPlace.cell b off ∈ p := by
        rw [hp]
        simp only [MemPlace.row, List.mem_map, List.mem_range]
        exact ⟨0, by omega, by simp⟩
      exact hlt _ hin
    · have hj' := hcell j (by omega)
      have e : ((⟨b, off, none⟩ : Addr).add j) = ⟨b, off + j, none⟩ := by unfold Addr.add; split <;> simp_all
      rw [e] at hj'
      rw [hj']
      simp only [List.getD_eq_getElem?_getD]
      rw [List.getElem?_take_of_lt (by omega)]
/-- A listed table of integers, wherever it stands on the list. -/
theorem tabIs_of_reads {P : Program} {W : World} {name : String} {k : IntKind} {zs : List Int} {g : Nat} {t e : TypeId} {n : Nat}
    (hg : P.globalNamed name = some g) (hty : (P.globals[g]?).map (·.type) = some t) (ht : P.underlying t = some (.array n e)) (he : P.underlying e = some (.int k)) (hce : P.cellsOf e = 1) (hct : P.cellsOf t = n)
    (h : Lib.VarReads P W name (Lib.tabData k zs)) : Lib.TabIs P W name k zs := by
  obtain ⟨g', t', cs, fuel, p, hg', ht', hvar, hd⟩ := h
  obtain rfl := Option.some.inj (hg.symm.trans hg')
  obtain rfl := Option.some.inj (hty.symm.trans ht')
  have := Lib.cells_of_tab ht he hce hct hd
  unfold Lib.TabIs
  rw [hvar]
  congr 1
  rw [← this]
end Go.Proofs.YtgglheelhbfgiaaGreatDoor

