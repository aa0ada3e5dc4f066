/-
  The library's stable sort at operations, walked.
-/
import Derived.Test.YtlenpifjkbcmdaaGreatDoorStabP
import Derived.Test.YtlenpifjkbcmdaaGreatDoorOpsW1
import Derived.Test.YtlenpifjkbcmdaaGreatDoorShelf
import Derived.Test.YtlenpifjkbcmdaaGreatDoorBasics
import Derived.Shelf.SlSortCmp.KitK
import Derived.Deep.LoopGhost
import Derived.IntWalk
import Derived.Lib.Hide
import Derived.Deep.CutRange
namespace Go.Proofs.YtlenpifjkbcmdaaGreatDoor
open Go Go.RowKit Go.Lib Go.Sort Go.Shelf Go.Proofs

instance : Inhabited Opr := ⟨⟨0, 0, 0, 0, 0, 0, false, 0, 0, ⟨#[]⟩, ⟨#[]⟩⟩⟩
theorem aggIO : ∀ w, (isAgg 28).run Tryz.prog w = .ok true w := fun w => by kernel_rfl
theorem sizeIO {k6 : Nat} (h : k6 = 11) : ∀ w, (Go.sizeOf 28).run Tryz.prog w = .ok k6 w := fun w => by subst h; kernel_rfl
set_option maxRecDepth 1000000 in
set_option maxHeartbeats 4000000 in
theorem swapR_kO (k6 : Nat) (h6 : k6 = 11) (fv : Value) (blk off cap a b n : Nat) (d0 d : Array Opr) (w0 w : World) (R : RowK Opr.cells k6 w0 blk off d0) (hs : d0.size = d.size) (S : SWK Opr.cells k6 w0 blk off d w) (hab : a + n ≤ b) (hb : b + n ≤ d.size) (hsz : d.size < 4611686018427387904) :
    Calls Tryz.prog 102 #[.slice (some ⟨blk, off, none⟩) d.size cap, .int .i64 a, .int .i64 b, .int .i64 n, fv] w fun e w' => e = .returned (.tuple #[]) ∧ SWK Opr.cells k6 w0 blk off (swpR d a b n) w' := by
  have aE := aggIO
  have zE := sizeIO h6
  have mixed : Tryz.prog.follows .mixedOrders = true := by kernel_rfl
  clear h6
  have S0 : Aside (SWK Opr.cells k6 w0 blk off d w) := S
  clear S
  go_enter Tryz.func102, Tryz.ntmps102
  go_wp2_with fail
  go_loopw [10] (fun i wr => ∃ k : Nat, k ≤ n ∧ i = .int .i64 k ∧ Aside (SWK Opr.cells k6 w0 blk off (swpR d a b k) wr)) (fun i _ => n - (RowKit.intOf i).toNat)
  case atStart => exact ⟨0, Nat.zero_le _, rfl, S0⟩
  case round =>
    clear S0
    obtain ⟨k, hk, rfl, S1⟩ := hrel
    by_cases hlt : k < n
    · have hlti : (k : Int) < (n : Int) := by omega
      obtain ⟨dk, hdk⟩ : ∃ dk, swpR d a b k = dk := ⟨_, rfl⟩
      have hds : dk.size = d.size := by rw [← hdk]; exact size_swpR _ _ _ _
      have HN := Lib.hid (show swpR d a b (k + 1) = swp dk (a + k) (b + k) by rw [← hdk]; rfl)
      rw [hdk] at S1
      clear hdk
      have ra : IntKind.i64.wrap ((a : Int) + (k : Int)) = (a : Int) + (k : Int) := by rw [IntKind.wrap_i64]; omega
      have rb : IntKind.i64.wrap ((b : Int) + (k : Int)) = (b : Int) + (k : Int) := by rw [IntKind.wrap_i64]; omega
      have ta : ((a : Int) + (k : Int)).toNat = a + k := by omega
      have tb : ((b : Int) + (k : Int)).toNat = b + k := by omega
      have pa : (0 : Int) ≤ (a : Int) + (k : Int) := by omega
      have pb : (0 : Int) ≤ (b : Int) + (k : Int) := by omega
      have la : (a : Int) + (k : Int) < (d.size : Int) := by omega
      have lb : (b : Int) + (k : Int) < (d.size : Int) := by omega
      have S2 : Aside (SWK Opr.cells k6 w0 blk off (swp dk (a + k) (b + k)) ((wr.drew.setCells blk (off + (a + k) * k6) (Opr.cells dk[b + k]!)).setCells blk (off + (b + k) * k6) (Opr.cells dk[a + k]!))) := S1.out.swapped R (a + k) (b + k) (by omega) (by omega)
      have l1 := S1.out.ld1 R (by omega) Tryz.prog (a + k) (by omega)
      have l2 := S1.out.ld1 R (by omega) Tryz.prog (b + k) (by omega)
      have s1 := S1.out.st1 R (by omega) Tryz.prog (a + k) (by omega) dk[b + k]!
      have s2 := S1.out.st2 R (by omega) Tryz.prog (a + k) (b + k) (by omega) (by omega) dk[b + k]! dk[a + k]!
      have n1 : (Opr.cells dk[a + k]!).length = k6 := R.hk _
      have n2 : (Opr.cells dk[b + k]!).length = k6 := R.hk _
      generalize Opr.cells dk[a + k]! = cI at S2 l1 s2 n1
      generalize Opr.cells dk[b + k]! = cJ at S2 l2 s1 s2 n2
      clear S1
      go_wp2_with fail
      go_big_region_o
      clear l1 l2 s1 s2
      generalize (wr.drew.setCells blk (off + (a + k) * k6) cJ).setCells blk (off + (b + k) * k6) cI = w2 at S2 ⊢
      go_wp2_with fail
      go_roundw
      case rel => exact ⟨k + 1, by omega, by go_num, by rw [HN.out]; exact S2⟩
      case measure => simp [RowKit.intOf]; omega
    · obtain rfl : k = n := by omega
      go_wp2_with fail
      go_end0
      exact ⟨rfl, S1.out⟩
set_option maxRecDepth 1000000 in
set_option maxHeartbeats 4000000 in
theorem rotR_kO (k6 : Nat) (h6 : k6 = 11) (fv : Value) (blk off cap a m b : Nat) (d0 d : Array Opr) (w0 w : World) (R : RowK Opr.cells k6 w0 blk off d0) (hs : d0.size = d.size) (S : SWK Opr.cells k6 w0 blk off d w) (ham : a < m) (hmb : m < b) (hb : b ≤ d.size) (hsz : d.size < 4611686018427387904) :
    Calls Tryz.prog 91 #[.slice (some ⟨blk, off, none⟩) d.size cap, .int .i64 a, .int .i64 m, .int .i64 b, fv] w fun e w' => e = .returned (.tuple #[]) ∧ ∃ d', Rot a m b d d' ∧ SWK Opr.cells k6 w0 blk off d' w' := by
  have S0 : Aside (SWK Opr.cells k6 w0 blk off d w) := S
  have H6 := Lib.hid h6
  clear S h6
  go_enter Tryz.func91, Tryz.ntmps91
  go_wp2_with fail
  go_loopw [10, 11] (fun i j wr => ∃ (x y : Nat) (dk : Array Opr), i = .int .i64 x ∧ j = .int .i64 y ∧ 0 < x ∧ 0 < y ∧ a + x ≤ m ∧ m + y ≤ b ∧ dk.size = d.size ∧ Hid (PermIn a b d dk ∧ ∀ z, rotF a m b d z = rotF (m - x) m (m + y) dk z) ∧ Aside (SWK Opr.cells k6 w0 blk off dk wr)) (fun i j _ => (RowKit.intOf i).toNat + (RowKit.intOf j).toNat)
  case atStart => exact ⟨m - a, b - m, d, by congr 1; omega, by congr 1; omega, by omega, by omega, by omega, by omega, rfl, Lib.hid ⟨permIn_refl _ _ _, fun z => by rw [show m - (m - a) = a by omega, show m + (b - m) = b by omega]⟩, S0⟩
  case round =>
    clear S0
    obtain ⟨x, y, dk, rfl, rfl, hx0, hy0, hax, hyb, hds, HP, S1⟩ := hrel
    by_cases hxy : x = y
    · subst hxy
      have HC := swapR_kO k6 H6.out fv blk off cap (m - x) m x d0 dk w0 wr R (by omega) S1.out (by omega) (by omega) (by omega)
      rw [show ((m - x : Nat) : Int) = (m : Int) - (x : Int) by omega, hds] at HC
      have HE := Lib.hid (show Rot a m b d (swpR dk (m - x) m x) from ⟨permIn_trans _ _ _ _ _ HP.out.1 (perm_swpR x (by omega) (by omega) (by omega) (by omega)), fun z => by rw [HP.out.2 z, rot_eq (by omega) (by omega)]⟩)
      replace HC := Lib.hid HC
      clear S1 HP
      go_wp2_with fail
      refine HC.out.mono ?_
      rintro e w2 ⟨rfl, S2⟩
      have S2 : Aside _ := S2
      go_wp2_with fail
      go_end0
      exact ⟨rfl, _, HE.out, S2.out⟩
    · have hne : ¬ (x : Int) = (y : Int) := by omega
      by_cases hgt : y < x
      · have hg : (x : Int) > (y : Int) := by omega
        have HC := swapR_kO k6 H6.out fv blk off cap (m - x) m y d0 dk w0 wr R (by omega) S1.out (by omega) (by omega) (by omega)
        rw [show ((m - x : Nat) : Int) = (m : Int) - (x : Int) by omega, hds] at HC
        have HE := Lib.hid (show PermIn a b d (swpR dk (m - x) m y) ∧ ∀ z, rotF a m b d z = rotF (m - (x - y)) m (m + y) (swpR dk (m - x) m y) z from ⟨permIn_trans _ _ _ _ _ HP.out.1 (perm_swpR y (by omega) (by omega) (by omega) (by omega)), fun z => by rw [HP.out.2 z, rot_gt hgt (by omega) (by omega), show m - (x - y) = m - x + y by omega]⟩)
        replace HC := Lib.hid HC
        have hz2 : (swpR dk (m - x) m y).size = d.size := by rw [size_swpR]; exact hds
        generalize swpR dk (m - x) m y = d2 at *
        clear S1 HP
        go_wp2_with fail
        refine HC.out.mono ?_
        rintro e w2 ⟨rfl, S2⟩
        have S2 : Aside _ := S2
        clear HC
        go_wp2_with fail
        go_roundw
        case rel => exact ⟨x - y, y, d2, by congr 1; omega, rfl, by omega, hy0, by omega, hyb, hz2, HE, S2⟩
        case measure => simp [RowKit.intOf]; omega
      · have hg : ¬ (x : Int) > (y : Int) := by omega
        have HC := swapR_kO k6 H6.out fv blk off cap (m - x) (m + y - x) x d0 dk w0 wr R (by omega) S1.out (by omega) (by omega) (by omega)
        rw [show ((m - x : Nat) : Int) = (m : Int) - (x : Int) by omega, show ((m + y - x : Nat) : Int) = (m : Int) + (y : Int) - (x : Int) by omega, hds] at HC
        have HE := Lib.hid (show PermIn a b d (swpR dk (m - x) (m + y - x) x) ∧ ∀ z, rotF a m b d z = rotF (m - x) m (m + (y - x)) (swpR dk (m - x) (m + y - x) x) z from ⟨permIn_trans _ _ _ _ _ HP.out.1 (perm_swpR x (by omega) (by omega) (by omega) (by omega)), fun z => by rw [HP.out.2 z, rot_lt (by omega) (by omega) (by omega)]⟩)
        replace HC := Lib.hid HC
        have hz2 : (swpR dk (m - x) (m + y - x) x).size = d.size := by rw [size_swpR]; exact hds
        generalize swpR dk (m - x) (m + y - x) x = d2 at *
        clear S1 HP
        go_wp2_with fail
        refine HC.out.mono ?_
        rintro e w2 ⟨rfl, S2⟩
        have S2 : Aside _ := S2
        clear HC
        go_wp2_with fail
        go_roundw
        case rel => exact ⟨x, y - x, d2, rfl, by congr 1; omega, hx0, by omega, hax, by omega, hz2, HE, S2⟩
        case measure => simp [RowKit.intOf]; omega


theorem ltOf_tO {cf : Opr → Opr → Int} {x y : Opr} (h : cf x y < 0) : ltOf cf x y = true := decide_eq_true h
theorem ltOf_fO {cf : Opr → Opr → Int} {x y : Opr} (h : ¬ cf x y < 0) : ltOf cf x y = false := decide_eq_false h
theorem rot_upO {d dz : Array Opr} {a z : Nat} (h : a ≤ z) (hz : z + 1 < dz.size) (hd : ∀ p, dz[p]! = rotF a (a + 1) (z + 1) d p) : ∀ p, (swp dz z (z + 1))[p]! = rotF a (a + 1) (z + 1 + 1) d p := by
  intro p
  rw [swp_get _ (by omega) hz, hd, hd, hd]
  unfold rotF
  by_cases c1 : p = z + 1
  · rw [if_pos c1, if_neg (by omega), if_pos (by omega), if_neg (by omega), if_pos (by omega)]
    congr 1
    omega
  rw [if_neg c1]
  by_cases c2 : p = z
  · rw [if_pos c2, if_neg (by omega), if_neg (by omega), if_pos (by omega)]
    congr 1
    omega
  rw [if_neg c2]
  by_cases c3 : a ≤ p ∧ p < z
  · rw [if_pos (by omega), if_pos (by omega)]
  · rw [if_neg (by omega), if_neg (by omega), if_neg (by omega), if_neg (by omega)]
theorem rot_downO {d dz : Array Opr} {m z : Nat} (h : z + 1 ≤ m) (hz : m < dz.size) (hd : ∀ p, dz[p]! = rotF (z + 1) m (m + 1) d p) : ∀ p, (swp dz (z + 1) z)[p]! = rotF z m (m + 1) d p := by
  intro p
  rw [swp_get _ (by omega) (by omega), hd, hd, hd]
  unfold rotF
  by_cases c1 : p = z
  · rw [if_pos c1, if_pos (by omega), if_pos (by omega)]
    congr 1
    omega
  rw [if_neg c1]
  by_cases c2 : p = z + 1
  · rw [if_pos c2, if_neg (by omega), if_neg (by omega), if_neg (by omega), if_pos (by omega)]
    congr 1
    omega
  rw [if_neg c2]
  by_cases c3 : z + 1 + 1 ≤ p ∧ p < m + 1
  · rw [if_neg (by omega), if_pos (by omega), if_neg (by omega), if_pos (by omega)]
  · rw [if_neg (by omega), if_neg (by omega), if_neg (by omega), if_neg (by omega)]
theorem one_doneO {lt : Opr → Opr → Bool} (hS : SWO lt) {d d' : Array Opr} {a x b : Nat} (h1 : a + 1 ≤ x) (h2 : x ≤ b) (hs : SortedIn lt (a + 1) b d) (hr : Rot a (a + 1) x d d') (below : ∀ c, a + 1 ≤ c → c < x → lt d[c]! d[a]! = true) (above : ∀ c, x ≤ c → c < b → lt d[c]! d[a]! = false) : SortedIn lt a b d' := by
  obtain ⟨_, p2, p3, p4, p5⟩ := rot_parts hS (a := a) (b := b) (sorted_none (Nat.le_refl _)) hs (Nat.le_refl a) (Nat.le_succ a) h1 h2 hr (fun p q hp hp2 => by omega) (fun p q hp hp2 hq hq2 => by
    obtain rfl : p = a := by omega
    exact hS.asymmA (below q hq hq2))
  refine sorted_join p2 (sorted_join p3 p4 fun i j hi hi2 hj hj2 => ?_) p5
  obtain rfl : i = x - 1 := by omega
  rw [hr.at_, hr.at_]
  unfold rotF
  rw [if_neg (by omega), if_neg (by omega), if_neg (by omega), if_pos (by omega), show x - 1 - (x - (a + 1)) = a by omega]
  exact above j hj hj2
theorem last_doneO {lt : Opr → Opr → Bool} (hS : SWO lt) {d d' : Array Opr} {a x m : Nat} (h1 : a ≤ x) (h2 : x ≤ m) (hs : SortedIn lt a m d) (hr : Rot x m (m + 1) d d') (below : ∀ c, a ≤ c → c < x → lt d[m]! d[c]! = false) (above : ∀ c, x ≤ c → c < m → lt d[m]! d[c]! = true) : SortedIn lt a (m + 1) d' := by
  obtain ⟨p1, p2, p3, _, p5⟩ := rot_parts hS (a := a) (b := m + 1) hs (sorted_none (Nat.le_refl _)) h1 h2 (Nat.le_succ m) (Nat.le_refl _) hr (fun p q hp hp2 hq hq2 => by omega) (fun p q hp hp2 hq hq2 => by
    obtain rfl : q = m := by omega
    exact hS.asymmA (above p hp hp2))
  refine sorted_join (sorted_join p1 p2 fun i j hi hi2 hj hj2 => ?_) p3 p5
  obtain rfl : j = x := by omega
  rw [hr.at_, hr.at_]
  unfold rotF
  rw [if_pos (by omega), if_neg (by omega), if_neg (by omega), show j + (m - j) = m by omega]
  exact below i hi hi2
set_option maxRecDepth 1000000 in
set_option maxHeartbeats 4000000 in
theorem sym_oneO (k6 : Nat) (h6 : k6 = 11) (cf : Opr → Opr → Int) (hO : SWO (ltOf cf)) (blk off cap a b : Nat) (d0 d : Array Opr) (w0 w : World) (hcmp : CmpLays Tryz.prog 22 #[] Opr.cells k6 cf blk off d0.size w0) (R : RowK Opr.cells k6 w0 blk off d0) (hs : d0.size = d.size) (S : SWK Opr.cells k6 w0 blk off d w) (hab : a + 1 < b) (hb : b ≤ d.size) (hsz : d.size < 4611686018427387904) (h2 : SortedIn (ltOf cf) (a + 1) b d) :
    Calls Tryz.prog 73 #[.slice (some ⟨blk, off, none⟩) d.size cap, .int .i64 a, .int .i64 ((a : Int) + 1), .int .i64 b, .func (.func 22) #[] #[]] w fun e w' => e = .returned (.tuple #[]) ∧ ∃ d', PermIn a b d d' ∧ SortedIn (ltOf cf) a b d' ∧ SWK Opr.cells k6 w0 blk off d' w' := by
  have aE := aggIO
  have zE := sizeIO h6
  have mixed : Tryz.prog.follows .mixedOrders = true := by kernel_rfl
  have S0 : Aside (SWK Opr.cells k6 w0 blk off d w) := S
  have HC := Lib.hid hcmp
  have H2 := Lib.hid h2
  have hq1 : (((a : Int) + 1 - (a : Int)) == 1) = true := by rw [beq_iff_eq]; omega
  clear h6 S hcmp h2
  go_enter Tryz.func73, Tryz.ntmps73
  go_wp2_with fail
  go_loopw [10, 11] (fun i j wr => ∃ (x y : Nat), i = .int .i64 x ∧ j = .int .i64 y ∧ a + 1 ≤ x ∧ x ≤ y ∧ y ≤ b ∧ Hid ((∀ c, a + 1 ≤ c → c < x → ltOf cf d[c]! d[a]! = true) ∧ ∀ c, y ≤ c → c < b → ltOf cf d[c]! d[a]! = false) ∧ Aside (SWK Opr.cells k6 w0 blk off d wr)) (fun i j _ => (RowKit.intOf j).toNat - (RowKit.intOf i).toNat)
  case atStart => exact ⟨a + 1, b, rfl, rfl, by omega, by omega, by omega, Lib.hid ⟨fun c h1 h2 => by omega, fun c h1 h2 => by omega⟩, S0⟩
  case round =>
    clear S0
    obtain ⟨x, y, rfl, rfl, hax, hxy, hyb, HP, S1⟩ := hrel
    by_cases hlt : x < y
    · have hlti : (x : Int) < (y : Int) := by omega
      go_upto_region 5 with fail
      obtain ⟨h, hh⟩ : ∃ h : Nat, h = (x + y) / 2 := ⟨_, rfl⟩
      rw [show ((x : Int) + (y : Int)) / 2 = (h : Int) by omega]
      have hh1 : x ≤ h := by omega
      have hh2 : h < y := by omega
      have hhi : (h : Int) < (d.size : Int) := by omega
      have hhi0 : (0 : Int) ≤ (h : Int) := by omega
      have hai : (a : Int) < (d.size : Int) := by omega
      have hai0 : (0 : Int) ≤ (a : Int) := by omega
      clear hh
      obtain ⟨xi, hxi⟩ : ∃ q, d[h]! = q := ⟨_, rfl⟩
      obtain ⟨xj, hxj⟩ : ∃ q, d[a]! = q := ⟨_, rfl⟩
      have li := fun n' os' => S1.out.ld R (by omega) Tryz.prog (h) (by omega) n' os'
      have lj := fun n' os' => S1.out.ld R (by omega) Tryz.prog (a) (by omega) n' os'
      have hcg : ∀ n' os', Calls Tryz.prog 22 #[.agg (Opr.cells xi).toArray, .agg (Opr.cells xj).toArray] (grow (wr.drewN n') os') fun e w' => e = .returned (.int .i64 (cf xi xj)) ∧ ∃ q os'', w' = grow ((grow (wr.drewN n') os').drewN q) os'' := fun n' os' => by
        have := S1.out.cmp HC.out (by omega) xi xj n' os'
        rwa [Array.append_empty] at this
      rw [hxi] at li
      rw [hxj] at lj
      have Hxi := Lib.hid hxi
      have Hxj := Lib.hid hxj
      clear hxi hxj
      by_cases hlv : cf xi xj < 0
      · have HP2 := Lib.hid (show (∀ c, a + 1 ≤ c → c < h + 1 → ltOf cf d[c]! d[a]! = true) ∧ ∀ c, y ≤ c → c < b → ltOf cf d[c]! d[a]! = false from ⟨fun c h1 h2 => by
          have e1 : ltOf cf d[h]! d[a]! = true := by rw [Hxi.out, Hxj.out]; exact ltOf_tO hlv
          exact SWO.lt_of_le_lt hO (sorted_at hO H2.out h1 (show c ≤ h by omega) (by omega)) e1, HP.out.2⟩)
        go_wp2_with fail
        go_quiet_grown (first | (go_at_call 22; refine Calls.grown_of (hcg _ _)))
        have S2 : Aside _ := S1.out.grown nq osq
        generalize grow (wr.drewN nq) osq = w2 at S2 ⊢
        clear hcg li lj S1 HP
        go_wp2_with fail
        go_roundw
        case rel => exact ⟨h + 1, y, by go_num, rfl, by omega, by omega, hyb, HP2, S2⟩
        case measure => simp [RowKit.intOf]; omega
      · have HP2 := Lib.hid (show (∀ c, a + 1 ≤ c → c < x → ltOf cf d[c]! d[a]! = true) ∧ ∀ c, h ≤ c → c < b → ltOf cf d[c]! d[a]! = false from ⟨HP.out.1, fun c h1 h2 => by
          have e1 : ltOf cf d[h]! d[a]! = false := by rw [Hxi.out, Hxj.out]; exact ltOf_fO hlv
          exact SWO.le_trans hO e1 (sorted_at hO H2.out (by omega) h1 h2)⟩)
        go_wp2_with fail
        go_quiet_grown (first | (go_at_call 22; refine Calls.grown_of (hcg _ _)))
        have S2 : Aside _ := S1.out.grown nq osq
        generalize grow (wr.drewN nq) osq = w2 at S2 ⊢
        clear hcg li lj S1 HP
        go_wp2_with fail
        go_roundw
        case rel => exact ⟨x, h, rfl, rfl, by omega, by omega, by omega, HP2, S2⟩
        case measure => simp [RowKit.intOf]; omega
    · obtain rfl : x = y := by omega
      obtain ⟨W1, rfl⟩ : ∃ W : World, W = wr := ⟨_, rfl⟩
      go_wp2_with fail
      go_loopw [13] (fun i wr => ∃ (z : Nat) (dz : Array Opr), i = .int .i64 z ∧ a ≤ z ∧ z + 1 ≤ x ∧ dz.size = d.size ∧ Hid (PermIn a x d dz ∧ ∀ p, dz[p]! = rotF a (a + 1) (z + 1) d p) ∧ Aside (SWK Opr.cells k6 w0 blk off dz wr)) (fun i _ => x - (RowKit.intOf i).toNat)
      case atStart => exact ⟨a, d, rfl, Nat.le_refl _, hax, rfl, Lib.hid ⟨permIn_refl _ _ _, fun p => by
        unfold rotF
        by_cases c1 : p = a
        · rw [if_neg (by omega), if_pos (by omega)]
          congr 1
          omega
        · rw [if_neg (by omega), if_neg (by omega)]⟩, S1⟩
      case round =>
        clear S1
        obtain ⟨z, dz, rfl, haz, hzx, hds, HR, S1⟩ := hrel
        by_cases hlt2 : z + 1 < x
        · have hlti : (z : Int) < (x : Int) - 1 := by omega
          have HR2 := Lib.hid (show PermIn a x d (swp dz z (z + 1)) ∧ ∀ p, (swp dz z (z + 1))[p]! = rotF a (a + 1) (z + 1 + 1) d p from ⟨permIn_trans _ _ _ _ _ HR.out.1 (swp_permIn _ _ _ _ _ haz (by omega) (by omega) (by omega) (by omega)), rot_upO haz (by omega) HR.out.2⟩)
          have ra : IntKind.i64.wrap ((z : Int) + 1) = (z : Int) + 1 := by rw [IntKind.wrap_i64]; omega
          have ta : ((z : Int) + 1).toNat = z + 1 := by omega
          have pa : (0 : Int) ≤ (z : Int) + 1 := by omega
          have la : (z : Int) + 1 < (d.size : Int) := by omega
          have pb : (0 : Int) ≤ (z : Int) := by omega
          have lb : (z : Int) < (d.size : Int) := by omega
          have hz2 : (swp dz z (z + 1)).size = d.size := by rw [size_swp]; exact hds
          have S2 : Aside (SWK Opr.cells k6 w0 blk off (swp dz (z) (z + 1)) ((wr.drew.setCells blk (off + (z) * k6) (Opr.cells dz[z + 1]!)).setCells blk (off + (z + 1) * k6) (Opr.cells dz[z]!))) := S1.out.swapped R (z) (z + 1) (by omega) (by omega)
          have l1 := S1.out.ld1 R (by omega) Tryz.prog (z) (by omega)
          have l2 := S1.out.ld1 R (by omega) Tryz.prog (z + 1) (by omega)
          have s1 := S1.out.st1 R (by omega) Tryz.prog (z) (by omega) dz[z + 1]!
          have s2 := S1.out.st2 R (by omega) Tryz.prog (z) (z + 1) (by omega) (by omega) dz[z + 1]! dz[z]!
          have n1 : (Opr.cells dz[z]!).length = k6 := R.hk _
          have n2 : (Opr.cells dz[z + 1]!).length = k6 := R.hk _
          generalize Opr.cells dz[z]! = cI at S2 l1 s2 n1
          generalize Opr.cells dz[z + 1]! = cJ at S2 l2 s1 s2 n2
          clear S1
          go_wp2_with fail
          go_big_region_o
          clear l1 l2 s1 s2
          generalize (wr.drew.setCells blk (off + (z) * k6) cJ).setCells blk (off + (z + 1) * k6) cI = w2 at S2 ⊢
          go_wp2_with fail
          go_roundw
          case rel => exact ⟨z + 1, _, by go_num, by omega, by omega, hz2, HR2, S2⟩
          case measure => simp [RowKit.intOf]; omega
        · obtain rfl : x = z + 1 := by omega
          have hnl : ¬ (z : Int) < ((z + 1 : Nat) : Int) - 1 := by omega
          go_wp2_with fail
          refine bodyPost_ret (v := .tuple #[]) (results_none rfl _ _ _) rfl ?_
          exact ⟨rfl, dz, permIn_mono _ _ _ _ _ _ (Nat.le_refl a) hyb (by omega) HR.out.1, one_doneO hO hax hyb H2.out ⟨HR.out.1, HR.out.2⟩ HP.out.1 HP.out.2, S1.out⟩
set_option maxRecDepth 1000000 in
set_option maxHeartbeats 4000000 in
theorem sym_lastO (k6 : Nat) (h6 : k6 = 11) (cf : Opr → Opr → Int) (hO : SWO (ltOf cf)) (blk off cap a m : Nat) (d0 d : Array Opr) (w0 w : World) (hcmp : CmpLays Tryz.prog 22 #[] Opr.cells k6 cf blk off d0.size w0) (R : RowK Opr.cells k6 w0 blk off d0) (hs : d0.size = d.size) (S : SWK Opr.cells k6 w0 blk off d w) (ham : a + 1 < m) (hb : m + 1 ≤ d.size) (hsz : d.size < 4611686018427387904) (h2 : SortedIn (ltOf cf) a m d) :
    Calls Tryz.prog 73 #[.slice (some ⟨blk, off, none⟩) d.size cap, .int .i64 a, .int .i64 m, .int .i64 ((m : Int) + 1), .func (.func 22) #[] #[]] w fun e w' => e = .returned (.tuple #[]) ∧ ∃ d', PermIn a (m + 1) d d' ∧ SortedIn (ltOf cf) a (m + 1) d' ∧ SWK Opr.cells k6 w0 blk off d' w' := by
  have aE := aggIO
  have zE := sizeIO h6
  have mixed : Tryz.prog.follows .mixedOrders = true := by kernel_rfl
  have S0 : Aside (SWK Opr.cells k6 w0 blk off d w) := S
  have HC := Lib.hid hcmp
  have H2 := Lib.hid h2
  have hq1 : (((m : Int) - (a : Int)) == 1) = false := by rw [beq_eq_false_iff_ne]; omega
  have hq2 : (((m : Int) + 1 - (m : Int)) == 1) = true := by rw [beq_iff_eq]; omega
  clear h6 S hcmp h2
  go_enter Tryz.func73, Tryz.ntmps73
  go_wp2_with fail
  go_loopw [14, 15] (fun i j wr => ∃ (x y : Nat), i = .int .i64 x ∧ j = .int .i64 y ∧ a ≤ x ∧ x ≤ y ∧ y ≤ m ∧ Hid ((∀ c, a ≤ c → c < x → ltOf cf d[m]! d[c]! = false) ∧ ∀ c, y ≤ c → c < m → ltOf cf d[m]! d[c]! = true) ∧ Aside (SWK Opr.cells k6 w0 blk off d wr)) (fun i j _ => (RowKit.intOf j).toNat - (RowKit.intOf i).toNat)
  case atStart => exact ⟨a, m, rfl, rfl, by omega, by omega, by omega, Lib.hid ⟨fun c h1 h2 => by omega, fun c h1 h2 => by omega⟩, S0⟩
  case round =>
    clear S0
    obtain ⟨x, y, rfl, rfl, hax, hxy, hyb, HP, S1⟩ := hrel
    by_cases hlt : x < y
    · have hlti : (x : Int) < (y : Int) := by omega
      go_upto_region 17 with fail
      obtain ⟨h, hh⟩ : ∃ h : Nat, h = (x + y) / 2 := ⟨_, rfl⟩
      rw [show ((x : Int) + (y : Int)) / 2 = (h : Int) by omega]
      have hh1 : x ≤ h := by omega
      have hh2 : h < y := by omega
      have hhi : (h : Int) < (d.size : Int) := by omega
      have hhi0 : (0 : Int) ≤ (h : Int) := by omega
      have hai : (m : Int) < (d.size : Int) := by omega
      have hai0 : (0 : Int) ≤ (m : Int) := by omega
      clear hh
      obtain ⟨xi, hxi⟩ : ∃ q, d[m]! = q := ⟨_, rfl⟩
      obtain ⟨xj, hxj⟩ : ∃ q, d[h]! = q := ⟨_, rfl⟩
      have li := fun n' os' => S1.out.ld R (by omega) Tryz.prog (m) (by omega) n' os'
      have lj := fun n' os' => S1.out.ld R (by omega) Tryz.prog (h) (by omega) n' os'
      have hcg : ∀ n' os', Calls Tryz.prog 22 #[.agg (Opr.cells xi).toArray, .agg (Opr.cells xj).toArray] (grow (wr.drewN n') os') fun e w' => e = .returned (.int .i64 (cf xi xj)) ∧ ∃ q os'', w' = grow ((grow (wr.drewN n') os').drewN q) os'' := fun n' os' => by
        have := S1.out.cmp HC.out (by omega) xi xj n' os'
        rwa [Array.append_empty] at this
      rw [hxi] at li
      rw [hxj] at lj
      have Hxi := Lib.hid hxi
      have Hxj := Lib.hid hxj
      clear hxi hxj
      by_cases hlv : cf xi xj < 0
      · have HP2 := Lib.hid (show (∀ c, a ≤ c → c < x → ltOf cf d[m]! d[c]! = false) ∧ ∀ c, h ≤ c → c < m → ltOf cf d[m]! d[c]! = true from ⟨HP.out.1, fun c h1 h2 => by
          have e1 : ltOf cf d[m]! d[h]! = true := by rw [Hxi.out, Hxj.out]; exact ltOf_tO hlv
          exact SWO.lt_of_lt_le hO e1 (sorted_at hO H2.out (by omega) h1 h2)⟩)
        have hlb : decide (cf xi xj < 0) = true := decide_eq_true hlv
        go_wp2_with fail
        go_quiet_grown (first | (go_at_call 22; refine Calls.grown_of (hcg _ _)))
        have S2 : Aside _ := S1.out.grown nq osq
        generalize grow (wr.drewN nq) osq = w2 at S2 ⊢
        clear hcg li lj S1 HP
        go_wp2_with fail
        go_roundw
        case rel => exact ⟨x, h, rfl, rfl, by omega, by omega, by omega, HP2, S2⟩
        case measure => simp [RowKit.intOf]; omega
      · have HP2 := Lib.hid (show (∀ c, a ≤ c → c < h + 1 → ltOf cf d[m]! d[c]! = false) ∧ ∀ c, y ≤ c → c < m → ltOf cf d[m]! d[c]! = true from ⟨fun c h1 h2 => by
          have e1 : ltOf cf d[m]! d[h]! = false := by rw [Hxi.out, Hxj.out]; exact ltOf_fO hlv
          exact SWO.le_trans hO (sorted_at hO H2.out h1 (show c ≤ h by omega) (by omega)) e1, HP.out.2⟩)
        have hlb : decide (cf xi xj < 0) = false := decide_eq_false hlv
        have hlc : (0 : Int) ≤ cf xi xj := by omega
        have hld : decide ((0 : Int) ≤ cf xi xj) = true := decide_eq_true hlc
        have hle : (!decide (cf xi xj < 0)) = true := by rw [hlb]; rfl
        go_wp2_with fail
        go_quiet_grown (first | (go_at_call 22; refine Calls.grown_of (hcg _ _)))
        have S2 : Aside _ := S1.out.grown nq osq
        generalize grow (wr.drewN nq) osq = w2 at S2 ⊢
        clear hcg li lj S1 HP
        go_wp2_with fail
        go_roundw
        case rel => exact ⟨h + 1, y, by go_num, rfl, by omega, by omega, hyb, HP2, S2⟩
        case measure => simp [RowKit.intOf]; omega
    · obtain rfl : x = y := by omega
      obtain ⟨W1, rfl⟩ : ∃ W : World, W = wr := ⟨_, rfl⟩
      go_wp2_with fail
      go_loopw [17] (fun i wr => ∃ (z : Nat) (dz : Array Opr), i = .int .i64 z ∧ x ≤ z ∧ z ≤ m ∧ dz.size = d.size ∧ Hid (PermIn x (m + 1) d dz ∧ ∀ p, dz[p]! = rotF z m (m + 1) d p) ∧ Aside (SWK Opr.cells k6 w0 blk off dz wr)) (fun i _ => (RowKit.intOf i).toNat)
      case atStart => exact ⟨m, d, rfl, hyb, Nat.le_refl _, rfl, Lib.hid ⟨permIn_refl _ _ _, fun p => by
        unfold rotF
        by_cases c1 : p = m
        · rw [if_pos (by omega)]
          congr 1
          omega
        · rw [if_neg (by omega), if_neg (by omega)]⟩, S1⟩
      case round =>
        clear S1
        obtain ⟨z, dz, rfl, haz, hzx, hds, HR, S1⟩ := hrel
        by_cases hlt2 : x < z
        · obtain ⟨zp, rfl⟩ : ∃ zp, z = zp + 1 := ⟨z - 1, by omega⟩
          have hlti : ((zp + 1 : Nat) : Int) > (x : Int) := by omega
          have hlti2 : (x : Int) < (zp : Int) + 1 := by omega
          have HR2 := Lib.hid (show PermIn x (m + 1) d (swp dz (zp + 1) zp) ∧ ∀ p, (swp dz (zp + 1) zp)[p]! = rotF zp m (m + 1) d p from ⟨permIn_trans _ _ _ _ _ HR.out.1 (swp_permIn _ _ _ _ _ (by omega) (by omega) (by omega) (by omega) (by omega)), rot_downO (by omega) (by omega) HR.out.2⟩)
          have ra : IntKind.i64.wrap ((zp : Int) + 1 - 1) = (zp : Int) := by rw [IntKind.wrap_i64]; omega
          have ra2 : IntKind.i64.wrap ((zp : Int)) = (zp : Int) := by rw [IntKind.wrap_i64]; omega
          have ta : ((zp : Int) + 1).toNat = zp + 1 := by omega
          have ta2 : ((zp : Int)).toNat = zp := by omega
          have pa : (0 : Int) ≤ (zp : Int) + 1 := by omega
          have la : (zp : Int) + 1 < (d.size : Int) := by omega
          have pb : (0 : Int) ≤ (zp : Int) := by omega
          have lb : (zp : Int) < (d.size : Int) := by omega
          have hz2 : (swp dz (zp + 1) zp).size = d.size := by rw [size_swp]; exact hds
          have S2 : Aside (SWK Opr.cells k6 w0 blk off (swp dz (zp + 1) (zp)) ((wr.drew.setCells blk (off + (zp + 1) * k6) (Opr.cells dz[zp]!)).setCells blk (off + (zp) * k6) (Opr.cells dz[zp + 1]!))) := S1.out.swapped R (zp + 1) (zp) (by omega) (by omega)
          have l1 := S1.out.ld1 R (by omega) Tryz.prog (zp + 1) (by omega)
          have l2 := S1.out.ld1 R (by omega) Tryz.prog (zp) (by omega)
          have s1 := S1.out.st1 R (by omega) Tryz.prog (zp + 1) (by omega) dz[zp]!
          have s2 := S1.out.st2 R (by omega) Tryz.prog (zp + 1) (zp) (by omega) (by omega) dz[zp]! dz[zp + 1]!
          have n1 : (Opr.cells dz[zp + 1]!).length = k6 := R.hk _
          have n2 : (Opr.cells dz[zp]!).length = k6 := R.hk _
          generalize Opr.cells dz[zp + 1]! = cI at S2 l1 s2 n1
          generalize Opr.cells dz[zp]! = cJ at S2 l2 s1 s2 n2
          clear S1
          go_wp2_with fail
          go_big_region_o
          clear l1 l2 s1 s2
          generalize (wr.drew.setCells blk (off + (zp + 1) * k6) cJ).setCells blk (off + (zp) * k6) cI = w2 at S2 ⊢
          go_wp2_with fail
          go_roundw
          case rel => exact ⟨zp, _, by first | rfl | go_num | (congr 1; omega), by omega, by omega, hz2, HR2, S2⟩
          case measure => simp [RowKit.intOf]
        · obtain rfl : x = z := by omega
          have hnl : ¬ (x : Int) > (x : Int) := by omega
          go_wp2_with fail
          refine bodyPost_ret (v := .tuple #[]) (results_none rfl _ _ _) rfl ?_
          exact ⟨rfl, dz, permIn_mono _ _ _ _ _ _ hax (Nat.le_refl _) (by omega) HR.out.1, last_doneO hO hax hyb H2.out ⟨HR.out.1, HR.out.2⟩ HP.out.1 HP.out.2, S1.out⟩

theorem rot_idO {d : Array Opr} {s m t : Nat} (h : s = m ∨ t = m) : Rot s m t d d := ⟨permIn_refl _ _ _, fun x => by
  unfold rotF
  rcases h with rfl | rfl
  · by_cases c : s ≤ x ∧ x < s + (t - s)
    · rw [if_pos c]
      congr 1
      omega
    · rw [if_neg c, if_neg (by omega)]
  · by_cases c : s + (t - t) ≤ x ∧ x < t
    · rw [if_neg (by omega), if_pos c]
      congr 1
      omega
    · rw [if_neg (by omega), if_neg c]⟩
set_option maxRecDepth 1000000 in
set_option maxHeartbeats 16000000 in
theorem sym_stepO (k6 : Nat) (h6 : k6 = 11) (cf : Opr → Opr → Int) (hO : SWO (ltOf cf)) (blk off cap a m b : Nat) (d0 d : Array Opr) (w0 w : World) (hcmp : CmpLays Tryz.prog 22 #[] Opr.cells k6 cf blk off d0.size w0) (R : RowK Opr.cells k6 w0 blk off d0) (hs : d0.size = d.size) (S : SWK Opr.cells k6 w0 blk off d w) (ham : a + 1 < m) (hmb : m + 1 < b) (hb : b ≤ d.size) (hsz : d.size < 4611686018427387904) (h1 : SortedIn (ltOf cf) a m d) (h2 : SortedIn (ltOf cf) m b d)
    (ih : ∀ (a' m' b' : Nat) (d' : Array Opr) (W : World), b' - a' < b - a → a' < m' → m' < b' → b' ≤ d'.size → d0.size = d'.size → SWK Opr.cells k6 w0 blk off d' W → SortedIn (ltOf cf) a' m' d' → SortedIn (ltOf cf) m' b' d' →
      Calls Tryz.prog 73 #[.slice (some ⟨blk, off, none⟩) d'.size cap, .int .i64 a', .int .i64 m', .int .i64 b', .func (.func 22) #[] #[]] W fun e w' => e = .returned (.tuple #[]) ∧ ∃ d2, PermIn a' b' d' d2 ∧ SortedIn (ltOf cf) a' b' d2 ∧ SWK Opr.cells k6 w0 blk off d2 w') :
    Calls Tryz.prog 73 #[.slice (some ⟨blk, off, none⟩) d.size cap, .int .i64 a, .int .i64 m, .int .i64 b, .func (.func 22) #[] #[]] w fun e w' => e = .returned (.tuple #[]) ∧ ∃ d', PermIn a b d d' ∧ SortedIn (ltOf cf) a b d' ∧ SWK Opr.cells k6 w0 blk off d' w' := by
  have aE := aggIO
  have zE := sizeIO h6
  have mixed : Tryz.prog.follows .mixedOrders = true := by kernel_rfl
  have S0 : Aside (SWK Opr.cells k6 w0 blk off d w) := S
  have HC := Lib.hid hcmp
  have H1 := Lib.hid h1
  have H2 := Lib.hid h2
  have H6 := Lib.hid h6
  have IH := Lib.hid ih
  have hq1 : (((m : Int) - (a : Int)) == 1) = false := by rw [beq_eq_false_iff_ne]; omega
  have hq2 : (((b : Int) - (m : Int)) == 1) = false := by rw [beq_eq_false_iff_ne]; omega
  clear h6 S hcmp h1 h2 ih
  have ih := IH.out
  replace ih : Aside _ := ih
  clear IH
  go_enter Tryz.func73, Tryz.ntmps73
  go_upto_region 25 with fail
  obtain ⟨mid, hmid⟩ : ∃ mid : Nat, mid = (a + b) / 2 := ⟨_, rfl⟩
  rw [show ((a : Int) + (b : Int)) / 2 = (mid : Int) by omega]
  have hmid1 : a < mid := by omega
  have hmid2 : mid < b := by omega
  have hmid3 : 2 * mid ≤ a + b := by omega
  have hmid4 : a + b ≤ 2 * mid + 1 := by omega
  clear hmid
  by_cases hmm : mid < m
  · have hg : (m : Int) > (mid : Int) := by omega
    go_wp2_with fail
    go_loopw [20, 21] (fun i j wr => ∃ (s r : Nat), i = .int .i64 s ∧ j = .int .i64 r ∧ Hid (Sought (ltOf cf) d (mid + m - 1) (mid + m - b) (mid) s r) ∧ mid + m - b ≤ s ∧ s ≤ r ∧ r ≤ mid ∧ Aside (SWK Opr.cells k6 w0 blk off d wr)) (fun i j _ => (RowKit.intOf j).toNat - (RowKit.intOf i).toNat)
    case atStart => exact ⟨mid + m - b, mid, by congr 1; omega, rfl, Lib.hid (Sought.start _ _ _ _ (by omega)), Nat.le_refl _, by omega, Nat.le_refl _, S0⟩
    case round =>
      clear S0
      obtain ⟨s, r, rfl, rfl, HS, hls, hsr, hrh, S1⟩ := hrel
      by_cases hlt : s < r
      · have hlti : (s : Int) < (r : Int) := by omega
        go_upto_region 35 with fail
        obtain ⟨c, hc⟩ : ∃ c : Nat, c = (s + r) / 2 := ⟨_, rfl⟩
        rw [show ((s : Int) + (r : Int)) / 2 = (c : Int) by omega]
        have hc1 : s ≤ c := by omega
        have hc2 : c < r := by omega
        clear hc
        have rp : IntKind.i64.wrap ((mid : Int) + (m : Int) - 1 - (c : Int)) = (mid : Int) + (m : Int) - 1 - (c : Int) := by rw [IntKind.wrap_i64]; omega
        have tp : ((mid : Int) + (m : Int) - 1 - (c : Int)).toNat = mid + m - 1 - c := by omega
        have pp : (0 : Int) ≤ (mid : Int) + (m : Int) - 1 - (c : Int) := by omega
        have lp : (mid : Int) + (m : Int) - 1 - (c : Int) < (d.size : Int) := by omega
        have pp2 : (c : Int) ≤ (mid : Int) + (m : Int) - 1 := by omega
        have pp3 : (c : Int) + 1 ≤ (mid : Int) + (m : Int) := by omega
        have pp4 : (c : Int) < (mid : Int) + (m : Int) := by omega
        have pp5 : mid + m - 1 - c < d.size := by omega
        have hci : (c : Int) < (d.size : Int) := by omega
        have hci0 : (0 : Int) ≤ (c : Int) := by omega
        obtain ⟨xi, hxi⟩ : ∃ q, d[mid + m - 1 - c]! = q := ⟨_, rfl⟩
        obtain ⟨xj, hxj⟩ : ∃ q, d[c]! = q := ⟨_, rfl⟩
        have li := fun n' os' => S1.out.ld R (by omega) Tryz.prog (mid + m - 1 - c) (by omega) n' os'
        have lj := fun n' os' => S1.out.ld R (by omega) Tryz.prog (c) (by omega) n' os'
        have hcg : ∀ n' os', Calls Tryz.prog 22 #[.agg (Opr.cells xi).toArray, .agg (Opr.cells xj).toArray] (grow (wr.drewN n') os') fun e w' => e = .returned (.int .i64 (cf xi xj)) ∧ ∃ q os'', w' = grow ((grow (wr.drewN n') os').drewN q) os'' := fun n' os' => by
          have := S1.out.cmp HC.out (by omega) xi xj n' os'
          rwa [Array.append_empty] at this
        rw [hxi] at li
        rw [hxj] at lj
        have Hxi := Lib.hid hxi
        have Hxj := Lib.hid hxj
        clear hxi hxj
        by_cases hlv : cf xi xj < 0
        · have e1 : ltOf cf d[mid + m - 1 - c]! d[c]! = true := by rw [Hxi.out, Hxj.out]; exact ltOf_tO hlv
          have HS2 := Lib.hid (HS.out.down hO H1.out H2.out (show a ≤ mid + m - b by omega) (by omega) (by omega) (by omega) hc1 hc2 e1)
          have hlb : decide (cf xi xj < 0) = true := decide_eq_true hlv
          clear e1
          go_wp2_with fail
          go_quiet_grown (first | (go_at_call 22; refine Calls.grown_of (hcg _ _)))
          have S2 : Aside _ := S1.out.grown nq osq
          generalize grow (wr.drewN nq) osq = w2 at S2 ⊢
          clear hcg li lj S1 HS rp tp pp lp
          go_wp2_with fail
          go_roundw
          case rel => exact ⟨s, c, rfl, rfl, HS2, hls, hc1, by omega, S2⟩
          case measure => simp [RowKit.intOf]; omega
        · have e1 : ltOf cf d[mid + m - 1 - c]! d[c]! = false := by rw [Hxi.out, Hxj.out]; exact ltOf_fO hlv
          have HS2 := Lib.hid (HS.out.up hO H1.out H2.out (show a ≤ mid + m - b by omega) (by omega) (by omega) (by omega) hc1 hc2 e1)
          have hlb : decide (cf xi xj < 0) = false := decide_eq_false hlv
          have hlc : (0 : Int) ≤ cf xi xj := by omega
          have hld : decide ((0 : Int) ≤ cf xi xj) = true := decide_eq_true hlc
          have hle : (!decide (cf xi xj < 0)) = true := by rw [hlb]; rfl
          clear e1
          go_wp2_with fail
          go_quiet_grown (first | (go_at_call 22; refine Calls.grown_of (hcg _ _)))
          have S2 : Aside _ := S1.out.grown nq osq
          generalize grow (wr.drewN nq) osq = w2 at S2 ⊢
          clear hcg li lj S1 HS rp tp pp lp
          go_wp2_with fail
          go_roundw
          case rel => exact ⟨c + 1, r, by go_num, rfl, HS2, by omega, by omega, hrh, S2⟩
          case measure => simp [RowKit.intOf]; omega
      · obtain rfl : s = r := by omega
        obtain ⟨t, ht⟩ : ∃ t : Nat, t = mid + m - s := ⟨_, rfl⟩
        have Hts := Lib.hid (show (t : Int) = (mid : Int) + (m : Int) - (s : Int) by omega)
        have hd0 := HS.out.done hO H1.out H2.out (show a ≤ mid + m - b by omega) (by omega) (by omega) (by omega) (by omega) (by omega) (by omega)
        rw [← ht] at hd0
        have HLH := Lib.hid hd0
        have has : a ≤ s := by omega
        clear hd0 HS
        by_cases hmt : s < m ∧ m < t
        · obtain ⟨hm1, hm2⟩ := hmt
          have b1 : (s : Int) < (m : Int) := by omega
          have b2 : (m : Int) < (mid : Int) + (m : Int) - (s : Int) := by omega
          have HRo := rotR_kO k6 H6.out (.func (.func 22) #[] #[]) blk off cap s m t d0 d w0 wr R hs S1.out hm1 hm2 (by omega) hsz
          rw [Hts.out] at HRo
          replace HRo := Lib.hid HRo
          go_wp2_with fail
          refine HRo.out.mono ?_
          rintro e W3 ⟨rfl, d1, hr', S1'⟩
          have Hr := Lib.hid hr'
          have hsm : s ≤ m := by omega
          have hmt2 : m ≤ t := by omega
          clear S1 HRo hr'
          have S1 : Aside _ := S1'
          clear S1'
          obtain ⟨hp1', hp2', hp3', hp4', hp5'⟩ := rot_parts hO H1.out H2.out has (by omega) (by omega) (by omega) Hr.out HLH.out.1 HLH.out.2
          have HP1 := Lib.hid (permIn_mono _ _ _ _ _ _ has (show t ≤ b by omega) (by omega) Hr.out.perm)
          rw [show s + (t - m) = mid by omega] at hp2' hp3' hp5'
          have HA := Lib.hid hp1'
          have HAm := Lib.hid hp2'
          have HM := Lib.hid hp3'
          have HB := Lib.hid hp4'
          have HX := Lib.hid hp5'
          have hz1 : d1.size = d.size := Hr.out.perm.1
          clear hp1' hp2' hp3' hp4' hp5'
          by_cases hl1 : a < s ∧ s < mid
          · obtain ⟨hl2, hl3⟩ := hl1
            have q1 : (a : Int) < (s : Int) := by omega
            have q2 : (s : Int) < (mid : Int) := by omega
            have HI1 := ih.out a s mid d1 W3 (by omega) hl2 hl3 (by omega) (by omega) S1.out HA.out HAm.out
            rw [hz1] at HI1
            replace HI1 := Lib.hid HI1
            go_wp2_with fail
            all_goals
              refine HI1.out.mono ?_
              rintro e W4 ⟨rfl, d2, hp2, hs2, S3'⟩
              have S3 : Aside _ := S3'
              have HPa := Lib.hid hp2
              have HSa := Lib.hid hs2
              have hz2 : d2.size = d.size := hp2.1.trans hz1
              clear hp2 hs2 S3' S1 HI1
              by_cases hr1 : mid < t ∧ t < b
              · obtain ⟨hr2, hr3⟩ := hr1
                have r1 : (mid : Int) < (mid : Int) + (m : Int) - (s : Int) := by omega
                have r2 : (mid : Int) + (m : Int) - (s : Int) < (b : Int) := by omega
                have HI2 := ih.out mid t b d2 W4 (by omega) hr2 hr3 (by omega) (by omega) S3.out (fun i j hi hij hj => by rw [HPa.out.2.1 i (.inr (by omega)), HPa.out.2.1 j (.inr (by omega))]; exact HM.out i j hi hij hj) (fun i j hi hij hj => by rw [HPa.out.2.1 i (.inr (by omega)), HPa.out.2.1 j (.inr (by omega))]; exact HB.out i j hi hij hj)
                rw [Hts.out, hz2] at HI2
                replace HI2 := Lib.hid HI2
                go_wp2_with fail
                all_goals
                  refine HI2.out.mono ?_
                  rintro e w5 ⟨rfl, d3, hp3, hs3, S3'⟩
                  have S3 : Aside _ := S3'
                  have Hp3 := Lib.hid hp3
                  have Hs3 := Lib.hid hs3
                  clear hp3 hs3 S3' HI2
                  go_wp2_with fail
                  all_goals
                    go_end0
                    exact ⟨rfl, _, permIn_trans _ _ _ _ _ HP1.out (halves (by omega) (by omega) (by omega) HX.out HPa.out HSa.out Hp3.out Hs3.out).1, (halves (by omega) (by omega) (by omega) HX.out HPa.out HSa.out Hp3.out Hs3.out).2, S3.out⟩
              · have HS3 := Lib.hid (show SortedIn (ltOf cf) mid b d2 from by
                  have h1 : SortedIn (ltOf cf) mid t d2 := fun i j hi hij hj => by rw [HPa.out.2.1 i (.inr (by omega)), HPa.out.2.1 j (.inr (by omega))]; exact HM.out i j hi hij hj
                  have h2 : SortedIn (ltOf cf) t b d2 := fun i j hi hij hj => by rw [HPa.out.2.1 i (.inr (by omega)), HPa.out.2.1 j (.inr (by omega))]; exact HB.out i j hi hij hj
                  by_cases e : t = mid
                  · rw [e] at h2
                    exact h2
                  · have e2 : t = b := by omega
                    rw [e2] at h1
                    exact h1)
                by_cases hr2 : mid < t
                · have r1 : (mid : Int) < (mid : Int) + (m : Int) - (s : Int) := by omega
                  have r2 : ¬ (mid : Int) + (m : Int) - (s : Int) < (b : Int) := by omega
                  go_wp2_with fail
                  all_goals
                    go_end0
                    exact ⟨rfl, _, permIn_trans _ _ _ _ _ HP1.out (halves (by omega) (by omega) (by omega) HX.out HPa.out HSa.out (permIn_refl _ _ _) HS3.out).1, (halves (by omega) (by omega) (by omega) HX.out HPa.out HSa.out (permIn_refl _ _ _) HS3.out).2, S3.out⟩
                · have r1 : ¬ (mid : Int) < (mid : Int) + (m : Int) - (s : Int) := by omega
                  go_wp2_with fail
                  all_goals
                    go_end0
                    exact ⟨rfl, _, permIn_trans _ _ _ _ _ HP1.out (halves (by omega) (by omega) (by omega) HX.out HPa.out HSa.out (permIn_refl _ _ _) HS3.out).1, (halves (by omega) (by omega) (by omega) HX.out HPa.out HSa.out (permIn_refl _ _ _) HS3.out).2, S3.out⟩
          · have HSa := Lib.hid (show SortedIn (ltOf cf) a mid d1 from by
              by_cases e : s = a
              · have h3 := HAm.out
                rw [e] at h3
                exact h3
              · have e2 : s = mid := by omega
                have h3 := HA.out
                rw [e2] at h3
                exact h3)
            have HPa := Lib.hid (permIn_refl d1 a mid)
            obtain ⟨d2, hd2⟩ : ∃ d2, d2 = d1 := ⟨_, rfl⟩
            obtain ⟨W4, hW4⟩ : ∃ W4, W4 = W3 := ⟨_, rfl⟩
            have S3 : Aside (SWK Opr.cells k6 w0 blk off d2 W4) := by rw [hd2, hW4]; exact S1
            have hz2 : d2.size = d.size := by rw [hd2]; exact hz1
            replace HSa : Hid (SortedIn (ltOf cf) a mid d2) := by rw [hd2]; exact HSa
            replace HPa : Hid (PermIn a mid d1 d2) := by rw [hd2]; exact HPa
            rw [← hW4]
            clear S1 hd2 hW4
            by_cases hl2 : a < s
            · have q1 : (a : Int) < (s : Int) := by omega
              have q2 : ¬ (s : Int) < (mid : Int) := by omega
              by_cases hr1 : mid < t ∧ t < b
              · obtain ⟨hr2, hr3⟩ := hr1
                have r1 : (mid : Int) < (mid : Int) + (m : Int) - (s : Int) := by omega
                have r2 : (mid : Int) + (m : Int) - (s : Int) < (b : Int) := by omega
                have HI2 := ih.out mid t b d2 W4 (by omega) hr2 hr3 (by omega) (by omega) S3.out (fun i j hi hij hj => by rw [HPa.out.2.1 i (.inr (by omega)), HPa.out.2.1 j (.inr (by omega))]; exact HM.out i j hi hij hj) (fun i j hi hij hj => by rw [HPa.out.2.1 i (.inr (by omega)), HPa.out.2.1 j (.inr (by omega))]; exact HB.out i j hi hij hj)
                rw [Hts.out, hz2] at HI2
                replace HI2 := Lib.hid HI2
                go_wp2_with fail
                all_goals
                  refine HI2.out.mono ?_
                  rintro e w5 ⟨rfl, d3, hp3, hs3, S3'⟩
                  have S3 : Aside _ := S3'
                  have Hp3 := Lib.hid hp3
                  have Hs3 := Lib.hid hs3
                  clear hp3 hs3 S3' HI2
                  go_wp2_with fail
                  all_goals
                    go_end0
                    exact ⟨rfl, _, permIn_trans _ _ _ _ _ HP1.out (halves (by omega) (by omega) (by omega) HX.out HPa.out HSa.out Hp3.out Hs3.out).1, (halves (by omega) (by omega) (by omega) HX.out HPa.out HSa.out Hp3.out Hs3.out).2, S3.out⟩
              · have HS3 := Lib.hid (show SortedIn (ltOf cf) mid b d2 from by
                  have h1 : SortedIn (ltOf cf) mid t d2 := fun i j hi hij hj => by rw [HPa.out.2.1 i (.inr (by omega)), HPa.out.2.1 j (.inr (by omega))]; exact HM.out i j hi hij hj
                  have h2 : SortedIn (ltOf cf) t b d2 := fun i j hi hij hj => by rw [HPa.out.2.1 i (.inr (by omega)), HPa.out.2.1 j (.inr (by omega))]; exact HB.out i j hi hij hj
                  by_cases e : t = mid
                  · rw [e] at h2
                    exact h2
                  · have e2 : t = b := by omega
                    rw [e2] at h1
                    exact h1)
                by_cases hr2 : mid < t
                · have r1 : (mid : Int) < (mid : Int) + (m : Int) - (s : Int) := by omega
                  have r2 : ¬ (mid : Int) + (m : Int) - (s : Int) < (b : Int) := by omega
                  go_wp2_with fail
                  all_goals
                    go_end0
                    exact ⟨rfl, _, permIn_trans _ _ _ _ _ HP1.out (halves (by omega) (by omega) (by omega) HX.out HPa.out HSa.out (permIn_refl _ _ _) HS3.out).1, (halves (by omega) (by omega) (by omega) HX.out HPa.out HSa.out (permIn_refl _ _ _) HS3.out).2, S3.out⟩
                · have r1 : ¬ (mid : Int) < (mid : Int) + (m : Int) - (s : Int) := by omega
                  go_wp2_with fail
                  all_goals
                    go_end0
                    exact ⟨rfl, _, permIn_trans _ _ _ _ _ HP1.out (halves (by omega) (by omega) (by omega) HX.out HPa.out HSa.out (permIn_refl _ _ _) HS3.out).1, (halves (by omega) (by omega) (by omega) HX.out HPa.out HSa.out (permIn_refl _ _ _) HS3.out).2, S3.out⟩
            · have q1 : ¬ (a : Int) < (s : Int) := by omega
              by_cases hr1 : mid < t ∧ t < b
              · obtain ⟨hr2, hr3⟩ := hr1
                have r1 : (mid : Int) < (mid : Int) + (m : Int) - (s : Int) := by omega
                have r2 : (mid : Int) + (m : Int) - (s : Int) < (b : Int) := by omega
                have HI2 := ih.out mid t b d2 W4 (by omega) hr2 hr3 (by omega) (by omega) S3.out (fun i j hi hij hj => by rw [HPa.out.2.1 i (.inr (by omega)), HPa.out.2.1 j (.inr (by omega))]; exact HM.out i j hi hij hj) (fun i j hi hij hj => by rw [HPa.out.2.1 i (.inr (by omega)), HPa.out.2.1 j (.inr (by omega))]; exact HB.out i j hi hij hj)
                rw [Hts.out, hz2] at HI2
                replace HI2 := Lib.hid HI2
                go_wp2_with fail
                all_goals
                  refine HI2.out.mono ?_
                  rintro e w5 ⟨rfl, d3, hp3, hs3, S3'⟩
                  have S3 : Aside _ := S3'
                  have Hp3 := Lib.hid hp3
                  have Hs3 := Lib.hid hs3
                  clear hp3 hs3 S3' HI2
                  go_wp2_with fail
                  all_goals
                    go_end0
                    exact ⟨rfl, _, permIn_trans _ _ _ _ _ HP1.out (halves (by omega) (by omega) (by omega) HX.out HPa.out HSa.out Hp3.out Hs3.out).1, (halves (by omega) (by omega) (by omega) HX.out HPa.out HSa.out Hp3.out Hs3.out).2, S3.out⟩
              · have HS3 := Lib.hid (show SortedIn (ltOf cf) mid b d2 from by
                  have h1 : SortedIn (ltOf cf) mid t d2 := fun i j hi hij hj => by rw [HPa.out.2.1 i (.inr (by omega)), HPa.out.2.1 j (.inr (by omega))]; exact HM.out i j hi hij hj
                  have h2 : SortedIn (ltOf cf) t b d2 := fun i j hi hij hj => by rw [HPa.out.2.1 i (.inr (by omega)), HPa.out.2.1 j (.inr (by omega))]; exact HB.out i j hi hij hj
                  by_cases e : t = mid
                  · rw [e] at h2
                    exact h2
                  · have e2 : t = b := by omega
                    rw [e2] at h1
                    exact h1)
                by_cases hr2 : mid < t
                · have r1 : (mid : Int) < (mid : Int) + (m : Int) - (s : Int) := by omega
                  have r2 : ¬ (mid : Int) + (m : Int) - (s : Int) < (b : Int) := by omega
                  go_wp2_with fail
                  all_goals
                    go_end0
                    exact ⟨rfl, _, permIn_trans _ _ _ _ _ HP1.out (halves (by omega) (by omega) (by omega) HX.out HPa.out HSa.out (permIn_refl _ _ _) HS3.out).1, (halves (by omega) (by omega) (by omega) HX.out HPa.out HSa.out (permIn_refl _ _ _) HS3.out).2, S3.out⟩
                · have r1 : ¬ (mid : Int) < (mid : Int) + (m : Int) - (s : Int) := by omega
                  go_wp2_with fail
                  all_goals
                    go_end0
                    exact ⟨rfl, _, permIn_trans _ _ _ _ _ HP1.out (halves (by omega) (by omega) (by omega) HX.out HPa.out HSa.out (permIn_refl _ _ _) HS3.out).1, (halves (by omega) (by omega) (by omega) HX.out HPa.out HSa.out (permIn_refl _ _ _) HS3.out).2, S3.out⟩
        · have Hr := Lib.hid (show Rot s m t d d from rot_idO (by omega))
          obtain ⟨d1, hd1⟩ : ∃ d1, d1 = d := ⟨_, rfl⟩
          obtain ⟨W3, hW3⟩ : ∃ W3, W3 = wr := ⟨_, rfl⟩
          have S1' : Aside (SWK Opr.cells k6 w0 blk off d1 W3) := by rw [hd1, hW3]; exact S1
          replace Hr : Hid (Rot s m t d d1) := by rw [hd1]; exact Hr
          rw [← hW3]
          clear S1 hd1 hW3
          have S1 : Aside _ := S1'
          clear S1'
          by_cases hm1 : s < m
          · have b1 : (s : Int) < (m : Int) := by omega
            have b2 : ¬ (m : Int) < (mid : Int) + (m : Int) - (s : Int) := by omega
            obtain ⟨hp1', hp2', hp3', hp4', hp5'⟩ := rot_parts hO H1.out H2.out has (by omega) (by omega) (by omega) Hr.out HLH.out.1 HLH.out.2
            have HP1 := Lib.hid (permIn_mono _ _ _ _ _ _ has (show t ≤ b by omega) (by omega) Hr.out.perm)
            rw [show s + (t - m) = mid by omega] at hp2' hp3' hp5'
            have HA := Lib.hid hp1'
            have HAm := Lib.hid hp2'
            have HM := Lib.hid hp3'
            have HB := Lib.hid hp4'
            have HX := Lib.hid hp5'
            have hz1 : d1.size = d.size := Hr.out.perm.1
            clear hp1' hp2' hp3' hp4' hp5'
            by_cases hl1 : a < s ∧ s < mid
            · obtain ⟨hl2, hl3⟩ := hl1
              have q1 : (a : Int) < (s : Int) := by omega
              have q2 : (s : Int) < (mid : Int) := by omega
              have HI1 := ih.out a s mid d1 W3 (by omega) hl2 hl3 (by omega) (by omega) S1.out HA.out HAm.out
              rw [hz1] at HI1
              replace HI1 := Lib.hid HI1
              go_wp2_with fail
              all_goals
                refine HI1.out.mono ?_
                rintro e W4 ⟨rfl, d2, hp2, hs2, S3'⟩
                have S3 : Aside _ := S3'
                have HPa := Lib.hid hp2
                have HSa := Lib.hid hs2
                have hz2 : d2.size = d.size := hp2.1.trans hz1
                clear hp2 hs2 S3' S1 HI1
                by_cases hr1 : mid < t ∧ t < b
                · obtain ⟨hr2, hr3⟩ := hr1
                  have r1 : (mid : Int) < (mid : Int) + (m : Int) - (s : Int) := by omega
                  have r2 : (mid : Int) + (m : Int) - (s : Int) < (b : Int) := by omega
                  have HI2 := ih.out mid t b d2 W4 (by omega) hr2 hr3 (by omega) (by omega) S3.out (fun i j hi hij hj => by rw [HPa.out.2.1 i (.inr (by omega)), HPa.out.2.1 j (.inr (by omega))]; exact HM.out i j hi hij hj) (fun i j hi hij hj => by rw [HPa.out.2.1 i (.inr (by omega)), HPa.out.2.1 j (.inr (by omega))]; exact HB.out i j hi hij hj)
                  rw [Hts.out, hz2] at HI2
                  replace HI2 := Lib.hid HI2
                  go_wp2_with fail
                  all_goals
                    refine HI2.out.mono ?_
                    rintro e w5 ⟨rfl, d3, hp3, hs3, S3'⟩
                    have S3 : Aside _ := S3'
                    have Hp3 := Lib.hid hp3
                    have Hs3 := Lib.hid hs3
                    clear hp3 hs3 S3' HI2
                    go_wp2_with fail
                    all_goals
                      go_end0
                      exact ⟨rfl, _, permIn_trans _ _ _ _ _ HP1.out (halves (by omega) (by omega) (by omega) HX.out HPa.out HSa.out Hp3.out Hs3.out).1, (halves (by omega) (by omega) (by omega) HX.out HPa.out HSa.out Hp3.out Hs3.out).2, S3.out⟩
                · have HS3 := Lib.hid (show SortedIn (ltOf cf) mid b d2 from by
                    have h1 : SortedIn (ltOf cf) mid t d2 := fun i j hi hij hj => by rw [HPa.out.2.1 i (.inr (by omega)), HPa.out.2.1 j (.inr (by omega))]; exact HM.out i j hi hij hj
                    have h2 : SortedIn (ltOf cf) t b d2 := fun i j hi hij hj => by rw [HPa.out.2.1 i (.inr (by omega)), HPa.out.2.1 j (.inr (by omega))]; exact HB.out i j hi hij hj
                    by_cases e : t = mid
                    · rw [e] at h2
                      exact h2
                    · have e2 : t = b := by omega
                      rw [e2] at h1
                      exact h1)
                  by_cases hr2 : mid < t
                  · have r1 : (mid : Int) < (mid : Int) + (m : Int) - (s : Int) := by omega
                    have r2 : ¬ (mid : Int) + (m : Int) - (s : Int) < (b : Int) := by omega
                    go_wp2_with fail
                    all_goals
                      go_end0
                      exact ⟨rfl, _, permIn_trans _ _ _ _ _ HP1.out (halves (by omega) (by omega) (by omega) HX.out HPa.out HSa.out (permIn_refl _ _ _) HS3.out).1, (halves (by omega) (by omega) (by omega) HX.out HPa.out HSa.out (permIn_refl _ _ _) HS3.out).2, S3.out⟩
                  · have r1 : ¬ (mid : Int) < (mid : Int) + (m : Int) - (s : Int) := by omega
                    go_wp2_with fail
                    all_goals
                      go_end0
                      exact ⟨rfl, _, permIn_trans _ _ _ _ _ HP1.out (halves (by omega) (by omega) (by omega) HX.out HPa.out HSa.out (permIn_refl _ _ _) HS3.out).1, (halves (by omega) (by omega) (by omega) HX.out HPa.out HSa.out (permIn_refl _ _ _) HS3.out).2, S3.out⟩
            · have HSa := Lib.hid (show SortedIn (ltOf cf) a mid d1 from by
                by_cases e : s = a
                · have h3 := HAm.out
                  rw [e] at h3
                  exact h3
                · have e2 : s = mid := by omega
                  have h3 := HA.out
                  rw [e2] at h3
                  exact h3)
              have HPa := Lib.hid (permIn_refl d1 a mid)
              obtain ⟨d2, hd2⟩ : ∃ d2, d2 = d1 := ⟨_, rfl⟩
              obtain ⟨W4, hW4⟩ : ∃ W4, W4 = W3 := ⟨_, rfl⟩
              have S3 : Aside (SWK Opr.cells k6 w0 blk off d2 W4) := by rw [hd2, hW4]; exact S1
              have hz2 : d2.size = d.size := by rw [hd2]; exact hz1
              replace HSa : Hid (SortedIn (ltOf cf) a mid d2) := by rw [hd2]; exact HSa
              replace HPa : Hid (PermIn a mid d1 d2) := by rw [hd2]; exact HPa
              rw [← hW4]
              clear S1 hd2 hW4
              by_cases hl2 : a < s
              · have q1 : (a : Int) < (s : Int) := by omega
                have q2 : ¬ (s : Int) < (mid : Int) := by omega
                by_cases hr1 : mid < t ∧ t < b
                · obtain ⟨hr2, hr3⟩ := hr1
                  have r1 : (mid : Int) < (mid : Int) + (m : Int) - (s : Int) := by omega
                  have r2 : (mid : Int) + (m : Int) - (s : Int) < (b : Int) := by omega
                  have HI2 := ih.out mid t b d2 W4 (by omega) hr2 hr3 (by omega) (by omega) S3.out (fun i j hi hij hj => by rw [HPa.out.2.1 i (.inr (by omega)), HPa.out.2.1 j (.inr (by omega))]; exact HM.out i j hi hij hj) (fun i j hi hij hj => by rw [HPa.out.2.1 i (.inr (by omega)), HPa.out.2.1 j (.inr (by omega))]; exact HB.out i j hi hij hj)
                  rw [Hts.out, hz2] at HI2
                  replace HI2 := Lib.hid HI2
                  go_wp2_with fail
                  all_goals
                    refine HI2.out.mono ?_
                    rintro e w5 ⟨rfl, d3, hp3, hs3, S3'⟩
                    have S3 : Aside _ := S3'
                    have Hp3 := Lib.hid hp3
                    have Hs3 := Lib.hid hs3
                    clear hp3 hs3 S3' HI2
                    go_wp2_with fail
                    all_goals
                      go_end0
                      exact ⟨rfl, _, permIn_trans _ _ _ _ _ HP1.out (halves (by omega) (by omega) (by omega) HX.out HPa.out HSa.out Hp3.out Hs3.out).1, (halves (by omega) (by omega) (by omega) HX.out HPa.out HSa.out Hp3.out Hs3.out).2, S3.out⟩
                · have HS3 := Lib.hid (show SortedIn (ltOf cf) mid b d2 from by
                    have h1 : SortedIn (ltOf cf) mid t d2 := fun i j hi hij hj => by rw [HPa.out.2.1 i (.inr (by omega)), HPa.out.2.1 j (.inr (by omega))]; exact HM.out i j hi hij hj
                    have h2 : SortedIn (ltOf cf) t b d2 := fun i j hi hij hj => by rw [HPa.out.2.1 i (.inr (by omega)), HPa.out.2.1 j (.inr (by omega))]; exact HB.out i j hi hij hj
                    by_cases e : t = mid
                    · rw [e] at h2
                      exact h2
                    · have e2 : t = b := by omega
                      rw [e2] at h1
                      exact h1)
                  by_cases hr2 : mid < t
                  · have r1 : (mid : Int) < (mid : Int) + (m : Int) - (s : Int) := by omega
                    have r2 : ¬ (mid : Int) + (m : Int) - (s : Int) < (b : Int) := by omega
                    go_wp2_with fail
                    all_goals
                      go_end0
                      exact ⟨rfl, _, permIn_trans _ _ _ _ _ HP1.out (halves (by omega) (by omega) (by omega) HX.out HPa.out HSa.out (permIn_refl _ _ _) HS3.out).1, (halves (by omega) (by omega) (by omega) HX.out HPa.out HSa.out (permIn_refl _ _ _) HS3.out).2, S3.out⟩
                  · have r1 : ¬ (mid : Int) < (mid : Int) + (m : Int) - (s : Int) := by omega
                    go_wp2_with fail
                    all_goals
                      go_end0
                      exact ⟨rfl, _, permIn_trans _ _ _ _ _ HP1.out (halves (by omega) (by omega) (by omega) HX.out HPa.out HSa.out (permIn_refl _ _ _) HS3.out).1, (halves (by omega) (by omega) (by omega) HX.out HPa.out HSa.out (permIn_refl _ _ _) HS3.out).2, S3.out⟩
              · have q1 : ¬ (a : Int) < (s : Int) := by omega
                by_cases hr1 : mid < t ∧ t < b
                · obtain ⟨hr2, hr3⟩ := hr1
                  have r1 : (mid : Int) < (mid : Int) + (m : Int) - (s : Int) := by omega
                  have r2 : (mid : Int) + (m : Int) - (s : Int) < (b : Int) := by omega
                  have HI2 := ih.out mid t b d2 W4 (by omega) hr2 hr3 (by omega) (by omega) S3.out (fun i j hi hij hj => by rw [HPa.out.2.1 i (.inr (by omega)), HPa.out.2.1 j (.inr (by omega))]; exact HM.out i j hi hij hj) (fun i j hi hij hj => by rw [HPa.out.2.1 i (.inr (by omega)), HPa.out.2.1 j (.inr (by omega))]; exact HB.out i j hi hij hj)
                  rw [Hts.out, hz2] at HI2
                  replace HI2 := Lib.hid HI2
                  go_wp2_with fail
                  all_goals
                    refine HI2.out.mono ?_
                    rintro e w5 ⟨rfl, d3, hp3, hs3, S3'⟩
                    have S3 : Aside _ := S3'
                    have Hp3 := Lib.hid hp3
                    have Hs3 := Lib.hid hs3
                    clear hp3 hs3 S3' HI2
                    go_wp2_with fail
                    all_goals
                      go_end0
                      exact ⟨rfl, _, permIn_trans _ _ _ _ _ HP1.out (halves (by omega) (by omega) (by omega) HX.out HPa.out HSa.out Hp3.out Hs3.out).1, (halves (by omega) (by omega) (by omega) HX.out HPa.out HSa.out Hp3.out Hs3.out).2, S3.out⟩
                · have HS3 := Lib.hid (show SortedIn (ltOf cf) mid b d2 from by
                    have h1 : SortedIn (ltOf cf) mid t d2 := fun i j hi hij hj => by rw [HPa.out.2.1 i (.inr (by omega)), HPa.out.2.1 j (.inr (by omega))]; exact HM.out i j hi hij hj
                    have h2 : SortedIn (ltOf cf) t b d2 := fun i j hi hij hj => by rw [HPa.out.2.1 i (.inr (by omega)), HPa.out.2.1 j (.inr (by omega))]; exact HB.out i j hi hij hj
                    by_cases e : t = mid
                    · rw [e] at h2
                      exact h2
                    · have e2 : t = b := by omega
                      rw [e2] at h1
                      exact h1)
                  by_cases hr2 : mid < t
                  · have r1 : (mid : Int) < (mid : Int) + (m : Int) - (s : Int) := by omega
                    have r2 : ¬ (mid : Int) + (m : Int) - (s : Int) < (b : Int) := by omega
                    go_wp2_with fail
                    all_goals
                      go_end0
                      exact ⟨rfl, _, permIn_trans _ _ _ _ _ HP1.out (halves (by omega) (by omega) (by omega) HX.out HPa.out HSa.out (permIn_refl _ _ _) HS3.out).1, (halves (by omega) (by omega) (by omega) HX.out HPa.out HSa.out (permIn_refl _ _ _) HS3.out).2, S3.out⟩
                  · have r1 : ¬ (mid : Int) < (mid : Int) + (m : Int) - (s : Int) := by omega
                    go_wp2_with fail
                    all_goals
                      go_end0
                      exact ⟨rfl, _, permIn_trans _ _ _ _ _ HP1.out (halves (by omega) (by omega) (by omega) HX.out HPa.out HSa.out (permIn_refl _ _ _) HS3.out).1, (halves (by omega) (by omega) (by omega) HX.out HPa.out HSa.out (permIn_refl _ _ _) HS3.out).2, S3.out⟩
          · have b1 : ¬ (s : Int) < (m : Int) := by omega
            obtain ⟨hp1', hp2', hp3', hp4', hp5'⟩ := rot_parts hO H1.out H2.out has (by omega) (by omega) (by omega) Hr.out HLH.out.1 HLH.out.2
            have HP1 := Lib.hid (permIn_mono _ _ _ _ _ _ has (show t ≤ b by omega) (by omega) Hr.out.perm)
            rw [show s + (t - m) = mid by omega] at hp2' hp3' hp5'
            have HA := Lib.hid hp1'
            have HAm := Lib.hid hp2'
            have HM := Lib.hid hp3'
            have HB := Lib.hid hp4'
            have HX := Lib.hid hp5'
            have hz1 : d1.size = d.size := Hr.out.perm.1
            clear hp1' hp2' hp3' hp4' hp5'
            by_cases hl1 : a < s ∧ s < mid
            · obtain ⟨hl2, hl3⟩ := hl1
              have q1 : (a : Int) < (s : Int) := by omega
              have q2 : (s : Int) < (mid : Int) := by omega
              have HI1 := ih.out a s mid d1 W3 (by omega) hl2 hl3 (by omega) (by omega) S1.out HA.out HAm.out
              rw [hz1] at HI1
              replace HI1 := Lib.hid HI1
              go_wp2_with fail
              all_goals
                refine HI1.out.mono ?_
                rintro e W4 ⟨rfl, d2, hp2, hs2, S3'⟩
                have S3 : Aside _ := S3'
                have HPa := Lib.hid hp2
                have HSa := Lib.hid hs2
                have hz2 : d2.size = d.size := hp2.1.trans hz1
                clear hp2 hs2 S3' S1 HI1
                by_cases hr1 : mid < t ∧ t < b
                · obtain ⟨hr2, hr3⟩ := hr1
                  have r1 : (mid : Int) < (mid : Int) + (m : Int) - (s : Int) := by omega
                  have r2 : (mid : Int) + (m : Int) - (s : Int) < (b : Int) := by omega
                  have HI2 := ih.out mid t b d2 W4 (by omega) hr2 hr3 (by omega) (by omega) S3.out (fun i j hi hij hj => by rw [HPa.out.2.1 i (.inr (by omega)), HPa.out.2.1 j (.inr (by omega))]; exact HM.out i j hi hij hj) (fun i j hi hij hj => by rw [HPa.out.2.1 i (.inr (by omega)), HPa.out.2.1 j (.inr (by omega))]; exact HB.out i j hi hij hj)
                  rw [Hts.out, hz2] at HI2
                  replace HI2 := Lib.hid HI2
                  go_wp2_with fail
                  all_goals
                    refine HI2.out.mono ?_
                    rintro e w5 ⟨rfl, d3, hp3, hs3, S3'⟩
                    have S3 : Aside _ := S3'
                    have Hp3 := Lib.hid hp3
                    have Hs3 := Lib.hid hs3
                    clear hp3 hs3 S3' HI2
                    go_wp2_with fail
                    all_goals
                      go_end0
                      exact ⟨rfl, _, permIn_trans _ _ _ _ _ HP1.out (halves (by omega) (by omega) (by omega) HX.out HPa.out HSa.out Hp3.out Hs3.out).1, (halves (by omega) (by omega) (by omega) HX.out HPa.out HSa.out Hp3.out Hs3.out).2, S3.out⟩
                · have HS3 := Lib.hid (show SortedIn (ltOf cf) mid b d2 from by
                    have h1 : SortedIn (ltOf cf) mid t d2 := fun i j hi hij hj => by rw [HPa.out.2.1 i (.inr (by omega)), HPa.out.2.1 j (.inr (by omega))]; exact HM.out i j hi hij hj
                    have h2 : SortedIn (ltOf cf) t b d2 := fun i j hi hij hj => by rw [HPa.out.2.1 i (.inr (by omega)), HPa.out.2.1 j (.inr (by omega))]; exact HB.out i j hi hij hj
                    by_cases e : t = mid
                    · rw [e] at h2
                      exact h2
                    · have e2 : t = b := by omega
                      rw [e2] at h1
                      exact h1)
                  by_cases hr2 : mid < t
                  · have r1 : (mid : Int) < (mid : Int) + (m : Int) - (s : Int) := by omega
                    have r2 : ¬ (mid : Int) + (m : Int) - (s : Int) < (b : Int) := by omega
                    go_wp2_with fail
                    all_goals
                      go_end0
                      exact ⟨rfl, _, permIn_trans _ _ _ _ _ HP1.out (halves (by omega) (by omega) (by omega) HX.out HPa.out HSa.out (permIn_refl _ _ _) HS3.out).1, (halves (by omega) (by omega) (by omega) HX.out HPa.out HSa.out (permIn_refl _ _ _) HS3.out).2, S3.out⟩
                  · have r1 : ¬ (mid : Int) < (mid : Int) + (m : Int) - (s : Int) := by omega
                    go_wp2_with fail
                    all_goals
                      go_end0
                      exact ⟨rfl, _, permIn_trans _ _ _ _ _ HP1.out (halves (by omega) (by omega) (by omega) HX.out HPa.out HSa.out (permIn_refl _ _ _) HS3.out).1, (halves (by omega) (by omega) (by omega) HX.out HPa.out HSa.out (permIn_refl _ _ _) HS3.out).2, S3.out⟩
            · have HSa := Lib.hid (show SortedIn (ltOf cf) a mid d1 from by
                by_cases e : s = a
                · have h3 := HAm.out
                  rw [e] at h3
                  exact h3
                · have e2 : s = mid := by omega
                  have h3 := HA.out
                  rw [e2] at h3
                  exact h3)
              have HPa := Lib.hid (permIn_refl d1 a mid)
              obtain ⟨d2, hd2⟩ : ∃ d2, d2 = d1 := ⟨_, rfl⟩
              obtain ⟨W4, hW4⟩ : ∃ W4, W4 = W3 := ⟨_, rfl⟩
              have S3 : Aside (SWK Opr.cells k6 w0 blk off d2 W4) := by rw [hd2, hW4]; exact S1
              have hz2 : d2.size = d.size := by rw [hd2]; exact hz1
              replace HSa : Hid (SortedIn (ltOf cf) a mid d2) := by rw [hd2]; exact HSa
              replace HPa : Hid (PermIn a mid d1 d2) := by rw [hd2]; exact HPa
              rw [← hW4]
              clear S1 hd2 hW4
              by_cases hl2 : a < s
              · have q1 : (a : Int) < (s : Int) := by omega
                have q2 : ¬ (s : Int) < (mid : Int) := by omega
                by_cases hr1 : mid < t ∧ t < b
                · obtain ⟨hr2, hr3⟩ := hr1
                  have r1 : (mid : Int) < (mid : Int) + (m : Int) - (s : Int) := by omega
                  have r2 : (mid : Int) + (m : Int) - (s : Int) < (b : Int) := by omega
                  have HI2 := ih.out mid t b d2 W4 (by omega) hr2 hr3 (by omega) (by omega) S3.out (fun i j hi hij hj => by rw [HPa.out.2.1 i (.inr (by omega)), HPa.out.2.1 j (.inr (by omega))]; exact HM.out i j hi hij hj) (fun i j hi hij hj => by rw [HPa.out.2.1 i (.inr (by omega)), HPa.out.2.1 j (.inr (by omega))]; exact HB.out i j hi hij hj)
                  rw [Hts.out, hz2] at HI2
                  replace HI2 := Lib.hid HI2
                  go_wp2_with fail
                  all_goals
                    refine HI2.out.mono ?_
                    rintro e w5 ⟨rfl, d3, hp3, hs3, S3'⟩
                    have S3 : Aside _ := S3'
                    have Hp3 := Lib.hid hp3
                    have Hs3 := Lib.hid hs3
                    clear hp3 hs3 S3' HI2
                    go_wp2_with fail
                    all_goals
                      go_end0
                      exact ⟨rfl, _, permIn_trans _ _ _ _ _ HP1.out (halves (by omega) (by omega) (by omega) HX.out HPa.out HSa.out Hp3.out Hs3.out).1, (halves (by omega) (by omega) (by omega) HX.out HPa.out HSa.out Hp3.out Hs3.out).2, S3.out⟩
                · have HS3 := Lib.hid (show SortedIn (ltOf cf) mid b d2 from by
                    have h1 : SortedIn (ltOf cf) mid t d2 := fun i j hi hij hj => by rw [HPa.out.2.1 i (.inr (by omega)), HPa.out.2.1 j (.inr (by omega))]; exact HM.out i j hi hij hj
                    have h2 : SortedIn (ltOf cf) t b d2 := fun i j hi hij hj => by rw [HPa.out.2.1 i (.inr (by omega)), HPa.out.2.1 j (.inr (by omega))]; exact HB.out i j hi hij hj
                    by_cases e : t = mid
                    · rw [e] at h2
                      exact h2
                    · have e2 : t = b := by omega
                      rw [e2] at h1
                      exact h1)
                  by_cases hr2 : mid < t
                  · have r1 : (mid : Int) < (mid : Int) + (m : Int) - (s : Int) := by omega
                    have r2 : ¬ (mid : Int) + (m : Int) - (s : Int) < (b : Int) := by omega
                    go_wp2_with fail
                    all_goals
                      go_end0
                      exact ⟨rfl, _, permIn_trans _ _ _ _ _ HP1.out (halves (by omega) (by omega) (by omega) HX.out HPa.out HSa.out (permIn_refl _ _ _) HS3.out).1, (halves (by omega) (by omega) (by omega) HX.out HPa.out HSa.out (permIn_refl _ _ _) HS3.out).2, S3.out⟩
                  · have r1 : ¬ (mid : Int) < (mid : Int) + (m : Int) - (s : Int) := by omega
                    go_wp2_with fail
                    all_goals
                      go_end0
                      exact ⟨rfl, _, permIn_trans _ _ _ _ _ HP1.out (halves (by omega) (by omega) (by omega) HX.out HPa.out HSa.out (permIn_refl _ _ _) HS3.out).1, (halves (by omega) (by omega) (by omega) HX.out HPa.out HSa.out (permIn_refl _ _ _) HS3.out).2, S3.out⟩
              · have q1 : ¬ (a : Int) < (s : Int) := by omega
                by_cases hr1 : mid < t ∧ t < b
                · obtain ⟨hr2, hr3⟩ := hr1
                  have r1 : (mid : Int) < (mid : Int) + (m : Int) - (s : Int) := by omega
                  have r2 : (mid : Int) + (m : Int) - (s : Int) < (b : Int) := by omega
                  have HI2 := ih.out mid t b d2 W4 (by omega) hr2 hr3 (by omega) (by omega) S3.out (fun i j hi hij hj => by rw [HPa.out.2.1 i (.inr (by omega)), HPa.out.2.1 j (.inr (by omega))]; exact HM.out i j hi hij hj) (fun i j hi hij hj => by rw [HPa.out.2.1 i (.inr (by omega)), HPa.out.2.1 j (.inr (by omega))]; exact HB.out i j hi hij hj)
                  rw [Hts.out, hz2] at HI2
                  replace HI2 := Lib.hid HI2
                  go_wp2_with fail
                  all_goals
                    refine HI2.out.mono ?_
                    rintro e w5 ⟨rfl, d3, hp3, hs3, S3'⟩
                    have S3 : Aside _ := S3'
                    have Hp3 := Lib.hid hp3
                    have Hs3 := Lib.hid hs3
                    clear hp3 hs3 S3' HI2
                    go_wp2_with fail
                    all_goals
                      go_end0
                      exact ⟨rfl, _, permIn_trans _ _ _ _ _ HP1.out (halves (by omega) (by omega) (by omega) HX.out HPa.out HSa.out Hp3.out Hs3.out).1, (halves (by omega) (by omega) (by omega) HX.out HPa.out HSa.out Hp3.out Hs3.out).2, S3.out⟩
                · have HS3 := Lib.hid (show SortedIn (ltOf cf) mid b d2 from by
                    have h1 : SortedIn (ltOf cf) mid t d2 := fun i j hi hij hj => by rw [HPa.out.2.1 i (.inr (by omega)), HPa.out.2.1 j (.inr (by omega))]; exact HM.out i j hi hij hj
                    have h2 : SortedIn (ltOf cf) t b d2 := fun i j hi hij hj => by rw [HPa.out.2.1 i (.inr (by omega)), HPa.out.2.1 j (.inr (by omega))]; exact HB.out i j hi hij hj
                    by_cases e : t = mid
                    · rw [e] at h2
                      exact h2
                    · have e2 : t = b := by omega
                      rw [e2] at h1
                      exact h1)
                  by_cases hr2 : mid < t
                  · have r1 : (mid : Int) < (mid : Int) + (m : Int) - (s : Int) := by omega
                    have r2 : ¬ (mid : Int) + (m : Int) - (s : Int) < (b : Int) := by omega
                    go_wp2_with fail
                    all_goals
                      go_end0
                      exact ⟨rfl, _, permIn_trans _ _ _ _ _ HP1.out (halves (by omega) (by omega) (by omega) HX.out HPa.out HSa.out (permIn_refl _ _ _) HS3.out).1, (halves (by omega) (by omega) (by omega) HX.out HPa.out HSa.out (permIn_refl _ _ _) HS3.out).2, S3.out⟩
                  · have r1 : ¬ (mid : Int) < (mid : Int) + (m : Int) - (s : Int) := by omega
                    go_wp2_with fail
                    all_goals
                      go_end0
                      exact ⟨rfl, _, permIn_trans _ _ _ _ _ HP1.out (halves (by omega) (by omega) (by omega) HX.out HPa.out HSa.out (permIn_refl _ _ _) HS3.out).1, (halves (by omega) (by omega) (by omega) HX.out HPa.out HSa.out (permIn_refl _ _ _) HS3.out).2, S3.out⟩
  · have hg : ¬ (m : Int) > (mid : Int) := by omega
    go_wp2_with fail
    go_loopw [20, 21] (fun i j wr => ∃ (s r : Nat), i = .int .i64 s ∧ j = .int .i64 r ∧ Hid (Sought (ltOf cf) d (mid + m - 1) (a) (m) s r) ∧ a ≤ s ∧ s ≤ r ∧ r ≤ m ∧ Aside (SWK Opr.cells k6 w0 blk off d wr)) (fun i j _ => (RowKit.intOf j).toNat - (RowKit.intOf i).toNat)
    case atStart => exact ⟨a, m, rfl, rfl, Lib.hid (Sought.start _ _ _ _ (by omega)), Nat.le_refl _, by omega, Nat.le_refl _, S0⟩
    case round =>
      clear S0
      obtain ⟨s, r, rfl, rfl, HS, hls, hsr, hrh, S1⟩ := hrel
      by_cases hlt : s < r
      · have hlti : (s : Int) < (r : Int) := by omega
        go_upto_region 35 with fail
        obtain ⟨c, hc⟩ : ∃ c : Nat, c = (s + r) / 2 := ⟨_, rfl⟩
        rw [show ((s : Int) + (r : Int)) / 2 = (c : Int) by omega]
        have hc1 : s ≤ c := by omega
        have hc2 : c < r := by omega
        clear hc
        have rp : IntKind.i64.wrap ((mid : Int) + (m : Int) - 1 - (c : Int)) = (mid : Int) + (m : Int) - 1 - (c : Int) := by rw [IntKind.wrap_i64]; omega
        have tp : ((mid : Int) + (m : Int) - 1 - (c : Int)).toNat = mid + m - 1 - c := by omega
        have pp : (0 : Int) ≤ (mid : Int) + (m : Int) - 1 - (c : Int) := by omega
        have lp : (mid : Int) + (m : Int) - 1 - (c : Int) < (d.size : Int) := by omega
        have pp2 : (c : Int) ≤ (mid : Int) + (m : Int) - 1 := by omega
        have pp3 : (c : Int) + 1 ≤ (mid : Int) + (m : Int) := by omega
        have pp4 : (c : Int) < (mid : Int) + (m : Int) := by omega
        have pp5 : mid + m - 1 - c < d.size := by omega
        have hci : (c : Int) < (d.size : Int) := by omega
        have hci0 : (0 : Int) ≤ (c : Int) := by omega
        obtain ⟨xi, hxi⟩ : ∃ q, d[mid + m - 1 - c]! = q := ⟨_, rfl⟩
        obtain ⟨xj, hxj⟩ : ∃ q, d[c]! = q := ⟨_, rfl⟩
        have li := fun n' os' => S1.out.ld R (by omega) Tryz.prog (mid + m - 1 - c) (by omega) n' os'
        have lj := fun n' os' => S1.out.ld R (by omega) Tryz.prog (c) (by omega) n' os'
        have hcg : ∀ n' os', Calls Tryz.prog 22 #[.agg (Opr.cells xi).toArray, .agg (Opr.cells xj).toArray] (grow (wr.drewN n') os') fun e w' => e = .returned (.int .i64 (cf xi xj)) ∧ ∃ q os'', w' = grow ((grow (wr.drewN n') os').drewN q) os'' := fun n' os' => by
          have := S1.out.cmp HC.out (by omega) xi xj n' os'
          rwa [Array.append_empty] at this
        rw [hxi] at li
        rw [hxj] at lj
        have Hxi := Lib.hid hxi
        have Hxj := Lib.hid hxj
        clear hxi hxj
        by_cases hlv : cf xi xj < 0
        · have e1 : ltOf cf d[mid + m - 1 - c]! d[c]! = true := by rw [Hxi.out, Hxj.out]; exact ltOf_tO hlv
          have HS2 := Lib.hid (HS.out.down hO H1.out H2.out (show a ≤ a by omega) (by omega) (by omega) (by omega) hc1 hc2 e1)
          have hlb : decide (cf xi xj < 0) = true := decide_eq_true hlv
          clear e1
          go_wp2_with fail
          go_quiet_grown (first | (go_at_call 22; refine Calls.grown_of (hcg _ _)))
          have S2 : Aside _ := S1.out.grown nq osq
          generalize grow (wr.drewN nq) osq = w2 at S2 ⊢
          clear hcg li lj S1 HS rp tp pp lp
          go_wp2_with fail
          go_roundw
          case rel => exact ⟨s, c, rfl, rfl, HS2, hls, hc1, by omega, S2⟩
          case measure => simp [RowKit.intOf]; omega
        · have e1 : ltOf cf d[mid + m - 1 - c]! d[c]! = false := by rw [Hxi.out, Hxj.out]; exact ltOf_fO hlv
          have HS2 := Lib.hid (HS.out.up hO H1.out H2.out (show a ≤ a by omega) (by omega) (by omega) (by omega) hc1 hc2 e1)
          have hlb : decide (cf xi xj < 0) = false := decide_eq_false hlv
          have hlc : (0 : Int) ≤ cf xi xj := by omega
          have hld : decide ((0 : Int) ≤ cf xi xj) = true := decide_eq_true hlc
          have hle : (!decide (cf xi xj < 0)) = true := by rw [hlb]; rfl
          clear e1
          go_wp2_with fail
          go_quiet_grown (first | (go_at_call 22; refine Calls.grown_of (hcg _ _)))
          have S2 : Aside _ := S1.out.grown nq osq
          generalize grow (wr.drewN nq) osq = w2 at S2 ⊢
          clear hcg li lj S1 HS rp tp pp lp
          go_wp2_with fail
          go_roundw
          case rel => exact ⟨c + 1, r, by go_num, rfl, HS2, by omega, by omega, hrh, S2⟩
          case measure => simp [RowKit.intOf]; omega
      · obtain rfl : s = r := by omega
        obtain ⟨t, ht⟩ : ∃ t : Nat, t = mid + m - s := ⟨_, rfl⟩
        have Hts := Lib.hid (show (t : Int) = (mid : Int) + (m : Int) - (s : Int) by omega)
        have hd0 := HS.out.done hO H1.out H2.out (show a ≤ a by omega) (by omega) (by omega) (by omega) (by omega) (by omega) (by omega)
        rw [← ht] at hd0
        have HLH := Lib.hid hd0
        have has : a ≤ s := by omega
        clear hd0 HS
        by_cases hmt : s < m ∧ m < t
        · obtain ⟨hm1, hm2⟩ := hmt
          have b1 : (s : Int) < (m : Int) := by omega
          have b2 : (m : Int) < (mid : Int) + (m : Int) - (s : Int) := by omega
          have HRo := rotR_kO k6 H6.out (.func (.func 22) #[] #[]) blk off cap s m t d0 d w0 wr R hs S1.out hm1 hm2 (by omega) hsz
          rw [Hts.out] at HRo
          replace HRo := Lib.hid HRo
          go_wp2_with fail
          refine HRo.out.mono ?_
          rintro e W3 ⟨rfl, d1, hr', S1'⟩
          have Hr := Lib.hid hr'
          have hsm : s ≤ m := by omega
          have hmt2 : m ≤ t := by omega
          clear S1 HRo hr'
          have S1 : Aside _ := S1'
          clear S1'
          obtain ⟨hp1', hp2', hp3', hp4', hp5'⟩ := rot_parts hO H1.out H2.out has (by omega) (by omega) (by omega) Hr.out HLH.out.1 HLH.out.2
          have HP1 := Lib.hid (permIn_mono _ _ _ _ _ _ has (show t ≤ b by omega) (by omega) Hr.out.perm)
          rw [show s + (t - m) = mid by omega] at hp2' hp3' hp5'
          have HA := Lib.hid hp1'
          have HAm := Lib.hid hp2'
          have HM := Lib.hid hp3'
          have HB := Lib.hid hp4'
          have HX := Lib.hid hp5'
          have hz1 : d1.size = d.size := Hr.out.perm.1
          clear hp1' hp2' hp3' hp4' hp5'
          by_cases hl1 : a < s ∧ s < mid
          · obtain ⟨hl2, hl3⟩ := hl1
            have q1 : (a : Int) < (s : Int) := by omega
            have q2 : (s : Int) < (mid : Int) := by omega
            have HI1 := ih.out a s mid d1 W3 (by omega) hl2 hl3 (by omega) (by omega) S1.out HA.out HAm.out
            rw [hz1] at HI1
            replace HI1 := Lib.hid HI1
            go_wp2_with fail
            all_goals
              refine HI1.out.mono ?_
              rintro e W4 ⟨rfl, d2, hp2, hs2, S3'⟩
              have S3 : Aside _ := S3'
              have HPa := Lib.hid hp2
              have HSa := Lib.hid hs2
              have hz2 : d2.size = d.size := hp2.1.trans hz1
              clear hp2 hs2 S3' S1 HI1
              by_cases hr1 : mid < t ∧ t < b
              · obtain ⟨hr2, hr3⟩ := hr1
                have r1 : (mid : Int) < (mid : Int) + (m : Int) - (s : Int) := by omega
                have r2 : (mid : Int) + (m : Int) - (s : Int) < (b : Int) := by omega
                have HI2 := ih.out mid t b d2 W4 (by omega) hr2 hr3 (by omega) (by omega) S3.out (fun i j hi hij hj => by rw [HPa.out.2.1 i (.inr (by omega)), HPa.out.2.1 j (.inr (by omega))]; exact HM.out i j hi hij hj) (fun i j hi hij hj => by rw [HPa.out.2.1 i (.inr (by omega)), HPa.out.2.1 j (.inr (by omega))]; exact HB.out i j hi hij hj)
                rw [Hts.out, hz2] at HI2
                replace HI2 := Lib.hid HI2
                go_wp2_with fail
                all_goals
                  refine HI2.out.mono ?_
                  rintro e w5 ⟨rfl, d3, hp3, hs3, S3'⟩
                  have S3 : Aside _ := S3'
                  have Hp3 := Lib.hid hp3
                  have Hs3 := Lib.hid hs3
                  clear hp3 hs3 S3' HI2
                  go_wp2_with fail
                  all_goals
                    go_end0
                    exact ⟨rfl, _, permIn_trans _ _ _ _ _ HP1.out (halves (by omega) (by omega) (by omega) HX.out HPa.out HSa.out Hp3.out Hs3.out).1, (halves (by omega) (by omega) (by omega) HX.out HPa.out HSa.out Hp3.out Hs3.out).2, S3.out⟩
              · have HS3 := Lib.hid (show SortedIn (ltOf cf) mid b d2 from by
                  have h1 : SortedIn (ltOf cf) mid t d2 := fun i j hi hij hj => by rw [HPa.out.2.1 i (.inr (by omega)), HPa.out.2.1 j (.inr (by omega))]; exact HM.out i j hi hij hj
                  have h2 : SortedIn (ltOf cf) t b d2 := fun i j hi hij hj => by rw [HPa.out.2.1 i (.inr (by omega)), HPa.out.2.1 j (.inr (by omega))]; exact HB.out i j hi hij hj
                  by_cases e : t = mid
                  · rw [e] at h2
                    exact h2
                  · have e2 : t = b := by omega
                    rw [e2] at h1
                    exact h1)
                by_cases hr2 : mid < t
                · have r1 : (mid : Int) < (mid : Int) + (m : Int) - (s : Int) := by omega
                  have r2 : ¬ (mid : Int) + (m : Int) - (s : Int) < (b : Int) := by omega
                  go_wp2_with fail
                  all_goals
                    go_end0
                    exact ⟨rfl, _, permIn_trans _ _ _ _ _ HP1.out (halves (by omega) (by omega) (by omega) HX.out HPa.out HSa.out (permIn_refl _ _ _) HS3.out).1, (halves (by omega) (by omega) (by omega) HX.out HPa.out HSa.out (permIn_refl _ _ _) HS3.out).2, S3.out⟩
                · have r1 : ¬ (mid : Int) < (mid : Int) + (m : Int) - (s : Int) := by omega
                  go_wp2_with fail
                  all_goals
                    go_end0
                    exact ⟨rfl, _, permIn_trans _ _ _ _ _ HP1.out (halves (by omega) (by omega) (by omega) HX.out HPa.out HSa.out (permIn_refl _ _ _) HS3.out).1, (halves (by omega) (by omega) (by omega) HX.out HPa.out HSa.out (permIn_refl _ _ _) HS3.out).2, S3.out⟩
          · have HSa := Lib.hid (show SortedIn (ltOf cf) a mid d1 from by
              by_cases e : s = a
              · have h3 := HAm.out
                rw [e] at h3
                exact h3
              · have e2 : s = mid := by omega
                have h3 := HA.out
                rw [e2] at h3
                exact h3)
            have HPa := Lib.hid (permIn_refl d1 a mid)
            obtain ⟨d2, hd2⟩ : ∃ d2, d2 = d1 := ⟨_, rfl⟩
            obtain ⟨W4, hW4⟩ : ∃ W4, W4 = W3 := ⟨_, rfl⟩
            have S3 : Aside (SWK Opr.cells k6 w0 blk off d2 W4) := by rw [hd2, hW4]; exact S1
            have hz2 : d2.size = d.size := by rw [hd2]; exact hz1
            replace HSa : Hid (SortedIn (ltOf cf) a mid d2) := by rw [hd2]; exact HSa
            replace HPa : Hid (PermIn a mid d1 d2) := by rw [hd2]; exact HPa
            rw [← hW4]
            clear S1 hd2 hW4
            by_cases hl2 : a < s
            · have q1 : (a : Int) < (s : Int) := by omega
              have q2 : ¬ (s : Int) < (mid : Int) := by omega
              by_cases hr1 : mid < t ∧ t < b
              · obtain ⟨hr2, hr3⟩ := hr1
                have r1 : (mid : Int) < (mid : Int) + (m : Int) - (s : Int) := by omega
                have r2 : (mid : Int) + (m : Int) - (s : Int) < (b : Int) := by omega
                have HI2 := ih.out mid t b d2 W4 (by omega) hr2 hr3 (by omega) (by omega) S3.out (fun i j hi hij hj => by rw [HPa.out.2.1 i (.inr (by omega)), HPa.out.2.1 j (.inr (by omega))]; exact HM.out i j hi hij hj) (fun i j hi hij hj => by rw [HPa.out.2.1 i (.inr (by omega)), HPa.out.2.1 j (.inr (by omega))]; exact HB.out i j hi hij hj)
                rw [Hts.out, hz2] at HI2
                replace HI2 := Lib.hid HI2
                go_wp2_with fail
                all_goals
                  refine HI2.out.mono ?_
                  rintro e w5 ⟨rfl, d3, hp3, hs3, S3'⟩
                  have S3 : Aside _ := S3'
                  have Hp3 := Lib.hid hp3
                  have Hs3 := Lib.hid hs3
                  clear hp3 hs3 S3' HI2
                  go_wp2_with fail
                  all_goals
                    go_end0
                    exact ⟨rfl, _, permIn_trans _ _ _ _ _ HP1.out (halves (by omega) (by omega) (by omega) HX.out HPa.out HSa.out Hp3.out Hs3.out).1, (halves (by omega) (by omega) (by omega) HX.out HPa.out HSa.out Hp3.out Hs3.out).2, S3.out⟩
              · have HS3 := Lib.hid (show SortedIn (ltOf cf) mid b d2 from by
                  have h1 : SortedIn (ltOf cf) mid t d2 := fun i j hi hij hj => by rw [HPa.out.2.1 i (.inr (by omega)), HPa.out.2.1 j (.inr (by omega))]; exact HM.out i j hi hij hj
                  have h2 : SortedIn (ltOf cf) t b d2 := fun i j hi hij hj => by rw [HPa.out.2.1 i (.inr (by omega)), HPa.out.2.1 j (.inr (by omega))]; exact HB.out i j hi hij hj
                  by_cases e : t = mid
                  · rw [e] at h2
                    exact h2
                  · have e2 : t = b := by omega
                    rw [e2] at h1
                    exact h1)
                by_cases hr2 : mid < t
                · have r1 : (mid : Int) < (mid : Int) + (m : Int) - (s : Int) := by omega
                  have r2 : ¬ (mid : Int) + (m : Int) - (s : Int) < (b : Int) := by omega
                  go_wp2_with fail
                  all_goals
                    go_end0
                    exact ⟨rfl, _, permIn_trans _ _ _ _ _ HP1.out (halves (by omega) (by omega) (by omega) HX.out HPa.out HSa.out (permIn_refl _ _ _) HS3.out).1, (halves (by omega) (by omega) (by omega) HX.out HPa.out HSa.out (permIn_refl _ _ _) HS3.out).2, S3.out⟩
                · have r1 : ¬ (mid : Int) < (mid : Int) + (m : Int) - (s : Int) := by omega
                  go_wp2_with fail
                  all_goals
                    go_end0
                    exact ⟨rfl, _, permIn_trans _ _ _ _ _ HP1.out (halves (by omega) (by omega) (by omega) HX.out HPa.out HSa.out (permIn_refl _ _ _) HS3.out).1, (halves (by omega) (by omega) (by omega) HX.out HPa.out HSa.out (permIn_refl _ _ _) HS3.out).2, S3.out⟩
            · have q1 : ¬ (a : Int) < (s : Int) := by omega
              by_cases hr1 : mid < t ∧ t < b
              · obtain ⟨hr2, hr3⟩ := hr1
                have r1 : (mid : Int) < (mid : Int) + (m : Int) - (s : Int) := by omega
                have r2 : (mid : Int) + (m : Int) - (s : Int) < (b : Int) := by omega
                have HI2 := ih.out mid t b d2 W4 (by omega) hr2 hr3 (by omega) (by omega) S3.out (fun i j hi hij hj => by rw [HPa.out.2.1 i (.inr (by omega)), HPa.out.2.1 j (.inr (by omega))]; exact HM.out i j hi hij hj) (fun i j hi hij hj => by rw [HPa.out.2.1 i (.inr (by omega)), HPa.out.2.1 j (.inr (by omega))]; exact HB.out i j hi hij hj)
                rw [Hts.out, hz2] at HI2
                replace HI2 := Lib.hid HI2
                go_wp2_with fail
                all_goals
                  refine HI2.out.mono ?_
                  rintro e w5 ⟨rfl, d3, hp3, hs3, S3'⟩
                  have S3 : Aside _ := S3'
                  have Hp3 := Lib.hid hp3
                  have Hs3 := Lib.hid hs3
                  clear hp3 hs3 S3' HI2
                  go_wp2_with fail
                  all_goals
                    go_end0
                    exact ⟨rfl, _, permIn_trans _ _ _ _ _ HP1.out (halves (by omega) (by omega) (by omega) HX.out HPa.out HSa.out Hp3.out Hs3.out).1, (halves (by omega) (by omega) (by omega) HX.out HPa.out HSa.out Hp3.out Hs3.out).2, S3.out⟩
              · have HS3 := Lib.hid (show SortedIn (ltOf cf) mid b d2 from by
                  have h1 : SortedIn (ltOf cf) mid t d2 := fun i j hi hij hj => by rw [HPa.out.2.1 i (.inr (by omega)), HPa.out.2.1 j (.inr (by omega))]; exact HM.out i j hi hij hj
                  have h2 : SortedIn (ltOf cf) t b d2 := fun i j hi hij hj => by rw [HPa.out.2.1 i (.inr (by omega)), HPa.out.2.1 j (.inr (by omega))]; exact HB.out i j hi hij hj
                  by_cases e : t = mid
                  · rw [e] at h2
                    exact h2
                  · have e2 : t = b := by omega
                    rw [e2] at h1
                    exact h1)
                by_cases hr2 : mid < t
                · have r1 : (mid : Int) < (mid : Int) + (m : Int) - (s : Int) := by omega
                  have r2 : ¬ (mid : Int) + (m : Int) - (s : Int) < (b : Int) := by omega
                  go_wp2_with fail
                  all_goals
                    go_end0
                    exact ⟨rfl, _, permIn_trans _ _ _ _ _ HP1.out (halves (by omega) (by omega) (by omega) HX.out HPa.out HSa.out (permIn_refl _ _ _) HS3.out).1, (halves (by omega) (by omega) (by omega) HX.out HPa.out HSa.out (permIn_refl _ _ _) HS3.out).2, S3.out⟩
                · have r1 : ¬ (mid : Int) < (mid : Int) + (m : Int) - (s : Int) := by omega
                  go_wp2_with fail
                  all_goals
                    go_end0
                    exact ⟨rfl, _, permIn_trans _ _ _ _ _ HP1.out (halves (by omega) (by omega) (by omega) HX.out HPa.out HSa.out (permIn_refl _ _ _) HS3.out).1, (halves (by omega) (by omega) (by omega) HX.out HPa.out HSa.out (permIn_refl _ _ _) HS3.out).2, S3.out⟩
        · have Hr := Lib.hid (show Rot s m t d d from rot_idO (by omega))
          obtain ⟨d1, hd1⟩ : ∃ d1, d1 = d := ⟨_, rfl⟩
          obtain ⟨W3, hW3⟩ : ∃ W3, W3 = wr := ⟨_, rfl⟩
          have S1' : Aside (SWK Opr.cells k6 w0 blk off d1 W3) := by rw [hd1, hW3]; exact S1
          replace Hr : Hid (Rot s m t d d1) := by rw [hd1]; exact Hr
          rw [← hW3]
          clear S1 hd1 hW3
          have S1 : Aside _ := S1'
          clear S1'
          by_cases hm1 : s < m
          · have b1 : (s : Int) < (m : Int) := by omega
            have b2 : ¬ (m : Int) < (mid : Int) + (m : Int) - (s : Int) := by omega
            obtain ⟨hp1', hp2', hp3', hp4', hp5'⟩ := rot_parts hO H1.out H2.out has (by omega) (by omega) (by omega) Hr.out HLH.out.1 HLH.out.2
            have HP1 := Lib.hid (permIn_mono _ _ _ _ _ _ has (show t ≤ b by omega) (by omega) Hr.out.perm)
            rw [show s + (t - m) = mid by omega] at hp2' hp3' hp5'
            have HA := Lib.hid hp1'
            have HAm := Lib.hid hp2'
            have HM := Lib.hid hp3'
            have HB := Lib.hid hp4'
            have HX := Lib.hid hp5'
            have hz1 : d1.size = d.size := Hr.out.perm.1
            clear hp1' hp2' hp3' hp4' hp5'
            by_cases hl1 : a < s ∧ s < mid
            · obtain ⟨hl2, hl3⟩ := hl1
              have q1 : (a : Int) < (s : Int) := by omega
              have q2 : (s : Int) < (mid : Int) := by omega
              have HI1 := ih.out a s mid d1 W3 (by omega) hl2 hl3 (by omega) (by omega) S1.out HA.out HAm.out
              rw [hz1] at HI1
              replace HI1 := Lib.hid HI1
              go_wp2_with fail
              all_goals
                refine HI1.out.mono ?_
                rintro e W4 ⟨rfl, d2, hp2, hs2, S3'⟩
                have S3 : Aside _ := S3'
                have HPa := Lib.hid hp2
                have HSa := Lib.hid hs2
                have hz2 : d2.size = d.size := hp2.1.trans hz1
                clear hp2 hs2 S3' S1 HI1
                by_cases hr1 : mid < t ∧ t < b
                · obtain ⟨hr2, hr3⟩ := hr1
                  have r1 : (mid : Int) < (mid : Int) + (m : Int) - (s : Int) := by omega
                  have r2 : (mid : Int) + (m : Int) - (s : Int) < (b : Int) := by omega
                  have HI2 := ih.out mid t b d2 W4 (by omega) hr2 hr3 (by omega) (by omega) S3.out (fun i j hi hij hj => by rw [HPa.out.2.1 i (.inr (by omega)), HPa.out.2.1 j (.inr (by omega))]; exact HM.out i j hi hij hj) (fun i j hi hij hj => by rw [HPa.out.2.1 i (.inr (by omega)), HPa.out.2.1 j (.inr (by omega))]; exact HB.out i j hi hij hj)
                  rw [Hts.out, hz2] at HI2
                  replace HI2 := Lib.hid HI2
                  go_wp2_with fail
                  all_goals
                    refine HI2.out.mono ?_
                    rintro e w5 ⟨rfl, d3, hp3, hs3, S3'⟩
                    have S3 : Aside _ := S3'
                    have Hp3 := Lib.hid hp3
                    have Hs3 := Lib.hid hs3
                    clear hp3 hs3 S3' HI2
                    go_wp2_with fail
                    all_goals
                      go_end0
                      exact ⟨rfl, _, permIn_trans _ _ _ _ _ HP1.out (halves (by omega) (by omega) (by omega) HX.out HPa.out HSa.out Hp3.out Hs3.out).1, (halves (by omega) (by omega) (by omega) HX.out HPa.out HSa.out Hp3.out Hs3.out).2, S3.out⟩
                · have HS3 := Lib.hid (show SortedIn (ltOf cf) mid b d2 from by
                    have h1 : SortedIn (ltOf cf) mid t d2 := fun i j hi hij hj => by rw [HPa.out.2.1 i (.inr (by omega)), HPa.out.2.1 j (.inr (by omega))]; exact HM.out i j hi hij hj
                    have h2 : SortedIn (ltOf cf) t b d2 := fun i j hi hij hj => by rw [HPa.out.2.1 i (.inr (by omega)), HPa.out.2.1 j (.inr (by omega))]; exact HB.out i j hi hij hj
                    by_cases e : t = mid
                    · rw [e] at h2
                      exact h2
                    · have e2 : t = b := by omega
                      rw [e2] at h1
                      exact h1)
                  by_cases hr2 : mid < t
                  · have r1 : (mid : Int) < (mid : Int) + (m : Int) - (s : Int) := by omega
                    have r2 : ¬ (mid : Int) + (m : Int) - (s : Int) < (b : Int) := by omega
                    go_wp2_with fail
                    all_goals
                      go_end0
                      exact ⟨rfl, _, permIn_trans _ _ _ _ _ HP1.out (halves (by omega) (by omega) (by omega) HX.out HPa.out HSa.out (permIn_refl _ _ _) HS3.out).1, (halves (by omega) (by omega) (by omega) HX.out HPa.out HSa.out (permIn_refl _ _ _) HS3.out).2, S3.out⟩
                  · have r1 : ¬ (mid : Int) < (mid : Int) + (m : Int) - (s : Int) := by omega
                    go_wp2_with fail
                    all_goals
                      go_end0
                      exact ⟨rfl, _, permIn_trans _ _ _ _ _ HP1.out (halves (by omega) (by omega) (by omega) HX.out HPa.out HSa.out (permIn_refl _ _ _) HS3.out).1, (halves (by omega) (by omega) (by omega) HX.out HPa.out HSa.out (permIn_refl _ _ _) HS3.out).2, S3.out⟩
            · have HSa := Lib.hid (show SortedIn (ltOf cf) a mid d1 from by
                by_cases e : s = a
                · have h3 := HAm.out
                  rw [e] at h3
                  exact h3
                · have e2 : s = mid := by omega
                  have h3 := HA.out
                  rw [e2] at h3
                  exact h3)
              have HPa := Lib.hid (permIn_refl d1 a mid)
              obtain ⟨d2, hd2⟩ : ∃ d2, d2 = d1 := ⟨_, rfl⟩
              obtain ⟨W4, hW4⟩ : ∃ W4, W4 = W3 := ⟨_, rfl⟩
              have S3 : Aside (SWK Opr.cells k6 w0 blk off d2 W4) := by rw [hd2, hW4]; exact S1
              have hz2 : d2.size = d.size := by rw [hd2]; exact hz1
              replace HSa : Hid (SortedIn (ltOf cf) a mid d2) := by rw [hd2]; exact HSa
              replace HPa : Hid (PermIn a mid d1 d2) := by rw [hd2]; exact HPa
              rw [← hW4]
              clear S1 hd2 hW4
              by_cases hl2 : a < s
              · have q1 : (a : Int) < (s : Int) := by omega
                have q2 : ¬ (s : Int) < (mid : Int) := by omega
                by_cases hr1 : mid < t ∧ t < b
                · obtain ⟨hr2, hr3⟩ := hr1
                  have r1 : (mid : Int) < (mid : Int) + (m : Int) - (s : Int) := by omega
                  have r2 : (mid : Int) + (m : Int) - (s : Int) < (b : Int) := by omega
                  have HI2 := ih.out mid t b d2 W4 (by omega) hr2 hr3 (by omega) (by omega) S3.out (fun i j hi hij hj => by rw [HPa.out.2.1 i (.inr (by omega)), HPa.out.2.1 j (.inr (by omega))]; exact HM.out i j hi hij hj) (fun i j hi hij hj => by rw [HPa.out.2.1 i (.inr (by omega)), HPa.out.2.1 j (.inr (by omega))]; exact HB.out i j hi hij hj)
                  rw [Hts.out, hz2] at HI2
                  replace HI2 := Lib.hid HI2
                  go_wp2_with fail
                  all_goals
                    refine HI2.out.mono ?_
                    rintro e w5 ⟨rfl, d3, hp3, hs3, S3'⟩
                    have S3 : Aside _ := S3'
                    have Hp3 := Lib.hid hp3
                    have Hs3 := Lib.hid hs3
                    clear hp3 hs3 S3' HI2
                    go_wp2_with fail
                    all_goals
                      go_end0
                      exact ⟨rfl, _, permIn_trans _ _ _ _ _ HP1.out (halves (by omega) (by omega) (by omega) HX.out HPa.out HSa.out Hp3.out Hs3.out).1, (halves (by omega) (by omega) (by omega) HX.out HPa.out HSa.out Hp3.out Hs3.out).2, S3.out⟩
                · have HS3 := Lib.hid (show SortedIn (ltOf cf) mid b d2 from by
                    have h1 : SortedIn (ltOf cf) mid t d2 := fun i j hi hij hj => by rw [HPa.out.2.1 i (.inr (by omega)), HPa.out.2.1 j (.inr (by omega))]; exact HM.out i j hi hij hj
                    have h2 : SortedIn (ltOf cf) t b d2 := fun i j hi hij hj => by rw [HPa.out.2.1 i (.inr (by omega)), HPa.out.2.1 j (.inr (by omega))]; exact HB.out i j hi hij hj
                    by_cases e : t = mid
                    · rw [e] at h2
                      exact h2
                    · have e2 : t = b := by omega
                      rw [e2] at h1
                      exact h1)
                  by_cases hr2 : mid < t
                  · have r1 : (mid : Int) < (mid : Int) + (m : Int) - (s : Int) := by omega
                    have r2 : ¬ (mid : Int) + (m : Int) - (s : Int) < (b : Int) := by omega
                    go_wp2_with fail
                    all_goals
                      go_end0
                      exact ⟨rfl, _, permIn_trans _ _ _ _ _ HP1.out (halves (by omega) (by omega) (by omega) HX.out HPa.out HSa.out (permIn_refl _ _ _) HS3.out).1, (halves (by omega) (by omega) (by omega) HX.out HPa.out HSa.out (permIn_refl _ _ _) HS3.out).2, S3.out⟩
                  · have r1 : ¬ (mid : Int) < (mid : Int) + (m : Int) - (s : Int) := by omega
                    go_wp2_with fail
                    all_goals
                      go_end0
                      exact ⟨rfl, _, permIn_trans _ _ _ _ _ HP1.out (halves (by omega) (by omega) (by omega) HX.out HPa.out HSa.out (permIn_refl _ _ _) HS3.out).1, (halves (by omega) (by omega) (by omega) HX.out HPa.out HSa.out (permIn_refl _ _ _) HS3.out).2, S3.out⟩
              · have q1 : ¬ (a : Int) < (s : Int) := by omega
                by_cases hr1 : mid < t ∧ t < b
                · obtain ⟨hr2, hr3⟩ := hr1
                  have r1 : (mid : Int) < (mid : Int) + (m : Int) - (s : Int) := by omega
                  have r2 : (mid : Int) + (m : Int) - (s : Int) < (b : Int) := by omega
                  have HI2 := ih.out mid t b d2 W4 (by omega) hr2 hr3 (by omega) (by omega) S3.out (fun i j hi hij hj => by rw [HPa.out.2.1 i (.inr (by omega)), HPa.out.2.1 j (.inr (by omega))]; exact HM.out i j hi hij hj) (fun i j hi hij hj => by rw [HPa.out.2.1 i (.inr (by omega)), HPa.out.2.1 j (.inr (by omega))]; exact HB.out i j hi hij hj)
                  rw [Hts.out, hz2] at HI2
                  replace HI2 := Lib.hid HI2
                  go_wp2_with fail
                  all_goals
                    refine HI2.out.mono ?_
                    rintro e w5 ⟨rfl, d3, hp3, hs3, S3'⟩
                    have S3 : Aside _ := S3'
                    have Hp3 := Lib.hid hp3
                    have Hs3 := Lib.hid hs3
                    clear hp3 hs3 S3' HI2
                    go_wp2_with fail
                    all_goals
                      go_end0
                      exact ⟨rfl, _, permIn_trans _ _ _ _ _ HP1.out (halves (by omega) (by omega) (by omega) HX.out HPa.out HSa.out Hp3.out Hs3.out).1, (halves (by omega) (by omega) (by omega) HX.out HPa.out HSa.out Hp3.out Hs3.out).2, S3.out⟩
                · have HS3 := Lib.hid (show SortedIn (ltOf cf) mid b d2 from by
                    have h1 : SortedIn (ltOf cf) mid t d2 := fun i j hi hij hj => by rw [HPa.out.2.1 i (.inr (by omega)), HPa.out.2.1 j (.inr (by omega))]; exact HM.out i j hi hij hj
                    have h2 : SortedIn (ltOf cf) t b d2 := fun i j hi hij hj => by rw [HPa.out.2.1 i (.inr (by omega)), HPa.out.2.1 j (.inr (by omega))]; exact HB.out i j hi hij hj
                    by_cases e : t = mid
                    · rw [e] at h2
                      exact h2
                    · have e2 : t = b := by omega
                      rw [e2] at h1
                      exact h1)
                  by_cases hr2 : mid < t
                  · have r1 : (mid : Int) < (mid : Int) + (m : Int) - (s : Int) := by omega
                    have r2 : ¬ (mid : Int) + (m : Int) - (s : Int) < (b : Int) := by omega
                    go_wp2_with fail
                    all_goals
                      go_end0
                      exact ⟨rfl, _, permIn_trans _ _ _ _ _ HP1.out (halves (by omega) (by omega) (by omega) HX.out HPa.out HSa.out (permIn_refl _ _ _) HS3.out).1, (halves (by omega) (by omega) (by omega) HX.out HPa.out HSa.out (permIn_refl _ _ _) HS3.out).2, S3.out⟩
                  · have r1 : ¬ (mid : Int) < (mid : Int) + (m : Int) - (s : Int) := by omega
                    go_wp2_with fail
                    all_goals
                      go_end0
                      exact ⟨rfl, _, permIn_trans _ _ _ _ _ HP1.out (halves (by omega) (by omega) (by omega) HX.out HPa.out HSa.out (permIn_refl _ _ _) HS3.out).1, (halves (by omega) (by omega) (by omega) HX.out HPa.out HSa.out (permIn_refl _ _ _) HS3.out).2, S3.out⟩
          · have b1 : ¬ (s : Int) < (m : Int) := by omega
            obtain ⟨hp1', hp2', hp3', hp4', hp5'⟩ := rot_parts hO H1.out H2.out has (by omega) (by omega) (by omega) Hr.out HLH.out.1 HLH.out.2
            have HP1 := Lib.hid (permIn_mono _ _ _ _ _ _ has (show t ≤ b by omega) (by omega) Hr.out.perm)
            rw [show s + (t - m) = mid by omega] at hp2' hp3' hp5'
            have HA := Lib.hid hp1'
            have HAm := Lib.hid hp2'
            have HM := Lib.hid hp3'
            have HB := Lib.hid hp4'
            have HX := Lib.hid hp5'
            have hz1 : d1.size = d.size := Hr.out.perm.1
            clear hp1' hp2' hp3' hp4' hp5'
            by_cases hl1 : a < s ∧ s < mid
            · obtain ⟨hl2, hl3⟩ := hl1
              have q1 : (a : Int) < (s : Int) := by omega
              have q2 : (s : Int) < (mid : Int) := by omega
              have HI1 := ih.out a s mid d1 W3 (by omega) hl2 hl3 (by omega) (by omega) S1.out HA.out HAm.out
              rw [hz1] at HI1
              replace HI1 := Lib.hid HI1
              go_wp2_with fail
              all_goals
                refine HI1.out.mono ?_
                rintro e W4 ⟨rfl, d2, hp2, hs2, S3'⟩
                have S3 : Aside _ := S3'
                have HPa := Lib.hid hp2
                have HSa := Lib.hid hs2
                have hz2 : d2.size = d.size := hp2.1.trans hz1
                clear hp2 hs2 S3' S1 HI1
                by_cases hr1 : mid < t ∧ t < b
                · obtain ⟨hr2, hr3⟩ := hr1
                  have r1 : (mid : Int) < (mid : Int) + (m : Int) - (s : Int) := by omega
                  have r2 : (mid : Int) + (m : Int) - (s : Int) < (b : Int) := by omega
                  have HI2 := ih.out mid t b d2 W4 (by omega) hr2 hr3 (by omega) (by omega) S3.out (fun i j hi hij hj => by rw [HPa.out.2.1 i (.inr (by omega)), HPa.out.2.1 j (.inr (by omega))]; exact HM.out i j hi hij hj) (fun i j hi hij hj => by rw [HPa.out.2.1 i (.inr (by omega)), HPa.out.2.1 j (.inr (by omega))]; exact HB.out i j hi hij hj)
                  rw [Hts.out, hz2] at HI2
                  replace HI2 := Lib.hid HI2
                  go_wp2_with fail
                  all_goals
                    refine HI2.out.mono ?_
                    rintro e w5 ⟨rfl, d3, hp3, hs3, S3'⟩
                    have S3 : Aside _ := S3'
                    have Hp3 := Lib.hid hp3
                    have Hs3 := Lib.hid hs3
                    clear hp3 hs3 S3' HI2
                    go_wp2_with fail
                    all_goals
                      go_end0
                      exact ⟨rfl, _, permIn_trans _ _ _ _ _ HP1.out (halves (by omega) (by omega) (by omega) HX.out HPa.out HSa.out Hp3.out Hs3.out).1, (halves (by omega) (by omega) (by omega) HX.out HPa.out HSa.out Hp3.out Hs3.out).2, S3.out⟩
                · have HS3 := Lib.hid (show SortedIn (ltOf cf) mid b d2 from by
                    have h1 : SortedIn (ltOf cf) mid t d2 := fun i j hi hij hj => by rw [HPa.out.2.1 i (.inr (by omega)), HPa.out.2.1 j (.inr (by omega))]; exact HM.out i j hi hij hj
                    have h2 : SortedIn (ltOf cf) t b d2 := fun i j hi hij hj => by rw [HPa.out.2.1 i (.inr (by omega)), HPa.out.2.1 j (.inr (by omega))]; exact HB.out i j hi hij hj
                    by_cases e : t = mid
                    · rw [e] at h2
                      exact h2
                    · have e2 : t = b := by omega
                      rw [e2] at h1
                      exact h1)
                  by_cases hr2 : mid < t
                  · have r1 : (mid : Int) < (mid : Int) + (m : Int) - (s : Int) := by omega
                    have r2 : ¬ (mid : Int) + (m : Int) - (s : Int) < (b : Int) := by omega
                    go_wp2_with fail
                    all_goals
                      go_end0
                      exact ⟨rfl, _, permIn_trans _ _ _ _ _ HP1.out (halves (by omega) (by omega) (by omega) HX.out HPa.out HSa.out (permIn_refl _ _ _) HS3.out).1, (halves (by omega) (by omega) (by omega) HX.out HPa.out HSa.out (permIn_refl _ _ _) HS3.out).2, S3.out⟩
                  · have r1 : ¬ (mid : Int) < (mid : Int) + (m : Int) - (s : Int) := by omega
                    go_wp2_with fail
                    all_goals
                      go_end0
                      exact ⟨rfl, _, permIn_trans _ _ _ _ _ HP1.out (halves (by omega) (by omega) (by omega) HX.out HPa.out HSa.out (permIn_refl _ _ _) HS3.out).1, (halves (by omega) (by omega) (by omega) HX.out HPa.out HSa.out (permIn_refl _ _ _) HS3.out).2, S3.out⟩
            · have HSa := Lib.hid (show SortedIn (ltOf cf) a mid d1 from by
                by_cases e : s = a
                · have h3 := HAm.out
                  rw [e] at h3
                  exact h3
                · have e2 : s = mid := by omega
                  have h3 := HA.out
                  rw [e2] at h3
                  exact h3)
              have HPa := Lib.hid (permIn_refl d1 a mid)
              obtain ⟨d2, hd2⟩ : ∃ d2, d2 = d1 := ⟨_, rfl⟩
              obtain ⟨W4, hW4⟩ : ∃ W4, W4 = W3 := ⟨_, rfl⟩
              have S3 : Aside (SWK Opr.cells k6 w0 blk off d2 W4) := by rw [hd2, hW4]; exact S1
              have hz2 : d2.size = d.size := by rw [hd2]; exact hz1
              replace HSa : Hid (SortedIn (ltOf cf) a mid d2) := by rw [hd2]; exact HSa
              replace HPa : Hid (PermIn a mid d1 d2) := by rw [hd2]; exact HPa
              rw [← hW4]
              clear S1 hd2 hW4
              by_cases hl2 : a < s
              · have q1 : (a : Int) < (s : Int) := by omega
                have q2 : ¬ (s : Int) < (mid : Int) := by omega
                by_cases hr1 : mid < t ∧ t < b
                · obtain ⟨hr2, hr3⟩ := hr1
                  have r1 : (mid : Int) < (mid : Int) + (m : Int) - (s : Int) := by omega
                  have r2 : (mid : Int) + (m : Int) - (s : Int) < (b : Int) := by omega
                  have HI2 := ih.out mid t b d2 W4 (by omega) hr2 hr3 (by omega) (by omega) S3.out (fun i j hi hij hj => by rw [HPa.out.2.1 i (.inr (by omega)), HPa.out.2.1 j (.inr (by omega))]; exact HM.out i j hi hij hj) (fun i j hi hij hj => by rw [HPa.out.2.1 i (.inr (by omega)), HPa.out.2.1 j (.inr (by omega))]; exact HB.out i j hi hij hj)
                  rw [Hts.out, hz2] at HI2
                  replace HI2 := Lib.hid HI2
                  go_wp2_with fail
                  all_goals
                    refine HI2.out.mono ?_
                    rintro e w5 ⟨rfl, d3, hp3, hs3, S3'⟩
                    have S3 : Aside _ := S3'
                    have Hp3 := Lib.hid hp3
                    have Hs3 := Lib.hid hs3
                    clear hp3 hs3 S3' HI2
                    go_wp2_with fail
                    all_goals
                      go_end0
                      exact ⟨rfl, _, permIn_trans _ _ _ _ _ HP1.out (halves (by omega) (by omega) (by omega) HX.out HPa.out HSa.out Hp3.out Hs3.out).1, (halves (by omega) (by omega) (by omega) HX.out HPa.out HSa.out Hp3.out Hs3.out).2, S3.out⟩
                · have HS3 := Lib.hid (show SortedIn (ltOf cf) mid b d2 from by
                    have h1 : SortedIn (ltOf cf) mid t d2 := fun i j hi hij hj => by rw [HPa.out.2.1 i (.inr (by omega)), HPa.out.2.1 j (.inr (by omega))]; exact HM.out i j hi hij hj
                    have h2 : SortedIn (ltOf cf) t b d2 := fun i j hi hij hj => by rw [HPa.out.2.1 i (.inr (by omega)), HPa.out.2.1 j (.inr (by omega))]; exact HB.out i j hi hij hj
                    by_cases e : t = mid
                    · rw [e] at h2
                      exact h2
                    · have e2 : t = b := by omega
                      rw [e2] at h1
                      exact h1)
                  by_cases hr2 : mid < t
                  · have r1 : (mid : Int) < (mid : Int) + (m : Int) - (s : Int) := by omega
                    have r2 : ¬ (mid : Int) + (m : Int) - (s : Int) < (b : Int) := by omega
                    go_wp2_with fail
                    all_goals
                      go_end0
                      exact ⟨rfl, _, permIn_trans _ _ _ _ _ HP1.out (halves (by omega) (by omega) (by omega) HX.out HPa.out HSa.out (permIn_refl _ _ _) HS3.out).1, (halves (by omega) (by omega) (by omega) HX.out HPa.out HSa.out (permIn_refl _ _ _) HS3.out).2, S3.out⟩
                  · have r1 : ¬ (mid : Int) < (mid : Int) + (m : Int) - (s : Int) := by omega
                    go_wp2_with fail
                    all_goals
                      go_end0
                      exact ⟨rfl, _, permIn_trans _ _ _ _ _ HP1.out (halves (by omega) (by omega) (by omega) HX.out HPa.out HSa.out (permIn_refl _ _ _) HS3.out).1, (halves (by omega) (by omega) (by omega) HX.out HPa.out HSa.out (permIn_refl _ _ _) HS3.out).2, S3.out⟩
              · have q1 : ¬ (a : Int) < (s : Int) := by omega
                by_cases hr1 : mid < t ∧ t < b
                · obtain ⟨hr2, hr3⟩ := hr1
                  have r1 : (mid : Int) < (mid : Int) + (m : Int) - (s : Int) := by omega
                  have r2 : (mid : Int) + (m : Int) - (s : Int) < (b : Int) := by omega
                  have HI2 := ih.out mid t b d2 W4 (by omega) hr2 hr3 (by omega) (by omega) S3.out (fun i j hi hij hj => by rw [HPa.out.2.1 i (.inr (by omega)), HPa.out.2.1 j (.inr (by omega))]; exact HM.out i j hi hij hj) (fun i j hi hij hj => by rw [HPa.out.2.1 i (.inr (by omega)), HPa.out.2.1 j (.inr (by omega))]; exact HB.out i j hi hij hj)
                  rw [Hts.out, hz2] at HI2
                  replace HI2 := Lib.hid HI2
                  go_wp2_with fail
                  all_goals
                    refine HI2.out.mono ?_
                    rintro e w5 ⟨rfl, d3, hp3, hs3, S3'⟩
                    have S3 : Aside _ := S3'
                    have Hp3 := Lib.hid hp3
                    have Hs3 := Lib.hid hs3
                    clear hp3 hs3 S3' HI2
                    go_wp2_with fail
                    all_goals
                      go_end0
                      exact ⟨rfl, _, permIn_trans _ _ _ _ _ HP1.out (halves (by omega) (by omega) (by omega) HX.out HPa.out HSa.out Hp3.out Hs3.out).1, (halves (by omega) (by omega) (by omega) HX.out HPa.out HSa.out Hp3.out Hs3.out).2, S3.out⟩
                · have HS3 := Lib.hid (show SortedIn (ltOf cf) mid b d2 from by
                    have h1 : SortedIn (ltOf cf) mid t d2 := fun i j hi hij hj => by rw [HPa.out.2.1 i (.inr (by omega)), HPa.out.2.1 j (.inr (by omega))]; exact HM.out i j hi hij hj
                    have h2 : SortedIn (ltOf cf) t b d2 := fun i j hi hij hj => by rw [HPa.out.2.1 i (.inr (by omega)), HPa.out.2.1 j (.inr (by omega))]; exact HB.out i j hi hij hj
                    by_cases e : t = mid
                    · rw [e] at h2
                      exact h2
                    · have e2 : t = b := by omega
                      rw [e2] at h1
                      exact h1)
                  by_cases hr2 : mid < t
                  · have r1 : (mid : Int) < (mid : Int) + (m : Int) - (s : Int) := by omega
                    have r2 : ¬ (mid : Int) + (m : Int) - (s : Int) < (b : Int) := by omega
                    go_wp2_with fail
                    all_goals
                      go_end0
                      exact ⟨rfl, _, permIn_trans _ _ _ _ _ HP1.out (halves (by omega) (by omega) (by omega) HX.out HPa.out HSa.out (permIn_refl _ _ _) HS3.out).1, (halves (by omega) (by omega) (by omega) HX.out HPa.out HSa.out (permIn_refl _ _ _) HS3.out).2, S3.out⟩
                  · have r1 : ¬ (mid : Int) < (mid : Int) + (m : Int) - (s : Int) := by omega
                    go_wp2_with fail
                    all_goals
                      go_end0
                      exact ⟨rfl, _, permIn_trans _ _ _ _ _ HP1.out (halves (by omega) (by omega) (by omega) HX.out HPa.out HSa.out (permIn_refl _ _ _) HS3.out).1, (halves (by omega) (by omega) (by omega) HX.out HPa.out HSa.out (permIn_refl _ _ _) HS3.out).2, S3.out⟩

theorem sym_anyO (k6 : Nat) (h6 : k6 = 11) (cf : Opr → Opr → Int) (hO : SWO (ltOf cf)) (blk off cap : Nat) (d0 : Array Opr) (w0 : World) (hcmp : CmpLays Tryz.prog 22 #[] Opr.cells k6 cf blk off d0.size w0) (R : RowK Opr.cells k6 w0 blk off d0) (hsz : d0.size < 4611686018427387904) :
    ∀ (N a m b : Nat) (d : Array Opr) (w : World), b - a < N → a < m → m < b → b ≤ d.size → d0.size = d.size → SWK Opr.cells k6 w0 blk off d w → SortedIn (ltOf cf) a m d → SortedIn (ltOf cf) m b d →
    Calls Tryz.prog 73 #[.slice (some ⟨blk, off, none⟩) d.size cap, .int .i64 a, .int .i64 m, .int .i64 b, .func (.func 22) #[] #[]] w fun e w' => e = .returned (.tuple #[]) ∧ ∃ d', PermIn a b d d' ∧ SortedIn (ltOf cf) a b d' ∧ SWK Opr.cells k6 w0 blk off d' w' := by
  intro N
  induction N with
  | zero => intro a m b d w h; omega
  | succ N IH =>
    intro a m b d w hN ham hmb hb hs S h1 h2
    by_cases e1 : m = a + 1
    · subst e1
      have := sym_oneO k6 h6 cf hO blk off cap a b d0 d w0 w hcmp R hs S hmb hb (by omega) h2
      rwa [show (a : Int) + 1 = ((a + 1 : Nat) : Int) by omega] at this
    · by_cases e2 : b = m + 1
      · subst e2
        have := sym_lastO k6 h6 cf hO blk off cap a m d0 d w0 w hcmp R hs S (by omega) hb (by omega) h1
        rwa [show (m : Int) + 1 = ((m + 1 : Nat) : Int) by omega] at this
      · exact sym_stepO k6 h6 cf hO blk off cap a m b d0 d w0 w hcmp R hs S (by omega) (by omega) hb (by omega) h1 h2 fun a' m' b' d' W h3 h4 h5 h7 h8 S' h9 h10 => IH a' m' b' d' W (by omega) h4 h5 h7 h8 S' h9 h10
theorem enterIO : ∀ args w, (callFunc 22 args).run Tryz.prog w = .ok (.enter 22 args) w := enters_of Tryz.func22 (by kernel_rfl) rfl
theorem ins_wO (k6 : Nat) (h6 : k6 = 11) (cf : Opr → Opr → Int) (hO : SWO (ltOf cf)) (blk off cap : Nat) (d0 : Array Opr) (w0 : World) (hcmp : CmpLays Tryz.prog 22 #[] Opr.cells k6 cf blk off d0.size w0) (R : RowK Opr.cells k6 w0 blk off d0) (hsz : d0.size < 4611686018427387904) (a b : Nat) (d : Array Opr) (w : World) (hs : d0.size = d.size) (S : SWK Opr.cells k6 w0 blk off d w) (hab : a ≤ b) (hb : b ≤ d.size) :
    Calls Tryz.prog 72 #[.slice (some ⟨blk, off, none⟩) d.size cap, .int .i64 a, .int .i64 b, .func (.func 22) #[] #[]] w fun e w' => e = .returned (.tuple #[]) ∧ ∃ d', PermIn a b d d' ∧ SortedIn (ltOf cf) a b d' ∧ SWK Opr.cells k6 w0 blk off d' w' := by
  have hi := insertionSort_holds hO d a b hab hb
  have hC : CmpLays Tryz.prog 22 #[] Opr.cells k6 cf blk off d.size w := fun m os dk hdk x y => by
    obtain ⟨n0, os0, rfl⟩ := S
    rw [sortWorldK_on Opr.cells k6 w0 blk off n0 m d dk os0 os R.hblk hdk]
    exact hcmp _ _ dk (by omega) x y
  have hcon := AnyQ.insertionSortCmpFunc Tryz.insSortO k6 aggIO (sizeIO h6) Opr.cells R.hk R.h1 cf 22 #[] blk off cap a b d w enterIO hC (S.holds R.hblk R.hH hs.symm) (S.lt R.hblk) hab hb (by omega)
  change Calls Tryz.prog 72 _ _ _ at hcon
  refine hcon.mono ?_
  rintro e w' ⟨rfl, n, os, rfl⟩
  exact ⟨rfl, _, hi.1, hi.2, S.on R.hblk n _ os hi.1.1⟩

/-! ### runs in order -/
def BFO (lt : Opr → Opr → Bool) (s n : Nat) (d : Array Opr) (x : Nat) : Prop := ∀ j, SortedIn lt (x + j * s) (min (x + j * s + s) n) d
def DoneBO (lt : Opr → Opr → Bool) (s : Nat) (d : Array Opr) (x : Nat) : Prop := ∃ k, x = k * s ∧ ∀ j, j < k → SortedIn lt (j * s) (j * s + s) d
section
variable {lt : Opr → Opr → Bool} {s n x : Nat} {d d' : Array Opr}
theorem bf_of_doneO (h : DoneBO lt s d x) (hx : x ≤ n) (hn : n < x + s) (hl : SortedIn lt x n d) : BFO lt s n d 0 := fun j => by
  obtain ⟨k, rfl, hk⟩ := h
  rw [Nat.zero_add]
  rcases Nat.lt_trichotomy j k with h | h | h
  · have h1 : (j + 1) * s ≤ k * s := Nat.mul_le_mul_right s h
    rw [Nat.succ_mul] at h1
    rw [Nat.min_eq_left (by omega)]
    exact hk j h
  · subst h
    rw [Nat.min_eq_right (by omega)]
    exact hl
  · have h1 : (k + 1) * s ≤ j * s := Nat.mul_le_mul_right s h
    rw [Nat.succ_mul] at h1
    have h2 := Nat.min_le_right (j * s + s) n
    exact sorted_none (by omega)
theorem done_noneO : DoneBO lt s d 0 := ⟨0, by simp, fun j h => by omega⟩
theorem sorted_keptO {a b lo hi : Nat} (h : SortedIn lt a b d) (hp : PermIn lo hi d d') (ho : b ≤ lo ∨ hi ≤ a) : SortedIn lt a b d' := fun i j hi' hij hj => by
  rw [hp.2.1 i (by omega), hp.2.1 j (by omega)]
  exact h i j hi' hij hj
theorem done_nextO (h : DoneBO lt s d x) (hp : PermIn x (x + s) d d') (hl : SortedIn lt x (x + s) d') : DoneBO lt s d' (x + s) := by
  obtain ⟨k, rfl, hk⟩ := h
  refine ⟨k + 1, (Nat.succ_mul k s).symm, fun j hj => ?_⟩
  by_cases e : j = k
  · rw [e]
    exact hl
  · have h1 : (j + 1) * s ≤ k * s := Nat.mul_le_mul_right s (by omega)
    rw [Nat.succ_mul] at h1
    exact sorted_keptO (hk j (by omega)) hp (.inl (by omega))
theorem done_keptO (h : DoneBO lt s d x) (hp : PermIn x n d d') : DoneBO lt s d' x := by
  obtain ⟨k, rfl, hk⟩ := h
  refine ⟨k, rfl, fun j hj => ?_⟩
  have h1 : (j + 1) * s ≤ k * s := Nat.mul_le_mul_right s hj
  rw [Nat.succ_mul] at h1
  exact sorted_keptO (hk j hj) hp (.inl (by omega))
theorem bf_nextO {y : Nat} (h : BFO lt s n d x) (hp : PermIn x y d d') (hy : y = x + 2 * s) : BFO lt s n d' y := fun j => by
  have h1 := h (j + 2)
  rw [Nat.add_mul, show x + (j * s + 2 * s) = y + j * s by omega] at h1
  exact sorted_keptO h1 hp (.inr (by omega))
theorem bf_firstO (h : BFO lt s n d x) (hn : x + s ≤ n) : SortedIn lt x (x + s) d := by
  have h1 := h 0
  rw [Nat.zero_mul, Nat.add_zero, Nat.min_eq_left hn] at h1
  exact h1
theorem bf_secondO (h : BFO lt s n d x) (hn : x + s + s ≤ n) : SortedIn lt (x + s) (x + s + s) d := by
  have h1 := h 1
  rw [Nat.one_mul, Nat.min_eq_left hn] at h1
  exact h1
theorem bf_second'O (h : BFO lt s n d x) (hn : n ≤ x + s + s) : SortedIn lt (x + s) n d := by
  have h1 := h 1
  rw [Nat.one_mul, Nat.min_eq_right hn] at h1
  exact h1
theorem bf_lastO (h : BFO lt s n d x) (hn : n ≤ x + s) : SortedIn lt x n d := by
  have h1 := h 0
  rw [Nat.zero_mul, Nat.add_zero, Nat.min_eq_right hn] at h1
  exact h1
end
set_option maxRecDepth 1000000 in
set_option maxHeartbeats 4000000 in
theorem stable_wO (k6 : Nat) (h6 : k6 = 11) (cf : Opr → Opr → Int) (hO : SWO (ltOf cf)) (blk off cap : Nat) (d0 : Array Opr) (w0 : World) (hcmp : CmpLays Tryz.prog 22 #[] Opr.cells k6 cf blk off d0.size w0) (R : RowK Opr.cells k6 w0 blk off d0) (hsz : d0.size < 4611686018427387904) (d : Array Opr) (w : World) (hs : d0.size = d.size) (S : SWK Opr.cells k6 w0 blk off d w) :
    Calls Tryz.prog 52 #[.slice (some ⟨blk, off, none⟩) d.size cap, .int .i64 d.size, .func (.func 22) #[] #[]] w fun e w' => e = .returned (.tuple #[]) ∧ ∃ d', PermIn 0 d.size d d' ∧ SortedIn (ltOf cf) 0 d.size d' ∧ SWK Opr.cells k6 w0 blk off d' w' := by
  have HI := Lib.hid fun a b d w hs S hab hb => ins_wO k6 h6 cf hO blk off cap d0 w0 hcmp R hsz a b d w hs S hab hb
  have HM := Lib.hid fun a m b d w hm hmb hb hs S h1 h2 => sym_anyO k6 h6 cf hO blk off cap d0 w0 hcmp R hsz (b - a + 1) a m b d w (by omega) hm hmb hb hs S h1 h2
  have S0 : Aside (SWK Opr.cells k6 w0 blk off d w) := S
  clear h6 hcmp S
  obtain ⟨n, hn⟩ : ∃ n, n = d.size := ⟨_, rfl⟩
  rw [← hn]
  have Hn := Lib.hid hn
  have hn62 : n < 4611686018427387904 := by omega
  have hsn : d0.size = n := by omega
  clear hn hs hsz
  go_enter Tryz.func52, Tryz.ntmps52
  go_wp2_with fail
  go_loopw [7, 8] (fun i j wr => ∃ (x : Nat) (dk : Array Opr), i = .int .i64 x ∧ j = .int .i64 ((x : Int) + 20) ∧ x ≤ n ∧ Hid (dk.size = n ∧ PermIn 0 n d dk ∧ DoneBO (ltOf cf) 20 dk x) ∧ Aside (SWK Opr.cells k6 w0 blk off dk wr)) (fun i _ _ => n - (RowKit.intOf i).toNat)
  case atStart => exact ⟨0, d, rfl, rfl, Nat.zero_le _, Lib.hid ⟨Hn.out.symm, permIn_refl _ _ _, done_noneO⟩, S0⟩
  case round =>
    clear S0
    obtain ⟨x, dk, rfl, rfl, hxn, HD, S1⟩ := hrel
    by_cases hlt : x + 20 ≤ n
    · have hlti : (x : Int) + 20 ≤ (n : Int) := by omega
      have HC := HI.out x (x + 20) dk wr (by have := HD.out.1; omega) S1.out (by omega) (by have := HD.out.1; omega)
      rw [HD.out.1, show ((x + 20 : Nat) : Int) = (x : Int) + 20 by omega] at HC
      replace HC := Lib.hid HC
      go_wp2_with fail
      refine HC.out.mono ?_
      rintro e w2 ⟨rfl, d2, hp, hl, S2'⟩
      have S2 : Aside _ := S2'
      have HD2 := Lib.hid (show d2.size = n ∧ PermIn 0 n d d2 ∧ DoneBO (ltOf cf) 20 d2 (x + 20) from ⟨hp.1.trans HD.out.1, permIn_trans _ _ _ _ _ HD.out.2.1 (permIn_mono _ _ _ _ _ _ (Nat.zero_le _) hlt (by have := HD.out.1; omega) hp), done_nextO HD.out.2.2 hp hl⟩)
      clear S1 HD HC hp hl S2'
      go_wp2_with fail
      go_roundw
      case rel => exact ⟨x + 20, d2, by go_num, by first | rfl | go_num | (congr 1; omega), hlt, HD2, S2⟩
      case measure => simp [RowKit.intOf]; omega
    · have hlti : ¬ (x : Int) + 20 ≤ (n : Int) := by omega
      have HC := HI.out x n dk wr (by have := HD.out.1; omega) S1.out hxn (by have := HD.out.1; omega)
      rw [HD.out.1] at HC
      replace HC := Lib.hid HC
      go_wp2_with fail
      refine HC.out.mono ?_
      rintro e w2 ⟨rfl, d2, hp, hl, S2'⟩
      have S2 : Aside (SWK Opr.cells k6 w0 blk off d2 w2) := S2'
      have HB := Lib.hid (show d2.size = n ∧ PermIn 0 n d d2 ∧ BFO (ltOf cf) 20 n d2 0 from ⟨hp.1.trans HD.out.1, permIn_trans _ _ _ _ _ HD.out.2.1 (permIn_mono _ _ _ _ _ _ (Nat.zero_le _) (Nat.le_refl _) (by have := HD.out.1; omega) hp), bf_of_doneO (done_keptO HD.out.2.2 hp) hxn (by omega) hl⟩)
      clear S1 HD HC hp hl S2' hlti hlt
      go_wp2_with fail
      go_loopw [6, 7, 8, 9] (fun s _ _ _ wr => ∃ (sz : Nat) (dk : Array Opr), s = .int .i64 sz ∧ 0 < sz ∧ sz < 9223372036854775807 ∧ Hid (dk.size = n ∧ PermIn 0 n d dk ∧ BFO (ltOf cf) sz n dk 0) ∧ Aside (SWK Opr.cells k6 w0 blk off dk wr)) (fun s _ _ _ _ => n - (RowKit.intOf s).toNat)
      case atStart => exact ⟨20, d2, rfl, by omega, by omega, HB, S2⟩
      case round =>
        clear S2 HB
        obtain ⟨sz, dk, rfl, hs0, hs63, HB, S1⟩ := hrel
        by_cases hlt : sz < n
        · have hlti : (sz : Int) < (n : Int) := by omega
          obtain ⟨W1, rfl⟩ : ∃ W : World, W = wr := ⟨_, rfl⟩
          go_wp2_with fail
          go_loopw [7, 8] (fun i j wr => ∃ (x : Nat) (dk : Array Opr), i = .int .i64 x ∧ j = .int .i64 ((x : Int) + 2 * (sz : Int)) ∧ x ≤ n ∧ Hid (dk.size = n ∧ PermIn 0 n d dk ∧ DoneBO (ltOf cf) (2 * sz) dk x ∧ BFO (ltOf cf) sz n dk x) ∧ Aside (SWK Opr.cells k6 w0 blk off dk wr)) (fun i _ _ => n - (RowKit.intOf i).toNat)
          case atStart => exact ⟨0, dk, rfl, by first | rfl | (congr 1; omega), Nat.zero_le _, Lib.hid ⟨HB.out.1, HB.out.2.1, done_noneO, HB.out.2.2⟩, S1⟩
          case round =>
            clear S1 HB
            obtain ⟨x, dk, rfl, rfl, hxn, HD, S1⟩ := hrel
            by_cases hle : x + 2 * sz ≤ n
            · have hlei : (x : Int) + 2 * (sz : Int) ≤ (n : Int) := by omega
              have HC := HM.out x (x + sz) (x + 2 * sz) dk wr (by omega) (by omega) (by have := HD.out.1; omega) (by have := HD.out.1; omega) S1.out (bf_firstO HD.out.2.2.2 (by omega)) (by have := bf_secondO HD.out.2.2.2 (by omega); rwa [show x + sz + sz = x + 2 * sz by omega] at this)
              rw [HD.out.1, show ((x + sz : Nat) : Int) = (x : Int) + (sz : Int) by omega, show ((x + 2 * sz : Nat) : Int) = (x : Int) + 2 * (sz : Int) by omega] at HC
              replace HC := Lib.hid HC
              go_wp2_with fail
              refine HC.out.mono ?_
              rintro e w2 ⟨rfl, d2, hp, hl, S2'⟩
              have S2 : Aside _ := S2'
              have HD2 := Lib.hid (show d2.size = n ∧ PermIn 0 n d d2 ∧ DoneBO (ltOf cf) (2 * sz) d2 (x + 2 * sz) ∧ BFO (ltOf cf) sz n d2 (x + 2 * sz) from ⟨hp.1.trans HD.out.1, permIn_trans _ _ _ _ _ HD.out.2.1 (permIn_mono _ _ _ _ _ _ (Nat.zero_le _) hle (by have := HD.out.1; omega) hp), done_nextO HD.out.2.2.1 hp hl, bf_nextO HD.out.2.2.2 hp rfl⟩)
              clear S1 HD HC hp hl S2'
              go_wp2_with fail
              go_roundw
              case rel => exact ⟨x + 2 * sz, d2, by first | go_num | (congr 1; omega), by first | rfl | go_num | (congr 1; omega), hle, HD2, S2⟩
              case measure => simp [RowKit.intOf]; omega
            · have hlei : ¬ (x : Int) + 2 * (sz : Int) ≤ (n : Int) := by omega
              by_cases hm : x + sz < n
              · have hmi : (x : Int) + (sz : Int) < (n : Int) := by omega
                have HC := HM.out x (x + sz) n dk wr (by omega) hm (by have := HD.out.1; omega) (by have := HD.out.1; omega) S1.out (bf_firstO HD.out.2.2.2 (by omega)) (bf_second'O HD.out.2.2.2 (by omega))
                rw [HD.out.1, show ((x + sz : Nat) : Int) = (x : Int) + (sz : Int) by omega] at HC
                replace HC := Lib.hid HC
                go_wp2_with fail
                refine HC.out.mono ?_
                rintro e w2 ⟨rfl, d2, hp, hl, S2'⟩
                have S2 : Aside _ := S2'
                have HB2 := Lib.hid (show d2.size = n ∧ PermIn 0 n d d2 ∧ BFO (ltOf cf) (2 * sz) n d2 0 from ⟨hp.1.trans HD.out.1, permIn_trans _ _ _ _ _ HD.out.2.1 (permIn_mono _ _ _ _ _ _ (Nat.zero_le _) (Nat.le_refl _) (by have := HD.out.1; omega) hp), bf_of_doneO (done_keptO HD.out.2.2.1 hp) hxn (by omega) hl⟩)
                clear S1 HD HC hp hl S2'
                go_wp2_with fail
                go_roundw
                case rel => exact ⟨2 * sz, d2, by first | go_num | (congr 1; omega), by omega, by omega, HB2, S2⟩
                case measure => simp [RowKit.intOf]; omega
              · have hmi : ¬ (x : Int) + (sz : Int) < (n : Int) := by omega
                have HB2 := Lib.hid (show dk.size = n ∧ PermIn 0 n d dk ∧ BFO (ltOf cf) (2 * sz) n dk 0 from ⟨HD.out.1, HD.out.2.1, bf_of_doneO HD.out.2.2.1 hxn (by omega) (bf_lastO HD.out.2.2.2 (by omega))⟩)
                clear HD
                go_wp2_with fail
                go_roundw
                case rel => exact ⟨2 * sz, dk, by first | go_num | (congr 1; omega), by omega, by omega, HB2, S1⟩
                case measure => simp [RowKit.intOf]; omega
        · have hlti : ¬ (sz : Int) < (n : Int) := by omega
          go_wp2_with fail
          go_end0
          exact ⟨rfl, dk, HB.out.2.1, bf_lastO HB.out.2.2 (by omega), S1.out⟩
set_option maxRecDepth 1000000 in
set_option maxHeartbeats 1000000 in
/-- **slices.SortStableFunc.** -/
theorem sortStable_anyO (cf : Opr → Opr → Int) (hO : SWO (ltOf cf)) (blk off cap : Nat) (d : Array Opr) (w : World) (hcmp : CmpLays Tryz.prog 22 #[] Opr.cells 11 cf blk off d.size w) (hH : HoldsK Opr.cells 11 w blk off d) (hblk : blk < w.heap.size) (hsz : d.size < 4611686018427387904) :
    Calls Tryz.prog 21 #[.slice (some ⟨blk, off, none⟩) d.size cap, .func (.func 22) #[] #[]] w fun e w' => e = .returned (.tuple #[]) ∧ ∃ d', PermIn 0 d.size d d' ∧ SortedIn (ltOf cf) 0 d.size d' ∧ SWK Opr.cells 11 w blk off d' w' := by
  have R : RowK Opr.cells 11 w blk off d := ⟨fun _ => rfl, fun x v hv => oprLay.one x v hv, hH, hblk⟩
  have HS := Lib.hid (stable_wO 11 rfl cf hO blk off cap d w hcmp R hsz d w rfl (SWK.start hH))
  clear hcmp R hH
  go_enter Tryz.func21, Tryz.ntmps21
  go_wp2_with fail
  refine HS.out.mono ?_
  rintro e w2 ⟨rfl, d2, hp, hl, S2⟩
  have S2 : Aside _ := S2
  have HP := Lib.hid (⟨hp, hl⟩ : _ ∧ _)
  clear hp hl
  go_wp2_with fail
  go_end0
  exact ⟨rfl, d2, HP.out.1, HP.out.2, S2.out⟩
end Go.Proofs.YtlenpifjkbcmdaaGreatDoor
