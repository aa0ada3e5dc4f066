/-
  The library's stable sort, walked: the whole.
-/
import Derived.Test.YtfbdbjookkogjaaDoorStabN
namespace Go.Proofs.YtfbdbjookkogjaaDoor
open Go Go.RowKit Go.Lib Go.Sort Go.Shelf Go.Proofs

theorem sym_any (k6 : Nat) (h6 : k6 = 6) (cf : Itm → Itm → Int) (hO : SWO (ltOf cf)) (blk off cap : Nat) (d0 : Array Itm) (w0 : World) (hcmp : CmpLays Tryd.prog 31 #[] Itm.cells k6 cf blk off d0.size w0) (R : RowK Itm.cells k6 w0 blk off d0) (hsz : d0.size < 4611686018427387904) :
    ∀ (N a m b : Nat) (d : Array Itm) (w : World), b - a < N → a < m → m < b → b ≤ d.size → d0.size = d.size → SWK Itm.cells k6 w0 blk off d w → SortedIn (ltOf cf) a m d → SortedIn (ltOf cf) m b d →
    Calls Tryd.prog 66 #[.slice (some ⟨blk, off, none⟩) d.size cap, .int .i64 a, .int .i64 m, .int .i64 b, .func (.func 31) #[] #[]] w fun e w' => e = .returned (.tuple #[]) ∧ ∃ d', PermIn a b d d' ∧ SortedIn (ltOf cf) a b d' ∧ SWK Itm.cells k6 w0 blk off d' w' := by
  intro N
  induction N with
  | zero => intro a m b d w h; omega
  | succ N IH =>
    intro a m b d w hN ham hmb hb hs S h1 h2
    by_cases e1 : m = a + 1
    · subst e1
      have := sym_one k6 h6 cf hO blk off cap a b d0 d w0 w hcmp R hs S hmb hb (by omega) h2
      rwa [show (a : Int) + 1 = ((a + 1 : Nat) : Int) by omega] at this
    · by_cases e2 : b = m + 1
      · subst e2
        have := sym_last k6 h6 cf hO blk off cap a m d0 d w0 w hcmp R hs S (by omega) hb (by omega) h1
        rwa [show (m : Int) + 1 = ((m + 1 : Nat) : Int) by omega] at this
      · exact sym_step k6 h6 cf hO blk off cap a m b d0 d w0 w hcmp R hs S (by omega) (by omega) hb (by omega) h1 h2 fun a' m' b' d' W h3 h4 h5 h7 h8 S' h9 h10 => IH a' m' b' d' W (by omega) h4 h5 h7 h8 S' h9 h10
theorem enterI : ∀ args w, (callFunc 31 args).run Tryd.prog w = .ok (.enter 31 args) w := enters_of Tryd.func31 (by kernel_rfl) rfl
theorem ins_w (k6 : Nat) (h6 : k6 = 6) (cf : Itm → Itm → Int) (hO : SWO (ltOf cf)) (blk off cap : Nat) (d0 : Array Itm) (w0 : World) (hcmp : CmpLays Tryd.prog 31 #[] Itm.cells k6 cf blk off d0.size w0) (R : RowK Itm.cells k6 w0 blk off d0) (hsz : d0.size < 4611686018427387904) (a b : Nat) (d : Array Itm) (w : World) (hs : d0.size = d.size) (S : SWK Itm.cells k6 w0 blk off d w) (hab : a ≤ b) (hb : b ≤ d.size) :
    Calls Tryd.prog 65 #[.slice (some ⟨blk, off, none⟩) d.size cap, .int .i64 a, .int .i64 b, .func (.func 31) #[] #[]] w fun e w' => e = .returned (.tuple #[]) ∧ ∃ d', PermIn a b d d' ∧ SortedIn (ltOf cf) a b d' ∧ SWK Itm.cells k6 w0 blk off d' w' := by
  have hi := insertionSort_holds hO d a b hab hb
  have hC : CmpLays Tryd.prog 31 #[] Itm.cells k6 cf blk off d.size w := fun m os dk hdk x y => by
    obtain ⟨n0, os0, rfl⟩ := S
    rw [sortWorldK_on Itm.cells k6 w0 blk off n0 m d dk os0 os R.hblk hdk]
    exact hcmp _ _ dk (by omega) x y
  have hcon := AnyQ.insertionSortCmpFunc Tryd.insSortI k6 aggI (sizeI h6) Itm.cells R.hk R.h1 cf 31 #[] blk off cap a b d w enterI hC (S.holds R.hblk R.hH hs.symm) (S.lt R.hblk) hab hb (by omega)
  change Calls Tryd.prog 65 _ _ _ at hcon
  refine hcon.mono ?_
  rintro e w' ⟨rfl, n, os, rfl⟩
  exact ⟨rfl, _, hi.1, hi.2, S.on R.hblk n _ os hi.1.1⟩

/-! ### runs in order -/
def BF (lt : Itm → Itm → Bool) (s n : Nat) (d : Array Itm) (x : Nat) : Prop := ∀ j, SortedIn lt (x + j * s) (min (x + j * s + s) n) d
def DoneB (lt : Itm → Itm → Bool) (s : Nat) (d : Array Itm) (x : Nat) : Prop := ∃ k, x = k * s ∧ ∀ j, j < k → SortedIn lt (j * s) (j * s + s) d
section
variable {lt : Itm → Itm → Bool} {s n x : Nat} {d d' : Array Itm}
theorem bf_of_done (h : DoneB lt s d x) (hx : x ≤ n) (hn : n < x + s) (hl : SortedIn lt x n d) : BF lt s n d 0 := fun j => by
  obtain ⟨k, rfl, hk⟩ := h
  rw [Nat.zero_add]
  rcases Nat.lt_trichotomy j k with h | h | h
  · have h1 : (j + 1) * s ≤ k * s := Nat.mul_le_mul_right s h
    rw [Nat.succ_mul] at h1
    rw [Nat.min_eq_left (by omega)]
    exact hk j h
  · subst h
    rw [Nat.min_eq_right (by omega)]
    exact hl
  · have h1 : (k + 1) * s ≤ j * s := Nat.mul_le_mul_right s h
    rw [Nat.succ_mul] at h1
    have h2 := Nat.min_le_right (j * s + s) n
    exact sorted_none (by omega)
theorem done_none : DoneB lt s d 0 := ⟨0, by simp, fun j h => by omega⟩
theorem sorted_kept {a b lo hi : Nat} (h : SortedIn lt a b d) (hp : PermIn lo hi d d') (ho : b ≤ lo ∨ hi ≤ a) : SortedIn lt a b d' := fun i j hi' hij hj => by
  rw [hp.2.1 i (by omega), hp.2.1 j (by omega)]
  exact h i j hi' hij hj
theorem done_next (h : DoneB lt s d x) (hp : PermIn x (x + s) d d') (hl : SortedIn lt x (x + s) d') : DoneB lt s d' (x + s) := by
  obtain ⟨k, rfl, hk⟩ := h
  refine ⟨k + 1, (Nat.succ_mul k s).symm, fun j hj => ?_⟩
  by_cases e : j = k
  · rw [e]
    exact hl
  · have h1 : (j + 1) * s ≤ k * s := Nat.mul_le_mul_right s (by omega)
    rw [Nat.succ_mul] at h1
    exact sorted_kept (hk j (by omega)) hp (.inl (by omega))
theorem done_kept (h : DoneB lt s d x) (hp : PermIn x n d d') : DoneB lt s d' x := by
  obtain ⟨k, rfl, hk⟩ := h
  refine ⟨k, rfl, fun j hj => ?_⟩
  have h1 : (j + 1) * s ≤ k * s := Nat.mul_le_mul_right s hj
  rw [Nat.succ_mul] at h1
  exact sorted_kept (hk j hj) hp (.inl (by omega))
theorem bf_next {y : Nat} (h : BF lt s n d x) (hp : PermIn x y d d') (hy : y = x + 2 * s) : BF lt s n d' y := fun j => by
  have h1 := h (j + 2)
  rw [Nat.add_mul, show x + (j * s + 2 * s) = y + j * s by omega] at h1
  exact sorted_kept h1 hp (.inr (by omega))
theorem bf_first (h : BF lt s n d x) (hn : x + s ≤ n) : SortedIn lt x (x + s) d := by
  have h1 := h 0
  rw [Nat.zero_mul, Nat.add_zero, Nat.min_eq_left hn] at h1
  exact h1
theorem bf_second (h : BF lt s n d x) (hn : x + s + s ≤ n) : SortedIn lt (x + s) (x + s + s) d := by
  have h1 := h 1
  rw [Nat.one_mul, Nat.min_eq_left hn] at h1
  exact h1
theorem bf_second' (h : BF lt s n d x) (hn : n ≤ x + s + s) : SortedIn lt (x + s) n d := by
  have h1 := h 1
  rw [Nat.one_mul, Nat.min_eq_right hn] at h1
  exact h1
theorem bf_last (h : BF lt s n d x) (hn : n ≤ x + s) : SortedIn lt x n d := by
  have h1 := h 0
  rw [Nat.zero_mul, Nat.add_zero, Nat.min_eq_right hn] at h1
  exact h1
end
set_option maxRecDepth 1000000 in
set_option maxHeartbeats 4000000 in
theorem stable_w (k6 : Nat) (h6 : k6 = 6) (cf : Itm → Itm → Int) (hO : SWO (ltOf cf)) (blk off cap : Nat) (d0 : Array Itm) (w0 : World) (hcmp : CmpLays Tryd.prog 31 #[] Itm.cells k6 cf blk off d0.size w0) (R : RowK Itm.cells k6 w0 blk off d0) (hsz : d0.size < 4611686018427387904) (d : Array Itm) (w : World) (hs : d0.size = d.size) (S : SWK Itm.cells k6 w0 blk off d w) :
    Calls Tryd.prog 44 #[.slice (some ⟨blk, off, none⟩) d.size cap, .int .i64 d.size, .func (.func 31) #[] #[]] w fun e w' => e = .returned (.tuple #[]) ∧ ∃ d', PermIn 0 d.size d d' ∧ SortedIn (ltOf cf) 0 d.size d' ∧ SWK Itm.cells k6 w0 blk off d' w' := by
  have HI := Lib.hid fun a b d w hs S hab hb => ins_w k6 h6 cf hO blk off cap d0 w0 hcmp R hsz a b d w hs S hab hb
  have HM := Lib.hid fun a m b d w hm hmb hb hs S h1 h2 => sym_any k6 h6 cf hO blk off cap d0 w0 hcmp R hsz (b - a + 1) a m b d w (by omega) hm hmb hb hs S h1 h2
  have S0 : Aside (SWK Itm.cells k6 w0 blk off d w) := S
  clear h6 hcmp S
  obtain ⟨n, hn⟩ : ∃ n, n = d.size := ⟨_, rfl⟩
  rw [← hn]
  have Hn := Lib.hid hn
  have hn62 : n < 4611686018427387904 := by omega
  have hsn : d0.size = n := by omega
  clear hn hs hsz
  go_enter Tryd.func44, Tryd.ntmps44
  go_wp2_with fail
  go_loopw [7, 8] (fun i j wr => ∃ (x : Nat) (dk : Array Itm), i = .int .i64 x ∧ j = .int .i64 ((x : Int) + 20) ∧ x ≤ n ∧ Hid (dk.size = n ∧ PermIn 0 n d dk ∧ DoneB (ltOf cf) 20 dk x) ∧ Aside (SWK Itm.cells k6 w0 blk off dk wr)) (fun i _ _ => n - (RowKit.intOf i).toNat)
  case atStart => exact ⟨0, d, rfl, rfl, Nat.zero_le _, Lib.hid ⟨Hn.out.symm, permIn_refl _ _ _, done_none⟩, S0⟩
  case round =>
    clear S0
    obtain ⟨x, dk, rfl, rfl, hxn, HD, S1⟩ := hrel
    by_cases hlt : x + 20 ≤ n
    · have hlti : (x : Int) + 20 ≤ (n : Int) := by omega
      have HC := HI.out x (x + 20) dk wr (by have := HD.out.1; omega) S1.out (by omega) (by have := HD.out.1; omega)
      rw [HD.out.1, show ((x + 20 : Nat) : Int) = (x : Int) + 20 by omega] at HC
      replace HC := Lib.hid HC
      go_wp2_with fail
      refine HC.out.mono ?_
      rintro e w2 ⟨rfl, d2, hp, hl, S2'⟩
      have S2 : Aside _ := S2'
      have HD2 := Lib.hid (show d2.size = n ∧ PermIn 0 n d d2 ∧ DoneB (ltOf cf) 20 d2 (x + 20) from ⟨hp.1.trans HD.out.1, permIn_trans _ _ _ _ _ HD.out.2.1 (permIn_mono _ _ _ _ _ _ (Nat.zero_le _) hlt (by have := HD.out.1; omega) hp), done_next HD.out.2.2 hp hl⟩)
      clear S1 HD HC hp hl S2'
      go_wp2_with fail
      go_roundw
      case rel => exact ⟨x + 20, d2, by go_num, by first | rfl | go_num | (congr 1; omega), hlt, HD2, S2⟩
      case measure => simp [RowKit.intOf]; omega
    · have hlti : ¬ (x : Int) + 20 ≤ (n : Int) := by omega
      have HC := HI.out x n dk wr (by have := HD.out.1; omega) S1.out hxn (by have := HD.out.1; omega)
      rw [HD.out.1] at HC
      replace HC := Lib.hid HC
      go_wp2_with fail
      refine HC.out.mono ?_
      rintro e w2 ⟨rfl, d2, hp, hl, S2'⟩
      have S2 : Aside (SWK Itm.cells k6 w0 blk off d2 w2) := S2'
      have HB := Lib.hid (show d2.size = n ∧ PermIn 0 n d d2 ∧ BF (ltOf cf) 20 n d2 0 from ⟨hp.1.trans HD.out.1, permIn_trans _ _ _ _ _ HD.out.2.1 (permIn_mono _ _ _ _ _ _ (Nat.zero_le _) (Nat.le_refl _) (by have := HD.out.1; omega) hp), bf_of_done (done_kept HD.out.2.2 hp) hxn (by omega) hl⟩)
      clear S1 HD HC hp hl S2' hlti hlt
      go_wp2_with fail
      go_loopw [6, 7, 8, 9] (fun s _ _ _ wr => ∃ (sz : Nat) (dk : Array Itm), s = .int .i64 sz ∧ 0 < sz ∧ sz < 9223372036854775807 ∧ Hid (dk.size = n ∧ PermIn 0 n d dk ∧ BF (ltOf cf) sz n dk 0) ∧ Aside (SWK Itm.cells k6 w0 blk off dk wr)) (fun s _ _ _ _ => n - (RowKit.intOf s).toNat)
      case atStart => exact ⟨20, d2, rfl, by omega, by omega, HB, S2⟩
      case round =>
        clear S2 HB
        obtain ⟨sz, dk, rfl, hs0, hs63, HB, S1⟩ := hrel
        by_cases hlt : sz < n
        · have hlti : (sz : Int) < (n : Int) := by omega
          obtain ⟨W1, rfl⟩ : ∃ W : World, W = wr := ⟨_, rfl⟩
          go_wp2_with fail
          go_loopw [7, 8] (fun i j wr => ∃ (x : Nat) (dk : Array Itm), i = .int .i64 x ∧ j = .int .i64 ((x : Int) + 2 * (sz : Int)) ∧ x ≤ n ∧ Hid (dk.size = n ∧ PermIn 0 n d dk ∧ DoneB (ltOf cf) (2 * sz) dk x ∧ BF (ltOf cf) sz n dk x) ∧ Aside (SWK Itm.cells k6 w0 blk off dk wr)) (fun i _ _ => n - (RowKit.intOf i).toNat)
          case atStart => exact ⟨0, dk, rfl, by first | rfl | (congr 1; omega), Nat.zero_le _, Lib.hid ⟨HB.out.1, HB.out.2.1, done_none, HB.out.2.2⟩, S1⟩
          case round =>
            clear S1 HB
            obtain ⟨x, dk, rfl, rfl, hxn, HD, S1⟩ := hrel
            by_cases hle : x + 2 * sz ≤ n
            · have hlei : (x : Int) + 2 * (sz : Int) ≤ (n : Int) := by omega
              have HC := HM.out x (x + sz) (x + 2 * sz) dk wr (by omega) (by omega) (by have := HD.out.1; omega) (by have := HD.out.1; omega) S1.out (bf_first HD.out.2.2.2 (by omega)) (by have := bf_second HD.out.2.2.2 (by omega); rwa [show x + sz + sz = x + 2 * sz by omega] at this)
              rw [HD.out.1, show ((x + sz : Nat) : Int) = (x : Int) + (sz : Int) by omega, show ((x + 2 * sz : Nat) : Int) = (x : Int) + 2 * (sz : Int) by omega] at HC
              replace HC := Lib.hid HC
              go_wp2_with fail
              refine HC.out.mono ?_
              rintro e w2 ⟨rfl, d2, hp, hl, S2'⟩
              have S2 : Aside _ := S2'
              have HD2 := Lib.hid (show d2.size = n ∧ PermIn 0 n d d2 ∧ DoneB (ltOf cf) (2 * sz) d2 (x + 2 * sz) ∧ BF (ltOf cf) sz n d2 (x + 2 * sz) from ⟨hp.1.trans HD.out.1, permIn_trans _ _ _ _ _ HD.out.2.1 (permIn_mono _ _ _ _ _ _ (Nat.zero_le _) hle (by have := HD.out.1; omega) hp), done_next HD.out.2.2.1 hp hl, bf_next HD.out.2.2.2 hp rfl⟩)
              clear S1 HD HC hp hl S2'
              go_wp2_with fail
              go_roundw
              case rel => exact ⟨x + 2 * sz, d2, by first | go_num | (congr 1; omega), by first | rfl | go_num | (congr 1; omega), hle, HD2, S2⟩
              case measure => simp [RowKit.intOf]; omega
            · have hlei : ¬ (x : Int) + 2 * (sz : Int) ≤ (n : Int) := by omega
              by_cases hm : x + sz < n
              · have hmi : (x : Int) + (sz : Int) < (n : Int) := by omega
                have HC := HM.out x (x + sz) n dk wr (by omega) hm (by have := HD.out.1; omega) (by have := HD.out.1; omega) S1.out (bf_first HD.out.2.2.2 (by omega)) (bf_second' HD.out.2.2.2 (by omega))
                rw [HD.out.1, show ((x + sz : Nat) : Int) = (x : Int) + (sz : Int) by omega] at HC
                replace HC := Lib.hid HC
                go_wp2_with fail
                refine HC.out.mono ?_
                rintro e w2 ⟨rfl, d2, hp, hl, S2'⟩
                have S2 : Aside _ := S2'
                have HB2 := Lib.hid (show d2.size = n ∧ PermIn 0 n d d2 ∧ BF (ltOf cf) (2 * sz) n d2 0 from ⟨hp.1.trans HD.out.1, permIn_trans _ _ _ _ _ HD.out.2.1 (permIn_mono _ _ _ _ _ _ (Nat.zero_le _) (Nat.le_refl _) (by have := HD.out.1; omega) hp), bf_of_done (done_kept HD.out.2.2.1 hp) hxn (by omega) hl⟩)
                clear S1 HD HC hp hl S2'
                go_wp2_with fail
                go_roundw
                case rel => exact ⟨2 * sz, d2, by first | go_num | (congr 1; omega), by omega, by omega, HB2, S2⟩
                case measure => simp [RowKit.intOf]; omega
              · have hmi : ¬ (x : Int) + (sz : Int) < (n : Int) := by omega
                have HB2 := Lib.hid (show dk.size = n ∧ PermIn 0 n d dk ∧ BF (ltOf cf) (2 * sz) n dk 0 from ⟨HD.out.1, HD.out.2.1, bf_of_done HD.out.2.2.1 hxn (by omega) (bf_last HD.out.2.2.2 (by omega))⟩)
                clear HD
                go_wp2_with fail
                go_roundw
                case rel => exact ⟨2 * sz, dk, by first | go_num | (congr 1; omega), by omega, by omega, HB2, S1⟩
                case measure => simp [RowKit.intOf]; omega
        · have hlti : ¬ (sz : Int) < (n : Int) := by omega
          go_wp2_with fail
          go_end0
          exact ⟨rfl, dk, HB.out.2.1, bf_last HB.out.2.2 (by omega), S1.out⟩
set_option maxRecDepth 1000000 in
set_option maxHeartbeats 1000000 in
/-- **slices.SortStableFunc.** -/
theorem sortStable_any (cf : Itm → Itm → Int) (hO : SWO (ltOf cf)) (blk off cap : Nat) (d : Array Itm) (w : World) (hcmp : CmpLays Tryd.prog 31 #[] Itm.cells 6 cf blk off d.size w) (hH : HoldsK Itm.cells 6 w blk off d) (hblk : blk < w.heap.size) (hsz : d.size < 4611686018427387904) :
    Calls Tryd.prog 30 #[.slice (some ⟨blk, off, none⟩) d.size cap, .func (.func 31) #[] #[]] w fun e w' => e = .returned (.tuple #[]) ∧ ∃ d', PermIn 0 d.size d d' ∧ SortedIn (ltOf cf) 0 d.size d' ∧ SWK Itm.cells 6 w blk off d' w' := by
  have R : RowK Itm.cells 6 w blk off d := ⟨fun _ => rfl, fun x v hv => itmLay.one x v hv, hH, hblk⟩
  have HS := Lib.hid (stable_w 6 rfl cf hO blk off cap d w hcmp R hsz d w rfl (SWK.start hH))
  clear hcmp R hH
  go_enter Tryd.func30, Tryd.ntmps30
  go_wp2_with fail
  refine HS.out.mono ?_
  rintro e w2 ⟨rfl, d2, hp, hl, S2⟩
  have S2 : Aside _ := S2
  have HP := Lib.hid (⟨hp, hl⟩ : _ ∧ _)
  clear hp hl
  go_wp2_with fail
  go_end0
  exact ⟨rfl, d2, HP.out.1, HP.out.2, S2.out⟩
end Go.Proofs.YtfbdbjookkogjaaDoor
