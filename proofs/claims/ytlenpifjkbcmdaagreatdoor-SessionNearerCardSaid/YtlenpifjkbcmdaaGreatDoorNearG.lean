/-
  Who has no less than a Hello's set answers what can be added to it: the plain law of SessionNearer. In which order operations are told: session.Answer's comparison. clock.Covers. A slice of operations behind the stable sort; a slice of none. What a device answers a Hello, where no pieces are wanted and none are there: session.Answer. Who has no less than a Hello's set answers what can be added to it: arbourlaw23.SessionNearer, walked.
-/
import Derived.Test.YtlenpifjkbcmdaaGreatDoorSetsPure
import Derived.Test.YtlenpifjkbcmdaaGreatDoorStabO
import Derived.Test.YtlenpifjkbcmdaaGreatDoorCmpStr
import Derived.Test.YtlenpifjkbcmdaaGreatDoorNums
import Derived.Test.YtlenpifjkbcmdaaGreatDoorSessGA
import Derived.Deep.RegionLaw
import Derived.Test.YtlenpifjkbcmdaaGreatDoorStructs
import Derived.Test.YtlenpifjkbcmdaaGreatDoorOpsGD
import Derived.Test.YtlenpifjkbcmdaaGreatDoorOpsGB
import Derived.Test.YtlenpifjkbcmdaaGreatDoorAppends
import Derived.Test.YtlenpifjkbcmdaaGreatDoorSliced
import Derived.Test.YtlenpifjkbcmdaaGreatDoorArgG
import Derived.Test.YtlenpifjkbcmdaaGreatDoorOpsGC
import Derived.Test.YtlenpifjkbcmdaaGreatDoorSessL0
namespace Go.Proofs.YtlenpifjkbcmdaaGreatDoor
open Go Go.RowKit Go.Lib
theorem add_fits {set own : List Opr} (hs : GoodO set) (ho : GoodO own) (hsub : ∀ y ∈ own, y ∈ set) {x : Opr} (hx : x ∈ set) (hn : x ∉ own) (hprev : ∀ y ∈ set, y.who = x.who → y.seq < x.seq → y ∈ own) (hlen : own.length < 400) :
    addO own x = (insO own x, 0) ∧ GoodO (insO own x) := by
  have hr := hs.right x hx
  have hf : fitsO own x = 0 := by
    rw [fits_zero]
    refine ⟨fun y hy => ?_, ?_, fun y hy => ?_⟩
    · rw [twice_false]
      refine ⟨fun e => ?_, fun e => ?_⟩
      · exact hn (stamp_one hs.up (hsub y hy) hx e.1 e.2 ▸ hy)
      · exact hn (hs.one y (hsub y hy) x hx e.1 e.2 ▸ hy)
    · by_cases h1 : x.seq = 1
      · exact .inl h1
      · have hq := (right_seq hr).1
        obtain ⟨y, hy, e1, e2⟩ := hs.all x hx (x.seq - 1) (by omega) (by omega)
        exact .inr ⟨y, hprev y hy e1 (by omega), ahead_true.2 ⟨e1, e2⟩⟩
    · rw [late_false]
      intro e
      exact ⟨fun e2 => hs.seq y (hsub y hy) x hx e (by omega), fun e2 => hs.seq x hx y (hsub y hy) e.symm e2⟩
  refine ⟨?_, good_ins ho hr hf⟩
  unfold addO
  rw [if_neg (by rw [hr]; simp), memB_false.2 hn, if_neg (by simp), if_neg (by rw [hf]; simp), if_neg (by omega)]
theorem new_iff {set own : List Opr} (hs : GoodO set) (ho : GoodO own) (hsub : ∀ y ∈ own, y ∈ set) {x : Opr} (hx : x ∈ set) : newB (vecO own) x = true ↔ x ∉ own := by
  have hv := good_valid hs x hx
  have hw := validB_iff.1 hv
  have e : atV (vecO own) x.who = cntO own x.who.toNat := by
    unfold atV vecO
    rw [padO_len]
    split
    · rename_i h
      exact (cntO_zero (by omega) (by omega)).symm
    · have hg : (padO own (lenO own)).getD x.who.toNat 0 = cntO own x.who.toNat := by
        rw [List.getD_eq_getElem?_getD, padO_get (by omega)]
        rfl
      rw [hg]
      have := (cntO_le own x.who.toNat).1
      omega
  have hq := (right_seq (hs.right x hx)).1
  simp only [newB, e, decide_eq_true_eq]
  constructor
  · intro h hm
    have := (good_count ho x.who.toNat x.seq).2 ⟨x, hm, by omega, rfl⟩
    omega
  · intro hn
    refine Classical.byContradiction fun h => hn ?_
    obtain ⟨y, hy, e1, e2⟩ := (good_count ho x.who.toNat x.seq).1 ⟨hq, by omega⟩
    rw [← hs.one y (hsub y hy) x hx (by omega) e2]
    exact hy
theorem mem_since {set own : List Opr} (hs : GoodO set) (ho : GoodO own) (hsub : ∀ y ∈ own, y ∈ set) {x : Opr} : x ∈ sinO set (vecO own) ↔ x ∈ set ∧ x ∉ own := by
  unfold sinO
  rw [List.mem_filter]
  constructor
  · rintro ⟨h1, h2⟩
    exact ⟨h1, (new_iff hs ho hsub h1).1 h2⟩
  · rintro ⟨h1, h2⟩
    exact ⟨h1, (new_iff hs ho hsub h1).2 h2⟩
theorem up_nodup {l : List Opr} (h : l.Pairwise ltO) : l.Nodup := h.imp fun {x y} hb e => by
  rw [e] at hb
  exact ltO_irrefl hb
theorem len_since {set own : List Opr} (hs : GoodO set) (ho : GoodO own) (hsub : ∀ y ∈ own, y ∈ set) : (sinO set (vecO own)).length + own.length = set.length := by
  have h1 : (set.filter (newB (vecO own))).length + (set.filter fun x => !newB (vecO own) x).length = set.length := by
    have := List.length_eq_countP_add_countP (newB (vecO own)) (l := set)
    rw [List.countP_eq_length_filter, List.countP_eq_length_filter] at this
    simp only [Bool.not_eq_true, Bool.decide_eq_false] at this
    omega
  have h2 : (set.filter fun x => !newB (vecO own) x).Perm own := by
    refine (List.perm_ext_iff_of_nodup (List.Pairwise.filter _ (up_nodup hs.up)) (up_nodup ho.up)).2 fun x => ?_
    rw [List.mem_filter, Bool.not_eq_true']
    constructor
    · rintro ⟨h3, h4⟩
      refine Classical.byContradiction fun h5 => ?_
      rw [(new_iff hs ho hsub h3).2 h5] at h4
      cases h4
    · intro h3
      refine ⟨hsub x h3, ?_⟩
      cases h4 : newB (vecO own) x with
      | false => rfl
      | true => exact absurd h3 ((new_iff hs ho hsub (hsub x h3)).1 h4)
  unfold sinO
  rw [← h2.length_eq]
  exact h1
/-- In the order in which they are told: by Seqs, then by devices. -/
def toldB (x y : Opr) : Prop := x.seq < y.seq ∨ (x.seq = y.seq ∧ x.who ≤ y.who)
/-- What is there behind so many of those that were told. -/
structure NearO (set own S : List Opr) (j : Nat) (now : List Opr) : Prop where
  good : GoodO now
  mem : ∀ y, y ∈ now ↔ y ∈ own ∨ y ∈ S.take j
  len : now.length = own.length + j
theorem near_start {set own S : List Opr} (ho : GoodO own) : NearO set own S 0 own := ⟨ho, fun y => by simp, rfl⟩
theorem near_step {set own S : List Opr} (hs : GoodO set) (ho : GoodO own) (hsub : ∀ y ∈ own, y ∈ set) (hp : S.Perm (sinO set (vecO own))) (hS : S.Pairwise toldB) (hl : set.length ≤ 100) {j : Nat} {now : List Opr} (h : NearO set own S j now) {x : Opr} (hx : S[j]? = some x) :
    addO now x = (insO now x, 0) ∧ NearO set own S (j + 1) (insO now x) := by
  have hmS : ∀ y, y ∈ S ↔ y ∈ set ∧ y ∉ own := fun y => by rw [hp.mem_iff, mem_since hs ho hsub]
  have hxS := (hmS x).1 (List.mem_of_getElem? hx)
  have hnd : S.Nodup := hp.nodup_iff.2 (List.Pairwise.filter _ (up_nodup hs.up))
  have hnow : ∀ y ∈ now, y ∈ set := fun y hy => by
    rcases (h.mem y).1 hy with h1 | h1
    · exact hsub y h1
    · exact ((hmS y).1 (List.mem_of_mem_take h1)).1
  obtain ⟨hjl, hxe⟩ := List.getElem?_eq_some_iff.1 hx
  have hxn : x ∉ now := fun hm => by
    rcases (h.mem x).1 hm with h1 | h1
    · exact hxS.2 h1
    · obtain ⟨i, hi, e⟩ := List.mem_iff_getElem.1 h1
      rw [List.length_take] at hi
      rw [List.getElem_take] at e
      have := (List.nodup_iff_pairwise_ne.1 hnd)
      rw [List.pairwise_iff_getElem] at this
      exact this i j (by omega) hjl (by omega) (e.trans hxe.symm)
  have hprev : ∀ y ∈ set, y.who = x.who → y.seq < x.seq → y ∈ now := fun y hy e1 e2 => by
    rw [h.mem]
    by_cases hyo : y ∈ own
    · exact .inl hyo
    · obtain ⟨i, hi, e⟩ := List.mem_iff_getElem.1 ((hmS y).2 ⟨hy, hyo⟩)
      refine .inr ?_
      by_cases hij : i < j
      · exact List.mem_iff_getElem.2 ⟨i, by rw [List.length_take]; omega, by rw [List.getElem_take]; exact e⟩
      · have hne : i ≠ j := fun e3 => by
          subst e3
          rw [hxe] at e
          rw [← e] at e2
          omega
        have h3 := List.pairwise_iff_getElem.1 hS j i hjl hi (by omega)
        rw [hxe, e] at h3
        unfold toldB at h3
        omega
  have hlen := len_since hs ho hsub
  have hSl := hp.length_eq
  obtain ⟨h1, h2⟩ := add_fits hs h.good hnow hxS.1 hxn hprev (by rw [h.len]; omega)
  refine ⟨h1, h2, fun y => ?_, by rw [ins_len, h.len]; omega⟩
  rw [mem_ins, h.mem, List.take_add_one, hx, Option.toList_some, List.mem_append, List.mem_singleton]
  constructor
  · rintro (h3 | h3 | h3)
    · exact .inr (.inr h3)
    · exact .inl h3
    · exact .inr (.inl h3)
  · rintro (h3 | h3 | h3)
    · exact .inr (.inl h3)
    · exact .inr (.inr h3)
    · exact .inl h3
theorem near_sub {set own S : List Opr} (hs : GoodO set) (ho : GoodO own) (hsub : ∀ y ∈ own, y ∈ set) (hp : S.Perm (sinO set (vecO own))) {j : Nat} {now : List Opr} (h : NearO set own S j now) : ∀ y ∈ now, y ∈ set := fun y hy => by
  rcases (h.mem y).1 hy with h1 | h1
  · exact hsub y h1
  · have h2 := List.mem_of_mem_take h1
    rw [hp.mem_iff, mem_since hs ho hsub] at h2
    exact h2.1
/-- Who has as many has the same. -/
theorem near_end {set own : List Opr} (hs : GoodO set) (ho : GoodO own) (hsub : ∀ y ∈ own, y ∈ set) (hl : own.length = set.length) : own = set := by
  refine same_up ho.up hs.up fun y => ⟨hsub y, fun hy => ?_⟩
  have h1 := len_since hs ho hsub
  refine Classical.byContradiction fun h2 => ?_
  have h3 := (mem_since hs ho hsub).2 ⟨hy, h2⟩
  have : sinO set (vecO own) = [] := List.length_eq_zero_iff.1 (by omega)
  rw [this] at h3
  cases h3
/-! ### how the two sets are made -/
/-- Those of which the other one has them already. -/
def ownO (l : List Opr) (has : List Bool) : Nat → List Opr
  | 0 => []
  | k + 1 => match l[k]? with
    | none => ownO l has k
    | some x => if (addO (setO (l.take k)) x).2 = 0 ∧ has[k]? = some true then stepO (ownO l has k) x else ownO l has k
theorem own_step {l : List Opr} {has : List Bool} {k : Nat} {x : Opr} (h : l[k]? = some x) : ownO l has (k + 1) = if (addO (setO (l.take k)) x).2 = 0 ∧ has[k]? = some true then stepO (ownO l has k) x else ownO l has k := by
  rw [ownO, h]
theorem mem_step {s : List Opr} {x y : Opr} (h : y ∈ stepO s x) : y ∈ s ∨ (y = x ∧ (addO s x).2 = 0) := by
  unfold stepO at h
  split at h
  · rename_i h0
    rcases add_cases h0 with ⟨e, _⟩ | ⟨e, _⟩
    · rw [e] at h
      exact .inl h
    · rw [e, mem_ins] at h
      rcases h with h | h
      · exact .inr ⟨h, h0⟩
      · exact .inl h
  · exact .inl h
theorem step_mem {s : List Opr} {x : Opr} (h0 : (addO s x).2 = 0) : x ∈ stepO s x := by
  unfold stepO
  rw [if_pos h0]
  rcases add_cases h0 with ⟨e, h⟩ | ⟨e, _⟩
  · rw [e]
    exact h
  · rw [e, mem_ins]
    exact .inl rfl
theorem step_keeps {s : List Opr} {x y : Opr} (h : y ∈ s) : y ∈ stepO s x := by
  unfold stepO
  split
  · rename_i h0
    rcases add_cases h0 with ⟨e, _⟩ | ⟨e, _⟩
    · rw [e]
      exact h
    · rw [e, mem_ins]
      exact .inr h
  · exact h
theorem own_good (l : List Opr) (has : List Bool) : ∀ k, k ≤ l.length → GoodO (ownO l has k) ∧ (∀ y ∈ ownO l has k, y ∈ setO (l.take k)) ∧ (ownO l has k).length ≤ k
  | 0, _ => ⟨good_nil, by simp [ownO], by simp [ownO]⟩
  | k + 1, hk => by
    obtain ⟨h1, h2, h3⟩ := own_good l has k (by omega)
    obtain ⟨x, hx⟩ : ∃ x, l[k]? = some x := ⟨_, List.getElem?_eq_getElem (by omega)⟩
    have hst : setO (l.take (k + 1)) = stepO (setO (l.take k)) x := by rw [List.take_add_one, hx, Option.toList_some, setO_snoc]
    rw [own_step hx, hst]
    split
    · rename_i h
      obtain ⟨g1, _, g3⟩ := good_step (x := x) h1
      refine ⟨g1, fun y hy => ?_, by omega⟩
      rcases mem_step hy with hy | ⟨rfl, _⟩
      · exact step_keeps (h2 y hy)
      · exact step_mem h.1
    · exact ⟨h1, fun y hy => step_keeps (h2 y hy), by omega⟩
end Go.Proofs.YtlenpifjkbcmdaaGreatDoor

namespace Go.Proofs.YtlenpifjkbcmdaaGreatDoor
open Go Go.RowKit Go.Lib
theorem drewCell {w : World} {p : Addr} {v : Value} (h : w.cell? p = some v) : w.drew.cell? p = some v := h
theorem drewGrow3 (W : World) (o1 o2 o3 : Obj) : (((W.alloc o1).alloc o2).alloc o3).drew = «Sort».grow (W.drewN 1) #[o1, o2, o3] := by
  rw [«Sort».alloc_eq_grow, «Sort».alloc_eq_grow, «Sort».alloc_eq_grow, «Sort».grow_grow, «Sort».grow_grow]
  rfl
def cmpT (x y : Opr) : Int := orG (Lib.compareInt x.seq y.seq) (Lib.compareInt x.who y.who)
theorem cmpT_lt (x y : Opr) : ltOf cmpT x y = decide (x.seq < y.seq ∨ (x.seq = y.seq ∧ x.who < y.who)) := by
  unfold ltOf cmpT orG Lib.compareInt
  by_cases h1 : x.seq < y.seq
  · simp [h1]
  · by_cases h2 : y.seq < x.seq
    · have h3 : ¬ x.seq = y.seq := by omega
      simp [h1, h2, h3]
    · have h3 : x.seq = y.seq := by omega
      by_cases h4 : x.who < y.who
      · simp [h3, h4]
      · by_cases h5 : y.who < x.who
        · simp [h3, h4, h5]
        · simp [h3, h4, h5]
theorem cmpT_swo : «Sort».SWO (ltOf cmpT) where
  irrefl x := by
    rw [cmpT_lt, decide_eq_false_iff_not]
    omega
  trans x y z h1 h2 := by
    rw [cmpT_lt, decide_eq_true_eq] at *
    omega
  ntrans x y z h1 h2 := by
    rw [cmpT_lt, decide_eq_false_iff_not] at *
    omega
theorem cmpT_told {x y : Opr} (h : ltOf cmpT y x = false) : toldB x y := by
  rw [cmpT_lt, decide_eq_false_iff_not] at h
  unfold toldB
  omega
set_option maxRecDepth 100000 in
set_option maxHeartbeats 1600000 in
theorem told_any (x y : Opr) (W : World) : Calls Tryz.prog 22 #[.agg (Opr.cells x).toArray, .agg (Opr.cells y).toArray] W fun e w' => e = .returned (.int .i64 (cmpT x y)) ∧ ∃ q os', w' = «Sort».grow (W.drewN q) os' := by
  obtain ⟨xc, xw, xs, xk, xnc, xnw, xd, xpc, xpw, xn, xm⟩ := x
  obtain ⟨yc, yw, ys, yk, ync, ynw, yd, ypc, ypw, yn, ym⟩ := y
  have HC := Lib.hid fun a b W => Tryz.cmp_Compare_int a b W
  have HR := Lib.hid (show cmpT ⟨xc, xw, xs, xk, xnc, xnw, xd, xpc, xpw, xn, xm⟩ ⟨yc, yw, ys, yk, ync, ynw, yd, ypc, ypw, yn, ym⟩ = orG (Lib.compareInt xs ys) (Lib.compareInt xw yw) from rfl)
  show Calls Tryz.prog 22 #[.agg #[.int .i64 xc, .int .i64 xw, .int .i64 xs, .int .i64 xk, .int .i64 xnc, .int .i64 xnw, .bool xd, .int .i64 xpc, .int .i64 xpw, .string xn, .string xm], .agg #[.int .i64 yc, .int .i64 yw, .int .i64 ys, .int .i64 yk, .int .i64 ync, .int .i64 ynw, .bool yd, .int .i64 ypc, .int .i64 ypw, .string yn, .string ym]] W fun e w' => e = .returned (.int .i64 (cmpT ⟨xc, xw, xs, xk, xnc, xnw, xd, xpc, xpw, xn, xm⟩ ⟨yc, yw, ys, yk, ync, ynw, yd, ypc, ypw, yn, ym⟩)) ∧ ∃ q os', w' = «Sort».grow (W.drewN q) os'
  have hX0 := VarAt.new W #[.int .i64 xc, .int .i64 xw, .int .i64 xs, .int .i64 xk, .int .i64 xnc, .int .i64 xnw, .bool xd, .int .i64 xpc, .int .i64 xpw, .string xn, .string xm] 28
  have hY0 := VarAt.new (W.alloc (.cells #[.int .i64 xc, .int .i64 xw, .int .i64 xs, .int .i64 xk, .int .i64 xnc, .int .i64 xnw, .bool xd, .int .i64 xpc, .int .i64 xpw, .string xn, .string xm] 28)) #[.int .i64 yc, .int .i64 yw, .int .i64 ys, .int .i64 yk, .int .i64 ync, .int .i64 ynw, .bool yd, .int .i64 ypc, .int .i64 ypw, .string yn, .string ym] 28
  have hX1 := hX0.keeps ((Below.refl _ _).alloc (Nat.le_refl _) (.cells #[.int .i64 yc, .int .i64 yw, .int .i64 ys, .int .i64 yk, .int .i64 ync, .int .i64 ynw, .bool yd, .int .i64 ypc, .int .i64 ypw, .string yn, .string ym] 28)) hX0.1
  obtain ⟨W2, hW2⟩ : ∃ W2, W2 = (W.alloc (.cells #[.int .i64 xc, .int .i64 xw, .int .i64 xs, .int .i64 xk, .int .i64 xnc, .int .i64 xnw, .bool xd, .int .i64 xpc, .int .i64 xpw, .string xn, .string xm] 28)).alloc (.cells #[.int .i64 yc, .int .i64 yw, .int .i64 ys, .int .i64 yk, .int .i64 ync, .int .i64 ynw, .bool yd, .int .i64 ypc, .int .i64 ypw, .string yn, .string ym] 28) := ⟨_, rfl⟩
  rw [← hW2] at hX1 hY0
  rw [show (W.alloc (.cells #[.int .i64 xc, .int .i64 xw, .int .i64 xs, .int .i64 xk, .int .i64 xnc, .int .i64 xnw, .bool xd, .int .i64 xpc, .int .i64 xpw, .string xn, .string xm] 28)).heap.size = W.heap.size + 1 by simp] at hY0
  have HW2 := Lib.hid hW2
  clear hX0 hW2
  go_enter Tryz.func22, Tryz.ntmps22
  go_upto_region 1 with fail
  rw [← HW2.out]
  have x1 : W2.drew.cell? ⟨W.heap.size, 1, none⟩ = some (.int .i64 xw) := hX1.2.2 1 _ rfl
  have x2 : W2.drew.cell? ⟨W.heap.size, 2, none⟩ = some (.int .i64 xs) := hX1.2.2 2 _ rfl
  have y1 : W2.drew.cell? ⟨W.heap.size + 1, 1, none⟩ = some (.int .i64 yw) := hY0.2.2 1 _ rfl
  have y2 : W2.drew.cell? ⟨W.heap.size + 1, 2, none⟩ = some (.int .i64 ys) := hY0.2.2 2 _ rfl
  clear hX1 hY0
  go_region_law (first
    | (go_simp; go_at_call 24; refine (HC.out _ _ _).mono ?_; rintro e w4 ⟨rfl, rfl⟩)
    | (go_simp; go_at_call 23; refine (or_any _ _ _ _ (drewCell (cells_new _ _ _ 0 _ rfl)) (drewCell (cells_new _ _ _ 1 _ rfl))).mono ?_; rintro e w5 ⟨rfl, rfl⟩))
  all_goals
    go_wp2_with fail
    go_ret
    refine ⟨by rw [HR.out]; rfl, 1, #[.cells #[.int .i64 xc, .int .i64 xw, .int .i64 xs, .int .i64 xk, .int .i64 xnc, .int .i64 xnw, .bool xd, .int .i64 xpc, .int .i64 xpw, .string xn, .string xm] 28, .cells #[.int .i64 yc, .int .i64 yw, .int .i64 ys, .int .i64 yk, .int .i64 ync, .int .i64 ynw, .bool yd, .int .i64 ypc, .int .i64 ypw, .string yn, .string ym] 28, .cells #[.int .i64 (Lib.compareInt xs ys), .int .i64 (Lib.compareInt xw yw)] 3], ?_⟩
    rw [HW2.out]
    exact drewGrow3 _ _ _ _
/-! ### what a vector covers -/
theorem cat_any (a : Option Addr) (cap : Nat) (v : List Int) (n : Nat) (w : World) (_ : v.length ≤ 140737488351232) (ha : RowsAt numLay w a v) :
    Calls Tryz.prog 35 #[.slice a v.length cap, .int .i64 n] w fun e w' => e = .returned (.int .i64 (atV v n)) ∧ w' = w := by
  by_cases h : v.length ≤ n
  · have Hr := Lib.hid (show atV v n = 0 from if_pos (.inr (by omega)))
    have q1 : decide ((n : Int) ≥ (v.length : Int)) = true := decide_eq_true (by omega)
    have q2 : decide ((v.length : Int) ≤ (n : Int)) = true := decide_eq_true (by omega)
    have q3 : decide (v.length ≤ n) = true := decide_eq_true h
    clear h
    go_enter Tryz.func35, Tryz.ntmps35
    go_wp2_with fail
    go_ret
    exact ⟨by rw [Hr.out]; rfl, rfl⟩
  · have q1 : decide ((n : Int) ≥ (v.length : Int)) = false := decide_eq_false (by omega)
    have q2 : decide ((v.length : Int) ≤ (n : Int)) = false := decide_eq_false (by omega)
    have q3 : decide (v.length ≤ n) = false := decide_eq_false h
    obtain ⟨x, hx⟩ := at_some (show n < v.length by omega)
    obtain ⟨b, off, hae, hbl, c0⟩ := num_at ha hx
    subst hae
    have hni : (n : Int) < (v.length : Int) := by omega
    have hn0 : (0 : Int) ≤ (n : Int) := by omega
    have Hr := Lib.hid (show atV v n = max x 0 by
      unfold atV
      rw [if_neg (by omega), Int.toNat_natCast, List.getD_eq_getElem?_getD, hx]
      rfl)
    clear h hx
    go_enter Tryz.func35, Tryz.ntmps35
    go_wp2_with fail
    go_ret
    exact ⟨by rw [Hr.out]; rfl, rfl⟩
/-- A vector covers itself. -/
theorem covers_self (a b : Option Addr) (cap cap' : Nat) (v : List Int) (w : World) (hl : v.length ≤ 140737488351232) (ha : RowsAt numLay w a v) (hb : RowsAt numLay w b v) :
    Calls Tryz.prog 10 #[.slice a v.length cap, .slice b v.length cap'] w fun e w' => e = .returned (.bool true) ∧ w' = w := by
  have HA := Lib.hid fun n => cat_any a cap v n w hl ha
  have HB := Lib.hid fun n => cat_any b cap' v n w hl hb
  clear ha hb
  go_enter Tryz.func10, Tryz.ntmps10
  go_wp2_with fail
  go_loopw [8] (fun i wr => ∃ k : Nat, k ≤ v.length ∧ i = .int .i64 k ∧ wr = w) (fun i _ => v.length - (RowKit.intOf i).toNat)
  case atStart => exact ⟨0, Nat.zero_le _, rfl, rfl⟩
  case round =>
    obtain ⟨k, hk, rfl, rfl⟩ := hrel
    by_cases hlt : k < v.length
    · have hlti : (k : Int) < (v.length : Int) := by omega
      have HA1 := Lib.hid (HA.out k)
      have HB1 := Lib.hid (HB.out k)
      obtain ⟨x, hx⟩ : ∃ x, atV v k = x := ⟨_, rfl⟩
      rw [hx] at HA1 HB1
      have hxx : decide (x < x) = false := decide_eq_false (by omega)
      clear hx
      go_wp2_with fail
      refine HA1.out.mono ?_
      rintro e w1 ⟨rfl, rfl⟩
      go_wp2_with fail
      refine HB1.out.mono ?_
      rintro e w1 ⟨rfl, rfl⟩
      go_wp2_with fail
      go_roundw
      case rel => exact ⟨k + 1, by omega, by go_num, by trivial⟩
      case measure => simp [RowKit.intOf]; omega
    · obtain rfl : k = v.length := by omega
      go_wp2_with fail
      go_ret
      exact ⟨rfl, rfl⟩
end Go.Proofs.YtlenpifjkbcmdaaGreatDoor

namespace Go.Proofs.YtlenpifjkbcmdaaGreatDoor
open Go Go.RowKit Go.Lib Go.Sort Go.Shelf Go.Proofs
theorem swk_belowO {α : Type} [Inhabited α] {enc : α → List Value} {k B blk off : Nat} {w0 W : World} {dk : Array α} (h : SWK enc k w0 blk off dk W) (hB : B ≤ blk) (hw : B ≤ w0.heap.size) : Go.RowKit.Below B w0 W := by
  obtain ⟨n, os, rfl⟩ := h
  refine ⟨rfl, rfl, rfl, ?_, fun j hj => ?_⟩
  · unfold sortWorldK putRowK
    rw [size_grow, size_putRow]
    exact Nat.le_add_right _ _
  · unfold sortWorldK putRowK «Sort».grow «Sort».putRow «Sort».mapBlock
    show ((«Sort».ahead w0 n).heap.modify _ _ ++ os)[j]? = _
    rw [Array.getElem?_append_left (by simp; omega), Array.getElem?_modify, if_neg (by omega)]
    rfl
theorem holds_of_ownO {w : World} {base g cap : Nat} {e : TypeId} {xs : List Opr} (h : OwnRows oprLay w base e (.slice (some ⟨g, 0, none⟩) xs.length cap) xs) : Go.Sort.HoldsK Opr.cells 11 w g 0 xs.toArray := by
  obtain ⟨a, c, e1, hr, _⟩ := h.read
  obtain ⟨_, ⟨h2, _⟩ | ⟨g', cap', cur, he, _, hheap, _⟩⟩ := h
  · cases h2
  · cases he
    cases e1
    intro j hj
    rw [Go.Sort.size_flatK] at hj
    rw [Go.Sort.get_flatK _ _ _ _ hj]
    have hj' : j < xs.length * 11 := by simpa using hj
    obtain ⟨x, hx⟩ := at_some (show j / 11 < xs.length by omega)
    have hd : xs.toArray[j / 11]! = x := by
      rw [List.getElem!_toArray, List.getElem!_eq_getElem?_getD, hx]
      rfl
    rw [hd]
    have hl : j % 11 < (Opr.cells x).length := Nat.mod_lt _ (by decide)
    obtain ⟨b, off, e2, _, hc⟩ := hr (j / 11) x hx
    cases e2
    refine ⟨?_, ?_⟩
    · have h3 := hc (j % 11) _ (List.getElem?_eq_getElem hl)
      rw [show 0 + j / 11 * oprLay.sz + j % 11 = 0 + j by show 0 + j / 11 * 11 + j % 11 = 0 + j; omega] at h3
      rw [h3, List.getElem!_eq_getElem?_getD, List.getElem?_eq_getElem hl]
      rfl
    · simp [World.frozen?, hheap]
theorem rows_of_holdsO {w : World} {g : Nat} {d : Array Opr} (hg : g < w.heap.size) (h : Go.Sort.HoldsK Opr.cells 11 w g 0 d) : RowsAt oprLay w (some ⟨g, 0, none⟩) d.toList := by
  intro k x hk
  refine ⟨g, 0, rfl, hg, fun c v hv => ?_⟩
  have hkl : k < d.size := by simpa using (List.getElem?_eq_some_iff.1 hk).1
  have h1 := HoldsK.cells h (fun _ => rfl) hkl c v (by
    have : d[k]! = x := by
      rw [getElem!_pos d k hkl]
      have := (List.getElem?_eq_some_iff.1 hk).2
      simpa using this
    rw [this]
    exact hv)
  show w.cell? ⟨g, 0 + k * 11 + c, none⟩ = some v
  by_cases hc : c = 0
  · subst hc
    simpa [Addr.add] using h1
  · simpa [Addr.add, hc] using h1
set_option maxRecDepth 100000 in
set_option maxHeartbeats 1600000 in
theorem ins_nilO (w : World) : Calls Tryz.prog 72 #[.slice none 0 0, .int .i64 0, .int .i64 0, .func (.func 22) #[] #[]] w fun e w' => e = .returned (.tuple #[]) ∧ w' = w := by
  go_enter Tryz.func72, Tryz.ntmps72
  go_wp2_with fail
  go_loopw [8] (fun i wr => i = .int .i64 1 ∧ wr = w) (fun _ _ => 0)
  case atStart => exact ⟨rfl, rfl⟩
  case round =>
    obtain ⟨rfl, hw⟩ := hrel
    rw [hw]
    clear hw
    go_wp2_with fail
    go_end0
    exact ⟨rfl, rfl⟩
set_option maxRecDepth 100000 in
set_option maxHeartbeats 1600000 in
theorem stable_nilO (w : World) : Calls Tryz.prog 52 #[.slice none 0 0, .int .i64 0, .func (.func 22) #[] #[]] w fun e w' => e = .returned (.tuple #[]) ∧ w' = w := by
  have HI := Lib.hid (ins_nilO w)
  go_enter Tryz.func52, Tryz.ntmps52
  go_wp2_with fail
  go_loopw [7, 8] (fun i j wr => i = .int .i64 0 ∧ j = .int .i64 20 ∧ wr = w) (fun _ _ _ => 0)
  case atStart => exact ⟨rfl, rfl, rfl⟩
  case round =>
    obtain ⟨rfl, rfl, hw⟩ := hrel
    rw [hw]
    clear hw
    go_wp2_with fail
    refine HI.out.mono ?_
    rintro e w2 ⟨rfl, hw2⟩
    rw [hw2]
    clear hw2
    go_wp2_with fail
    go_loopw [6, 7, 8, 9] (fun s _ _ _ wr => s = .int .i64 20 ∧ wr = w) (fun _ _ _ _ _ => 0)
    case atStart => exact ⟨rfl, rfl⟩
    case round =>
      obtain ⟨rfl, hw⟩ := hrel
      rw [hw]
      clear hw
      go_wp2_with fail
      go_end0
      exact ⟨rfl, rfl⟩
set_option maxRecDepth 100000 in
set_option maxHeartbeats 1600000 in
theorem sort_nilO (w : World) : Calls Tryz.prog 21 #[.slice none 0 0, .func (.func 22) #[] #[]] w fun e w' => e = .returned (.tuple #[]) ∧ w' = w := by
  have HS := Lib.hid (stable_nilO w)
  go_enter Tryz.func21, Tryz.ntmps21
  go_wp2_with fail
  refine HS.out.mono ?_
  rintro e w2 ⟨rfl, hw2⟩
  rw [hw2]
  clear hw2
  go_wp2_with fail
  go_end0
  exact ⟨rfl, rfl⟩
end Go.Proofs.YtlenpifjkbcmdaaGreatDoor

namespace Go.Proofs.YtlenpifjkbcmdaaGreatDoor
open Go Go.RowKit Go.Lib Go.Sort Go.Proofs
/-- A slice, as a cell. -/
structure SlV where
  a : Option Addr
  n : Nat
  c : Nat
def SlV.val (s : SlV) : Value := .slice s.a s.n s.c
structure MsgV where
  kind : Int
  v : SlV
  w : SlV
  o : SlV
  p : SlV
def msgLay : Lay MsgV := { sz := 5, cells := fun m => [.int .i64 m.kind, m.v.val, m.w.val, m.o.val, m.p.val], len := fun _ => rfl, one := fun x v hv => by simp only [List.mem_cons, List.mem_nil_iff, or_false] at hv; rcases hv with rfl | rfl | rfl | rfl | rfl <;> rfl }
def nilS : SlV := ⟨none, 0, 0⟩
theorem msgInfo : (Tryz.prog.info? 38).map (fun i => (i.zero, i.size, i.bytes)) = some (some (.agg #[.int .i64 0, .slice none 0 0, .slice none 0 0, .slice none 0 0, .slice none 0 0]), 5, 104) := by kernel_rfl
theorem min20 (n : Nat) : min (n : Int) 20 = ((min n 20 : Nat) : Int) := by omega
/-- What is answered: nothing, or the first twenty of what is not had. -/
def AnsP (w : World) (set : List Opr) (vec : List Int) (e : Ending) (w' : World) : Prop :=
  ∃ S : List Opr, S.Perm (sinO set vec) ∧ S.Pairwise toldB ∧ Below w.heap.size w w' ∧
    ((S = [] ∧ e = .returned (.slice none 0 0)) ∨ (S ≠ [] ∧ ∃ g c sa sc, e = .returned (.slice (some ⟨g, 0, none⟩) 1 c) ∧ RowsAt msgLay w' (some ⟨g, 0, none⟩) [⟨2, nilS, nilS, ⟨sa, min S.length 20, sc⟩, nilS⟩] ∧ RowsAt oprLay w' sa (S.take 20)))
set_option maxRecDepth 100000 in
set_option maxHeartbeats 6400000 in
theorem answer_any (av : Option Addr) (cv : Nat) (vec : List Int) (a : Option Addr) (cap : Nat) (set : List Opr) (w : World) (hl : set.length ≤ 1000) (hvl : vec.length ≤ 1000) (ha : RowsAt oprLay w a set) (hv : RowsAt numLay w av vec) :
    Calls Tryz.prog 6 #[.agg #[.int .i64 1, .slice av vec.length cv, .slice none 0 0, .slice none 0 0, .slice none 0 0], .slice a set.length cap, .slice none 0 0] w fun e w' => AnsP w set vec e w' := by
  obtain ⟨i0, hi, hz0, hz1, hz2⟩ := info_parts msgInfo
  have Hi := Lib.hid hi
  have Hz0 := Lib.hid hz0
  have Hz1 := Lib.hid hz1
  have Hz2 := Lib.hid hz2
  clear hi hz0 hz1 hz2
  have hb1 := (Below.refl w.heap.size w).alloc (Nat.le_refl _) (.cells #[.int .i64 1, .slice av vec.length cv, .slice none 0 0, .slice none 0 0, .slice none 0 0] 38)
  have hB0 := VarAt.new w #[.int .i64 1, .slice av vec.length cv, .slice none 0 0, .slice none 0 0, .slice none 0 0] 38
  have HSi := Lib.hid (since_any a av cap cv set vec (w.alloc (.cells #[.int .i64 1, .slice av vec.length cv, .slice none 0 0, .slice none 0 0, .slice none 0 0] 38)) (by omega) (by omega) (ha.keeps hb1) (hv.keeps hb1))
  have hsl := sin_len set vec set.length
  rw [List.take_length] at hsl
  obtain ⟨l, hl2⟩ : ∃ l, sinO set vec = l := ⟨_, rfl⟩
  have HP : Hid (∀ S e w', S.Perm l → S.Pairwise toldB → Below w.heap.size w w' → ((S = [] ∧ e = .returned (.slice none 0 0)) ∨ (S ≠ [] ∧ ∃ g c sa sc, e = .returned (.slice (some ⟨g, 0, none⟩) 1 c) ∧ RowsAt msgLay w' (some ⟨g, 0, none⟩) [⟨2, nilS, nilS, ⟨sa, min S.length 20, sc⟩, nilS⟩] ∧ RowsAt oprLay w' sa (S.take 20))) → AnsP w set vec e w') :=
    Lib.hid (fun S e w' h1 h2 h3 h4 => ⟨S, by rw [hl2]; exact h1, h2, h3, h4⟩)
  rw [hl2] at HSi hsl
  have c0 := hB0.2.2 0 _ rfl
  have c1 := hB0.2.2 1 _ rfl
  have Hb1 := Lib.hid hb1
  clear ha hv hB0 hl2 hb1
  go_enter Tryz.func6, Tryz.ntmps6
  go_wp2_with fail
  refine HSi.out.mono ?_
  rintro e w2 ⟨v, rfl, ho, hb2⟩
  have hbw := Hb1.out.trans (hb2.mono Hb1.out.size)
  clear hb2 HSi c0 c1
  obtain ⟨va, vc, rfl, hrows, hcap⟩ := ho.read
  cases va with
  | none =>
    have hl0 : l = [] := by
      rcases ho.2 with ⟨e1, e2⟩ | ⟨g, cap', cur, e1, _⟩
      · exact List.length_eq_zero_iff.1 (by simpa using e2)
      · cases e1
    have hc0 : vc = 0 := by
      rcases ho.2 with ⟨e1, _⟩ | ⟨g, cap', cur, e1, _⟩
      · exact (Value.slice.inj e1).2.2
      · cases e1
    subst hl0 hc0
    have HS := Lib.hid (sort_nilO w2)
    clear ho hrows
    go_wp2_with fail
    refine HS.out.mono ?_
    rintro e w3 ⟨rfl, hw3⟩
    rw [hw3]
    clear hw3
    go_wp2_with fail
    refine wp_loop_rounds 1 ?_
    rw [rounds_succ]
    go_wp2_with fail
    go_ret
    exact HP.out [] _ _ (List.Perm.refl _) List.Pairwise.nil hbw (.inl ⟨rfl, rfl⟩)
  | some ad =>
    obtain ⟨g7, rfl⟩ : ∃ g, ad = ⟨g, 0, none⟩ := by
      rcases ho.2 with ⟨e1, _⟩ | ⟨g, cap', cur, e1, _⟩
      · cases e1
      · cases e1
        exact ⟨_, rfl⟩
    obtain ⟨hg1, hg2⟩ := ho.lt (k := g7) rfl
    have hcm : vc ≤ maxLen := by
      rcases ho.2 with ⟨e1, _⟩ | ⟨g, cap', cur, e1, _, _, _, h4, _⟩
      · cases e1
      · cases e1
        exact h4
    have hH := holds_of_ownO ho
    have HSS := Lib.hid (sortStable_anyO cmpT cmpT_swo g7 0 vc l.toArray w2 (fun m os dk _ x y => told_any x y _) hH hg2 (by simp; omega))
    rw [List.size_toArray] at HSS
    have HH := Lib.hid hH
    clear hH ho hrows
    go_wp2_with fail
    refine HSS.out.mono ?_
    rintro e w8 ⟨rfl, d8, hp8, hs8, hw8⟩
    have hb8 := hbw.trans (swk_belowO hw8 (B := w.heap.size) (by have := Hb1.out.size; simp at hg1; omega) hbw.size)
    have hH8 := SWK.holds hw8 hg2 HH.out hp8.1
    have hg8 := SWK.lt hw8 hg2
    have hr8 := rows_of_holdsO hg8 hH8
    have hz8 : d8.size = l.length := by simpa using hp8.1
    obtain ⟨S, hS⟩ : ∃ S, d8.toList = S := ⟨_, rfl⟩
    have hperm : S.Perm l := by
      have h1 := hp8.2.2
      simp only [List.extract_toArray, Array.toList_extract, List.extract_eq_take_drop, List.drop_zero, Nat.sub_zero] at h1
      rw [List.take_of_length_le (by simp [hz8]), List.take_of_length_le (Nat.le_refl _)] at h1
      rw [← hS]
      exact h1
    have hsort : S.Pairwise toldB := by
      rw [← hS, List.pairwise_iff_getElem]
      intro i j hi hj hij
      have hj' : j < d8.size := by simpa using hj
      have h1 := hs8 i j (Nat.zero_le _) hij (by rw [← hz8]; exact hj')
      rw [getElem!_pos d8 i (by omega), getElem!_pos d8 j hj'] at h1
      have h2 := cmpT_told h1
      simpa using h2
    have hSl : S.length = l.length := hperm.length_eq
    rw [hS] at hr8
    have Hfin := Lib.hid (And.intro hperm hsort)
    rw [← hSl]
    rw [← hSl] at hsl
    have hcapS : S.length ≤ vc := by omega
    have HSl := Lib.hid hSl
    clear hSl hp8 hs8 hw8 hH8 hz8 hS hperm hsort HSS HH
    by_cases hS0 : S.length = 0
    · have hSn : S = [] := List.length_eq_zero_iff.1 hS0
      subst hSn
      go_wp2_with fail
      refine wp_loop_rounds 1 ?_
      rw [rounds_succ]
      go_wp2_with fail
      go_ret
      exact HP.out [] _ _ Hfin.out.1 List.Pairwise.nil hb8 (.inl ⟨rfl, rfl⟩)
    · have q1 : decide ((S.length : Int) > 0) = true := decide_eq_true (by omega)
      have q2 : decide (0 < S.length) = true := decide_eq_true (by omega)
      have q3 : decide ((0 : Int) < (S.length : Int)) = true := decide_eq_true (by omega)
      have hmin := min20 S.length
      obtain ⟨m, hm⟩ : ∃ m, min S.length 20 = m := ⟨_, rfl⟩
      rw [hm] at hmin
      have hmS : m ≤ S.length := by omega
      have hslc := slice_high (P := Tryz.prog) Tryz.underlying22 (fun w => Tryz.sizeOf28 w) (some ⟨g7, 0, none⟩) S.length vc m (by omega)
      have Hm := Lib.hid hm
      clear hm
      go_wp2_with (at_builtin; refine wpList_append_rows _ rfl _ _ 32 rfl msgLay w8.heap.size 38 i0 (.agg #[.int .i64 0, .slice none 0 0, .slice none 0 0, .slice none 0 0, .slice none 0 0]) 104 Tryz.underlying32 Hi.out Hz0.out Hz1.out Hz2.out rfl (by decide) _ [] rfl (OwnRows.nil _ _ _ _) ⟨w8.heap.size, 0, none⟩ 1 ⟨2, nilS, nilS, ⟨some ⟨g7, 0, none⟩, m, vc⟩, nilS⟩ rfl (cells_new_at w8 w8.heap.size #[.int .i64 2, .slice none 0 0, .slice none 0 0, .slice (some ⟨g7, 0, none⟩) m vc, .slice none 0 0] 38 rfl) (by unfold maxLen; simp) (by simp) (by simp) ?_)
      intro v9 w9 ho9 hg9 _
      have hA8 := (Below.refl w8.heap.size w8).alloc (Nat.le_refl _) (.cells #[.int .i64 2, .slice none 0 0, .slice none 0 0, .slice (some ⟨g7, 0, none⟩) m vc, .slice none 0 0] 38)
      have hb89 := hA8.grown hg9 (by simp) (fun j e => by cases e)
      have hr9 := hr8.keeps hb89
      obtain ⟨a9, c9, rfl, hm9, _⟩ := ho9.read
      obtain ⟨g9, rfl⟩ : ∃ g, a9 = some ⟨g, 0, none⟩ := by
        rcases ho9.2 with ⟨e1, e2⟩ | ⟨g, cap', cur, e1, _⟩
        · simp at e2
        · cases e1
          exact ⟨_, rfl⟩
      have hb9 := hb8.trans (hb89.mono hb8.size)
      clear ho9 hg9 hA8 hb89 hr8
      go_wp2_with fail
      refine wp_loop_rounds 1 ?_
      rw [rounds_succ]
      go_wp2_with fail
      go_ret
      refine HP.out S _ _ Hfin.out.1 Hfin.out.2 hb9 (.inr ⟨fun e => by rw [e] at hS0; exact hS0 rfl, g9, c9, some ⟨g7, 0, none⟩, vc, rfl, ?_, hr9.take 20⟩)
      rw [Hm.out]
      exact hm9
end Go.Proofs.YtlenpifjkbcmdaaGreatDoor

namespace Go.Proofs.YtlenpifjkbcmdaaGreatDoor
open Go Go.RowKit Go.Lib
theorem msg_at {w : World} {g : Nat} {m : MsgV} (h : RowsAt msgLay w (some ⟨g, 0, none⟩) [m]) : g < w.heap.size ∧ w.cell? ⟨g, 0, none⟩ = some (.int .i64 m.kind) ∧ w.cell? ⟨g, 1, none⟩ = some m.v.val ∧ w.cell? ⟨g, 2, none⟩ = some m.w.val ∧ w.cell? ⟨g, 3, none⟩ = some m.o.val ∧ w.cell? ⟨g, 4, none⟩ = some m.p.val := by
  obtain ⟨b, off, e, hlt, hc⟩ := h 0 m rfl
  obtain ⟨rfl, rfl⟩ : g = b ∧ 0 = off := by cases e; exact ⟨rfl, rfl⟩
  have f := fun j v (hj : (msgLay.cells m)[j]? = some v) => hc j v hj
  simp only [Nat.zero_mul, Nat.add_zero, Nat.zero_add] at f
  exact ⟨hlt, f 0 _ rfl, f 1 _ rfl, f 2 _ rfl, f 3 _ rfl, f 4 _ rfl⟩

set_option maxRecDepth 100000 in
set_option maxHeartbeats 6400000 in
theorem law_sessionNearer (a : Option Addr) (cap : Nat) (l : List Opr) (hp : Option Addr) (hcp : Nat) (has : List Bool) (w : World) (ha : RowsAt oprLay w a l) (hl : l.length ≤ 140737488351232) (hh : RowsAt boolLay w hp has) :
    Calls Tryz.prog 3 #[.slice a l.length cap, .slice hp has.length hcp] w fun e w' => e = .returned (.bool true) ∧ Below w.heap.size w w' := by
  have HAw := Lib.hid awake23_any
  by_cases hN : 100 < l.length
  · clear ha hh
    go_enter Tryz.func3, Tryz.ntmps3
    go_wp2_with fail
    refine (HAw.out _).mono ?_
    rintro e w5 ⟨rfl, hb5⟩
    go_wp2_with fail
    go_ret
    exact ⟨rfl, hb5⟩
  have HR := Lib.hid ha
  have HB := Lib.hid hh
  clear ha hh
  go_enter Tryz.func3, Tryz.ntmps3
  go_wp2_with fail
  go_loopw [5, 6, 7] (fun v u i wr => ∃ k : Nat, k ≤ l.length ∧ i = .int .i64 k ∧ Hid (∀ x ∈ l.take k, x.name.size ≤ 200 ∧ x.man.size ≤ 1000) ∧ Below w.heap.size w wr ∧ (∃ a1 c1, v = .slice a1 (setO (l.take k)).length c1 ∧ RowsAt oprLay wr a1 (setO (l.take k)) ∧ (a1 = none → c1 = 0) ∧ (setO (l.take k)).length ≤ c1) ∧ ∃ a2 c2, u = .slice a2 (ownO l has k).length c2 ∧ RowsAt oprLay wr a2 (ownO l has k) ∧ (a2 = none → c2 = 0) ∧ (ownO l has k).length ≤ c2) (fun _ _ i _ => l.length - (RowKit.intOf i).toNat)
  case atStart => exact ⟨0, Nat.zero_le _, rfl, Lib.hid (fun x hx => by cases hx), Below.refl _ _, ⟨none, 0, rfl, RowsAt.nil _ _ _, fun _ => rfl, Nat.le_refl _⟩, none, 0, rfl, RowsAt.nil _ _ _, fun _ => rfl, Nat.le_refl _⟩
  case round =>
    obtain ⟨k, hk, rfl, Hbig, hb, ⟨a1, c1, rfl, hr1, hn1, hc1⟩, a2, c2, rfl, hr2, hn2, hc2⟩ := hrel
    by_cases hlt : k < l.length
    · obtain ⟨x, hx⟩ := at_some hlt
      obtain ⟨b, off, rfl, hbl, q0, q1, q2, q3, q4, q5, q6, q7, q8, q9, q10⟩ := opr_at (HR.out.keeps hb) hx
      by_cases hbg : 200 < x.name.size ∨ 1000 < x.man.size
      · clear hx hr1 hr2
        by_cases h2 : 200 < x.name.size
        · have e1 : decide ((x.name.size : Int) > 200) = true := decide_eq_true (by omega)
          have e2 : decide (200 < x.name.size) = true := decide_eq_true h2
          have e3 : decide ((200 : Int) < (x.name.size : Int)) = true := decide_eq_true (by omega)
          go_wp2_with fail
          refine (HAw.out _).mono ?_
          rintro e w9 ⟨rfl, hb9⟩
          go_wp2_with fail
          go_ret
          exact ⟨rfl, hb.trans (hb9.mono hb.size)⟩
        · have h3 : 1000 < x.man.size := by omega
          have e1 : decide ((x.name.size : Int) > 200) = false := decide_eq_false (by omega)
          have e2 : decide (200 < x.name.size) = false := decide_eq_false h2
          have e3 : decide ((200 : Int) < (x.name.size : Int)) = false := decide_eq_false (by omega)
          have f1 : decide ((x.man.size : Int) > 1000) = true := decide_eq_true (by omega)
          have f2 : decide (1000 < x.man.size) = true := decide_eq_true h3
          have f3 : decide ((1000 : Int) < (x.man.size : Int)) = true := decide_eq_true (by omega)
          go_wp2_with fail
          refine (HAw.out _).mono ?_
          rintro e w9 ⟨rfl, hb9⟩
          go_wp2_with fail
          go_ret
          exact ⟨rfl, hb.trans (hb9.mono hb.size)⟩
      · have hn200 : x.name.size ≤ 200 := by omega
        have hm1000 : x.man.size ≤ 1000 := by omega
        have Hbig2 := Lib.hid (show ∀ y ∈ l.take (k + 1), y.name.size ≤ 200 ∧ y.man.size ≤ 1000 by
          intro y hy
          rw [List.take_add_one, hx, Option.toList_some, List.mem_append, List.mem_singleton] at hy
          rcases hy with hy | rfl
          · exact Hbig.out y hy
          · exact ⟨hn200, hm1000⟩)
        have e1 : decide ((x.name.size : Int) > 200) = false := decide_eq_false (by omega)
        have e2 : decide (200 < x.name.size) = false := decide_eq_false (by omega)
        have e3 : decide ((200 : Int) < (x.name.size : Int)) = false := decide_eq_false (by omega)
        have f1 : decide ((x.man.size : Int) > 1000) = false := decide_eq_false (by omega)
        have f2 : decide (1000 < x.man.size) = false := decide_eq_false (by omega)
        have f3 : decide ((1000 : Int) < (x.man.size : Int)) = false := decide_eq_false (by omega)
        have hg := good_set (l.take k)
        rw [List.length_take] at hg
        replace hg := hg.2
        have hog := (own_good l has k hk).2.2
        have Hst := Lib.hid (show setO (l.take (k + 1)) = stepO (setO (l.take k)) x by rw [take_snoc hx, setO_snoc])
        have Hou := Lib.hid (own_step (has := has) hx)
        have HAd1 := Lib.hid fun a cap W hn hc (h : RowsAt oprLay W a (setO (l.take k))) => add_any a cap (setO (l.take k)) x W (by omega) (by omega) (by omega) hn hc h
        have HAd2 := Lib.hid fun a cap W hn hc (h : RowsAt oprLay W a (ownO l has k)) => add_any a cap (ownO l has k) x W (by omega) (by omega) (by omega) hn hc h
        generalize hs : setO (l.take k) = s at *
        generalize ho : ownO l has k = o at *
        have Hx := Lib.hid hx
        clear hx hs ho hbg
        have Hs1 := Lib.hid (show stepO s x = if (addO s x).2 = 0 then (addO s x).1 else s from rfl)
        have Hs2 := Lib.hid (show stepO o x = if (addO o x).2 = 0 then (addO o x).1 else o from rfl)
        generalize addO s x = ao at *
        generalize addO o x = bo at *
        obtain ⟨al, ae⟩ := ao
        obtain ⟨bl, be⟩ := bo
        dsimp only at HAd1 HAd2 Hs1 Hs2 Hou
        by_cases he : ae = 0
        · subst he
          have Hset := Lib.hid (Hst.out.trans (Hs1.out.trans (if_pos rfl)))
          by_cases hhas : k < has.length
          · obtain ⟨y, hy⟩ := at_some hhas
            obtain ⟨bb, bo, rfl, hbb, cb⟩ := bool_at (HB.out.keeps hb) hy
            cases y with
            | true =>
              have Hown := Lib.hid (Hou.out.trans (if_pos ⟨rfl, hy⟩))
              clear hy
              by_cases hbe : be = 0
              · subst hbe
                have Hown2 := Lib.hid (Hown.out.trans (Hs2.out.trans (if_pos rfl)))
                go_wp2_with fail
                refine (HAd1.out _ _ _ hn1 hc1 hr1).mono ?_
                rintro e w4 ⟨a4, c4, rfl, hr4, hn4, hc4, hb4⟩
                replace cb := (hb4.cell hbb).trans cb
                obtain ⟨b2, off2, hbe2, hbl2, r0, r1, r2, r3, r4, r5, r6, r7, r8, r9, r10⟩ := opr_at (HR.out.keeps (hb.trans (hb4.mono hb.size))) Hx.out
                cases hbe2
                clear q0 q1 q2 q3 q4 q5 q6 q7 q8 q9 q10
                go_wp2_with fail
                refine (HAd2.out _ _ _ hn2 hc2 (hr2.keeps hb4)).mono ?_
                rintro e w5 ⟨a5, c5, rfl, hr5, hn5, hc5, hb5⟩
                go_wp2_with fail
                go_roundw
                case rel => exact ⟨k + 1, by omega, by go_num, Hbig2, (hb.trans (hb4.mono hb.size)).trans (hb5.mono (Nat.le_trans hb.size hb4.size)), ⟨a4, c4, by rw [Hset.out], by rw [Hset.out]; exact (hr4.keeps hb5), hn4, by rw [Hset.out]; exact hc4⟩, a5, c5, by rw [Hown2.out], by rw [Hown2.out]; exact hr5, hn5, by rw [Hown2.out]; exact hc5⟩
                case measure => simp [RowKit.intOf]; omega
              · have f4 : (be == 0) = false := by simpa using hbe
                have Hown2 := Lib.hid (Hown.out.trans (Hs2.out.trans (if_neg hbe)))
                go_wp2_with fail
                refine (HAd1.out _ _ _ hn1 hc1 hr1).mono ?_
                rintro e w4 ⟨a4, c4, rfl, hr4, hn4, hc4, hb4⟩
                replace cb := (hb4.cell hbb).trans cb
                obtain ⟨b2, off2, hbe2, hbl2, r0, r1, r2, r3, r4, r5, r6, r7, r8, r9, r10⟩ := opr_at (HR.out.keeps (hb.trans (hb4.mono hb.size))) Hx.out
                cases hbe2
                clear q0 q1 q2 q3 q4 q5 q6 q7 q8 q9 q10
                go_wp2_with fail
                refine (HAd2.out _ _ _ hn2 hc2 (hr2.keeps hb4)).mono ?_
                rintro e w5 ⟨a5, c5, rfl, hr5, hn5, hc5, hb5⟩
                go_wp2_with fail
                go_roundw
                case rel => exact ⟨k + 1, by omega, by go_num, Hbig2, (hb.trans (hb4.mono hb.size)).trans (hb5.mono (Nat.le_trans hb.size hb4.size)), ⟨a4, c4, by rw [Hset.out], by rw [Hset.out]; exact (hr4.keeps hb5), hn4, by rw [Hset.out]; exact hc4⟩, a2, c2, by rw [Hown2.out], by rw [Hown2.out]; exact ((hr2.keeps hb4).keeps hb5), hn2, by rw [Hown2.out]; exact hc2⟩
                case measure => simp [RowKit.intOf]; omega
            | false =>
              have Hown2 := Lib.hid (Hou.out.trans (if_neg (fun e => by rw [hy] at e; cases e.2)))
              clear hy
              go_wp2_with fail
              refine (HAd1.out _ _ _ hn1 hc1 hr1).mono ?_
              rintro e w4 ⟨a4, c4, rfl, hr4, hn4, hc4, hb4⟩
              replace cb := (hb4.cell hbb).trans cb
              go_wp2_with fail
              go_roundw
              case rel => exact ⟨k + 1, by omega, by go_num, Hbig2, hb.trans (hb4.mono hb.size), ⟨a4, c4, by rw [Hset.out], by rw [Hset.out]; exact hr4, hn4, by rw [Hset.out]; exact hc4⟩, a2, c2, by rw [Hown2.out], by rw [Hown2.out]; exact (hr2.keeps hb4), hn2, by rw [Hown2.out]; exact hc2⟩
              case measure => simp [RowKit.intOf]; omega
          · have hy : has[k]? = none := List.getElem?_eq_none (by omega)
            have Hown2 := Lib.hid (Hou.out.trans (if_neg (fun e => by rw [hy] at e; cases e.2)))
            clear hy
            go_wp2_with fail
            refine (HAd1.out _ _ _ hn1 hc1 hr1).mono ?_
            rintro e w4 ⟨a4, c4, rfl, hr4, hn4, hc4, hb4⟩

            go_wp2_with fail
            go_roundw
            case rel => exact ⟨k + 1, by omega, by go_num, Hbig2, hb.trans (hb4.mono hb.size), ⟨a4, c4, by rw [Hset.out], by rw [Hset.out]; exact hr4, hn4, by rw [Hset.out]; exact hc4⟩, a2, c2, by rw [Hown2.out], by rw [Hown2.out]; exact (hr2.keeps hb4), hn2, by rw [Hown2.out]; exact hc2⟩
            case measure => simp [RowKit.intOf]; omega
        · have f4 : (ae != 0) = true := bne_iff_ne.2 he
          have f5 : (ae == 0) = false := beq_eq_false_iff_ne.2 he
          have Hset := Lib.hid (Hst.out.trans (Hs1.out.trans (if_neg he)))
          have Hown2 := Lib.hid (Hou.out.trans (if_neg (fun e => he e.1)))
          go_wp2_with fail
          refine (HAd1.out _ _ _ hn1 hc1 hr1).mono ?_
          rintro e w4 ⟨a4, c4, rfl, hr4, hn4, hc4, hb4⟩
          go_wp2_with fail
          go_roundw
          case rel => exact ⟨k + 1, by omega, by go_num, Hbig2, hb.trans (hb4.mono hb.size), ⟨a1, c1, by rw [Hset.out], by rw [Hset.out]; exact (hr1.keeps hb4), hn1, by rw [Hset.out]; exact hc1⟩, a2, c2, by rw [Hown2.out], by rw [Hown2.out]; exact (hr2.keeps hb4), hn2, by rw [Hown2.out]; exact hc2⟩
          case measure => simp [RowKit.intOf]; omega
    · have hkl : k = l.length := by omega
      subst hkl
      have hg := good_set l
      have hog := own_good l has l.length (Nat.le_refl _)
      rw [List.take_length] at hr1 hc1 hog ⊢
      rw [List.take_length] at Hbig
      have Hmm := Lib.hid (fun x (h : x ∈ setO l) => Hbig.out x (set_mem h))
      generalize setO l = s at *
      generalize ownO l has l.length = o at *
      obtain ⟨hgs, hgl⟩ := hg
      obtain ⟨hgo, hsub, hol⟩ := hog
      have hol : o.length ≤ s.length := by
        have := len_since hgs hgo hsub
        omega
      have hs1 : s.length ≤ 100 := by omega
      have HG := Lib.hid hgs
      have HO := Lib.hid (And.intro hgo hsub)
      clear hgs hgo hsub hlt
      go_wp2_with fail
      go_loopw [6, 12] (fun u i wx => ∃ (r : Nat) (o : List Opr), i = .int .i64 r ∧ Hid (GoodO o ∧ ∀ y ∈ o, y ∈ s) ∧ o.length ≤ s.length ∧ (20 * r ≤ o.length ∨ o.length = s.length) ∧ r ≤ 6 ∧ Below wr.heap.size wr wx ∧ ∃ a2 c2, u = .slice a2 o.length c2 ∧ RowsAt oprLay wx a2 o ∧ (a2 = none → c2 = 0) ∧ o.length ≤ c2) (fun u _ _ => s.length - (match u with | .slice _ n _ => n | _ => 0))
      case atStart => exact ⟨0, o, rfl, HO, hol, .inl (by omega), by omega, Below.refl _ _, a2, c2, rfl, hr2, hn2, hc2⟩
      case round =>
        clear hr2 hn2 hc2 hol HO
        obtain ⟨r, o, rfl, HO, hol, hr20, hr6, hbx, a2, c2, rfl, hr2, hn2, hc2⟩ := hrel
        rename_i wx
        have hrs := hr1.keeps hbx
        have hbw := hb.trans (hbx.mono hb.size)
        have HV := Lib.hid fun W (h : RowsAt oprLay W a2 o) => vector_any a2 c2 o W (by omega) h
        have hvl : (vecO o).length ≤ 15 := by unfold vecO; rw [padO_len]; exact lenO_le o
        by_cases hlt : o.length < s.length
        · have hlti : (o.length : Int) < (s.length : Int) := by omega
          have hr4 : r ≤ 4 := by omega
          have hr4i : ((r : Int) > 6) = False := by simp; omega
          have Hlen := Lib.hid (len_since HG.out HO.out.1 HO.out.2)
          go_wp2_with fail
          refine (HV.out _ hr2).mono ?_
          rintro e w1 ⟨vv, rfl, hov, hb1⟩
          obtain ⟨va, vc, rfl, hrv, hcv⟩ := hov.read
          clear hov
          have hrs1 := hrs.keeps hb1
          have hro1 := hr2.keeps hb1
          have HA := Lib.hid (answer_any va vc (vecO o) a1 c1 s w1 (by omega) (by omega) hrs1 hrv)
          clear hrv hr2
          go_wp2_with fail
          refine HA.out.mono ?_
          rintro e w2 ⟨S, hS1, hS2, hb2, hS3⟩
          have hSl := hS1.length_eq
          have hSo : S.length + o.length = s.length := by rw [hSl]; exact Hlen.out
          rcases hS3 with ⟨rfl, _⟩ | ⟨hSn, g, cq, sa, sc, rfl, hm, hrS⟩
          · simp at hSo
            omega
          obtain ⟨T, hT⟩ : ∃ T, S.take 20 = T := ⟨_, rfl⟩
          have hTl : min S.length 20 = T.length := by rw [← hT, List.length_take]; omega
          have hTs : T.length = min (s.length - o.length) 20 := by omega
          have hTmin : min (20 : Int) ((s.length : Int) - (o.length : Int)) = (T.length : Int) := by omega
          have hTmin' : min (20 : Int) (((s.length - o.length : Nat)) : Int) = (T.length : Int) := by omega
          have hw64 : wrap64 ((s.length : Int) - (o.length : Int)) = (s.length : Int) - (o.length : Int) := IntWalk.wrap64_in _ ⟨by omega, by omega⟩
          rw [hTl] at hm
          rw [hT] at hrS
          have hmemS : ∀ y ∈ S, y ∈ s := fun y hy => ((mem_since HG.out HO.out.1 HO.out.2).1 ((hS1.mem_iff).1 hy)).1
          have hmemT : ∀ y ∈ T, y ∈ s := fun y hy => hmemS y (List.mem_of_mem_take (by rw [hT]; exact hy))
          have hE0 : errM ⟨2, [], [], T, []⟩ = 0 := if_pos (rightM_iff.2 ⟨rfl, ⟨by simp, fun x hx => by cases hx⟩, ⟨by simp, fun x hx => by cases hx⟩, ⟨by simp only; omega, fun x hx => by rw [opOk, beq_iff_eq]; exact HG.out.right x (hmemT x hx)⟩, ⟨by simp, fun x hx => by cases hx⟩⟩)
          have HE := Lib.hid fun W h => mencode_any ⟨2, [], [], T, []⟩ none none sa none 0 0 sc 0 W (by simp) (by simp) (by simp only; omega) (by simp) (fun x hx => by have := Hmm.out x (hmemT x hx); omega) (RowsAt.nil _ _ _) (RowsAt.nil _ _ _) h (RowsAt.nil _ _ _)
          rw [hE0] at HE
          dsimp only [List.length] at HE
          have HTS := Lib.hid (show ∀ (j : Nat) x, T[j]? = some x → S[j]? = some x by
            intro j x hx
            rw [← hT, List.getElem?_take] at hx
            split at hx
            · exact hx
            · cases hx)
          have HN0 := Lib.hid (near_start (set := s) (S := S) HO.out.1)
          have HNs := Lib.hid fun (j : Nat) (now : List Opr) (h : NearO s o S j now) (x : Opr) (hx : S[j]? = some x) => near_step HG.out HO.out.1 HO.out.2 hS1 hS2 hs1 h hx
          have HNe := Lib.hid fun (j : Nat) (now : List Opr) (h : NearO s o S j now) => near_sub HG.out HO.out.1 HO.out.2 hS1 h
          have HmT := Lib.hid hmemT
          have hb12 := hb1.trans (hb2.mono hb1.size)
          have hro2 := hro1.keeps hb2
          have hrs2 := hrs1.keeps hb2
          have hbw2 := hbw.trans (hb12.mono hbw.size)
          obtain ⟨hgl, m0, m1, m2, m3, m4⟩ := msg_at hm
          dsimp only [SlV.val, nilS] at m0 m1 m2 m3 m4
          have HTs := Lib.hid hTs
          clear hTs hSl hS1 hS2 hSn hTl hE0 hmemS hmemT hT hrs1 hro1 HV
          go_wp2_with fail
          refine (HE.out _ hrS).mono ?_
          rintro e w3 ⟨rfl, hb3⟩
          have hro3 := hro2.keeps hb3
          have hrS3 := hrS.keeps hb3
          have hm3 := hm.keeps hb3
          have hbx3 := hb12.trans (hb3.mono hb12.size)
          clear m0 m1 m2 m3 m4 hro2 hrS hm hgl
          go_wp2_with fail
          go_loopw [6, 16] (fun u i wy => ∃ (j : Nat) (cur : List Opr), i = .int .i64 j ∧ j ≤ T.length ∧ Hid (NearO s o S j cur) ∧ cur.length = o.length + j ∧ Below w3.heap.size w3 wy ∧ ∃ a5 c5, u = .slice a5 cur.length c5 ∧ RowsAt oprLay wy a5 cur ∧ (a5 = none → c5 = 0) ∧ cur.length ≤ c5) (fun _ i _ => T.length - (RowKit.intOf i).toNat)
          case atStart => exact ⟨0, o, rfl, Nat.zero_le _, HN0, rfl, Below.refl _ _, a2, c2, rfl, hro3, hn2, hc2⟩
          case round =>
            obtain ⟨j, cur, rfl, hj, HNr, hcl, hby, a5, c5, rfl, hr5, hn5, hc5⟩ := hrel
            obtain ⟨hgl, m0, m1, m2, m3, m4⟩ := msg_at (hm3.keeps hby)
            dsimp only [SlV.val, nilS] at m0 m1 m2 m3 m4
            by_cases hjl : j < T.length
            · have hjli : (j : Int) < (T.length : Int) := by omega
              obtain ⟨x, hx⟩ := at_some hjl
              obtain ⟨bx, offx, hbe, hbl, q0, q1, q2, q3, q4, q5, q6, q7, q8, q9, q10⟩ := opr_at (hrS3.keeps hby) hx
              subst hbe
              obtain ⟨hst, hnr⟩ := HNs.out _ _ HNr.out _ (HTS.out j x hx)
              have hsz := Hmm.out x (HmT.out x (List.mem_of_getElem? hx))
              have HAd := Lib.hid fun a cap W hn hc (h : RowsAt oprLay W a cur) => add_any a cap cur x W (by omega) (by omega) (by omega) hn hc h
              rw [hst] at HAd
              have hil := ins_len cur x
              generalize insO cur x = cur2 at *
              dsimp only at HAd
              have hw6 : wrap64 ((cur.length : Int) + 1) = (cur2.length : Int) := by rw [IntWalk.wrap64_in _ ⟨by omega, by omega⟩]; omega
              have Hil := Lib.hid hil
              have Hcl := Lib.hid hcl
              have Hnr := Lib.hid hnr
              clear hx hst hil hsz hcl hnr
              go_wp2_with fail
              refine (HAd.out _ _ _ hn5 hc5 hr5).mono ?_
              rintro e w6 ⟨a6, c6, rfl, hr6', hn6, hc6, hb6⟩
              go_wp2_with fail
              go_roundw
              case rel => exact ⟨j + 1, cur2, by go_num, by omega, Hnr, by have := Hil.out; have := Hcl.out; omega, hby.trans (hb6.mono hby.size), a6, c6, rfl, hr6', hn6, hc6⟩
              case measure => simp [RowKit.intOf]; omega
            · obtain rfl : j = T.length := by omega
              have Hsub := Lib.hid (HNe.out _ _ HNr.out)
              have hbz := hbx3.trans (hby.mono hbx3.size)
              have Hcl := Lib.hid hcl
              clear hcl
              go_wp2_with fail
              go_roundw
              case rel => exact ⟨r + 1, cur, by go_num, Lib.hid ⟨HNr.out.good, Hsub.out⟩, by have := HTs.out; have := Hcl.out; omega, by have := HTs.out; have := Hcl.out; omega, by omega, hbx.trans (hbz.mono hbx.size), a5, c5, rfl, hr5, hn5, hc5⟩
              case measure => have := HTs.out; have := Hcl.out; simp; omega
        · have hos : o = s := near_end HG.out HO.out.1 HO.out.2 (by omega)
          subst hos
          have hSm : Hid (∀ W, RowsAt oprLay W a2 o → RowsAt oprLay W a1 o → Calls Tryz.prog 9 #[.slice a2 o.length c2, .slice a1 o.length c1] W fun e w' => e = .returned (.bool true) ∧ ∃ n, w' = W.drewN n) := Lib.hid fun W h1 h2 => by
            have h := oprs_any a2 a1 c2 c1 o o W (by omega) h1 h2
            rw [decide_eq_true rfl] at h
            exact h
          have HN := Lib.hid (since_none HG.out)
          have Hvl := Lib.hid hvl
          go_wp2_with fail
          refine (vector_any a1 c1 o _ (by omega) hrs).mono ?_
          rintro e w1 ⟨vv, rfl, hov, hb1⟩
          obtain ⟨va, vc, rfl, hrv, hcv⟩ := hov.read
          clear hov
          have hrs1 := hrs.keeps hb1
          have hr21 := hr2.keeps hb1
          go_wp2_with fail
          refine (hSm.out _ hr21 hrs1).mono ?_
          rintro e w2 ⟨rfl, n2, rfl⟩
          have hbn := belowDrew (Below.refl w1.heap.size w1) n2
          have hrsn := hrs1.keeps hbn
          have hrvn := hrv.keeps hbn
          have hr2n := hr21.keeps hbn
          go_wp2_with fail
          refine (HV.out _ hr2n).mono ?_
          rintro e w3 ⟨v3, rfl, hov3, hb3⟩
          obtain ⟨va3, vc3, rfl, hrv3, hcv3⟩ := hov3.read
          clear hov3
          have hrv13 := hrvn.keeps hb3
          have hrs3 := hrsn.keeps hb3
          go_wp2_with fail
          refine (covers_self va3 va vc3 vc (vecO o) _ (by omega) hrv3 hrv13).mono ?_
          rintro e w4 ⟨rfl, rfl⟩
          go_wp2_with fail
          refine (answer_any va vc (vecO o) a1 c1 o _ (by omega) (by have := Hvl.out; omega) hrs3 hrv13).mono ?_
          rintro e w5 ⟨S, hS1, hS2, hb5, hS3⟩
          rw [HN.out, List.perm_nil] at hS1
          rcases hS3 with ⟨_, rfl⟩ | ⟨hSn, _⟩
          · have hB5 := (hbw.trans (hb1.mono hbw.size))
            have hB6 := hB5.trans (hbn.mono hB5.size)
            have hB7 := hB6.trans (hb3.mono hB6.size)
            have hB8 := hB7.trans (hb5.mono hB7.size)
            go_wp2_with fail
            refine (HAw.out _).mono ?_
            rintro e w9 ⟨rfl, hb9⟩
            go_wp2_with fail
            go_ret
            exact ⟨rfl, hB8.trans (hb9.mono hB8.size)⟩
          · exact absurd hS1 hSn
end Go.Proofs.YtlenpifjkbcmdaaGreatDoor

