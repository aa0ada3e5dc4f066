/-
  's[k:]' of a slice that is only read. Of no program. GlobTurned.
-/
import Derived.Test.YtalkckalbmaghaaDoorStructs
import Derived.Test.YtalkckalbmaghaaDoorGlp15
import Derived.Test.YtalkckalbmaghaaDoorAppends
namespace Go.Proofs.YtalkckalbmaghaaDoor
open Go Go.RowKit
def lowA (a : Option Addr) (k c sz : Nat) : Option Addr := if c = k then a else a.map (·.add (k * sz))
theorem lowA_nil {a : Option Addr} {k c sz : Nat} (h : a = none → c = 0) : lowA a k c sz = none → c - k = 0 := by
  unfold lowA
  split
  · omega
  · intro h2
    cases a with
    | none => rw [h rfl]; simp
    | some a => cases h2
theorem rows_low {α : Type} {L : Lay α} {w : World} {a : Option Addr} {xs : List α} {c : Nat} (h : RowsAt L w a xs) (hc : xs.length ≤ c) (k : Nat) : RowsAt L w (lowA a k c L.sz) (xs.drop k) := by
  unfold lowA
  split
  · have : xs.drop k = [] := List.drop_eq_nil_of_le (by omega)
    rw [this]
    exact RowsAt.nil _ _ _
  · intro j x hj
    rw [List.getElem?_drop] at hj
    obtain ⟨b, off, e, _⟩ := h _ _ hj
    subst e
    have := h.drop k j x (by rw [List.getElem?_drop]; exact hj)
    have e2 : (⟨b, off, none⟩ : Addr).add (k * L.sz) = ⟨b, off + k * L.sz, none⟩ := by
      unfold Addr.add
      split
      · simp only [Addr.mk.injEq, true_and, and_true]; omega
      · rfl
    rw [Option.map_some, e2]
    exact this
section
variable {P : Program} {t e : TypeId} {sz : Nat} (ht : P.underlying t = some (.slice e)) (hs : ∀ w, (sizeOf e).run P w = .ok sz w)
include ht hs
theorem slice_low (a : Option Addr) (n c k : Nat) (h : k ≤ n) (W : World) : (Instr.slice t (.slice a n c) (some (.int .i64 k)) none none).run P W = .ok (.slice (lowA a k c sz) (n - k) (c - k)) W := by
  have he : P.elem t = e := by unfold Program.elem; rw [ht]
  have ht' : P.underlying t = some (.slice (P.elem t)) := by rw [he]; exact ht
  rw [run_slice_l W t a n c ht' .i64 k (by omega) (by omega), he, hs]
  simp [sliced, lowA, Result.andThen]
theorem slice_high (a : Option Addr) (n c k : Nat) (h : k ≤ c) (W : World) : (Instr.slice t (.slice a n c) none (some (.int .i64 k)) none).run P W = .ok (.slice a k c) W := by
  have he : P.elem t = e := by unfold Program.elem; rw [ht]
  have ht' : P.underlying t = some (.slice (P.elem t)) := by rw [he]; exact ht
  rw [run_slice_h W t a n c ht' .i64 k (by omega) (by omega), he, hs]
  simp only [sliced, Result.andThen, Int.toNat_natCast, Nat.zero_mul, Nat.sub_zero]
  split
  · rfl
  · cases a with
    | none => rfl
    | some a => simp [Addr.add]
end
end Go.Proofs.YtalkckalbmaghaaDoor

namespace Go.Proofs.YtalkckalbmaghaaDoor
open Go Go.RowKit Go.Lib

/-- What the best rule is, whatever the order. -/
theorem best_inv (p : ByteArray) (l : List Rul) : ∀ k, match bestG p l k with
    | none => ∀ x ∈ l.take k, saysG p x = false
    | some y => y ∈ l.take k ∧ saysG p y = true ∧ ∀ x ∈ l.take k, saysG p x = true → longG x.text ≤ longG y.text ∧ (longG x.text = longG y.text → x.kind = 2 → y.kind = 2)
  | 0 => by
    show ∀ x ∈ l.take 0, _
    intro x hx
    rw [List.take_zero] at hx
    cases hx
  | k + 1 => by
    have ih := best_inv p l k
    cases hx : l[k]? with
    | none =>
      have e1 : bestG p l (k + 1) = bestG p l k := by simp only [bestG, hx]
      have e2 : l.take (k + 1) = l.take k := by rw [List.take_add_one, hx, Option.toList_none, List.append_nil]
      rw [e1, e2]
      exact ih
    | some x =>
      have e2 : l.take (k + 1) = l.take k ++ [x] := by rw [List.take_add_one, hx, Option.toList_some]
      rw [bestG_step hx, e2]
      cases hs : saysG p x with
      | false =>
        rw [Bool.false_and, if_neg Bool.false_ne_true]
        revert ih
        cases bestG p l k with
        | none =>
          intro ih z hz
          rcases List.mem_append.1 hz with hz | hz
          · exact ih z hz
          · rw [List.mem_singleton.1 hz]
            exact hs
        | some y =>
          rintro ⟨h1, h2, h3⟩
          refine ⟨List.mem_append_left _ h1, h2, fun z hz hsz => ?_⟩
          rcases List.mem_append.1 hz with hz | hz
          · exact h3 z hz hsz
          · rw [List.mem_singleton.1 hz, hs] at hsz
            cases hsz
      | true =>
        rw [Bool.true_and]
        revert ih
        cases bestG p l k with
        | none =>
          intro ih
          rw [show betterG none x = true from rfl, if_pos rfl]
          refine ⟨List.mem_append_right _ (List.mem_singleton.2 rfl), hs, fun z hz hsz => ?_⟩
          rcases List.mem_append.1 hz with hz | hz
          · rw [ih z hz] at hsz
            cases hsz
          · rw [List.mem_singleton.1 hz]
            exact ⟨Int.le_refl _, fun _ h => h⟩
        | some y =>
          rintro ⟨h1, h2, h3⟩
          rw [better_some]
          by_cases hb : (decide (longG y.text < longG x.text) || (longG x.text == longG y.text && x.kind == 2)) = true
          · rw [if_pos hb]
            rw [Bool.or_eq_true, decide_eq_true_eq, Bool.and_eq_true, beq_iff_eq, beq_iff_eq] at hb
            refine ⟨List.mem_append_right _ (List.mem_singleton.2 rfl), hs, fun z hz hsz => ?_⟩
            rcases List.mem_append.1 hz with hz | hz
            · have h4 := (h3 z hz hsz).1
              refine ⟨by rcases hb with hb | hb <;> omega, fun e hk => ?_⟩
              rcases hb with hb | hb
              · omega
              · exact hb.2
            · rw [List.mem_singleton.1 hz]
              exact ⟨Int.le_refl _, fun _ h => h⟩
          · rw [if_neg hb]
            rw [Bool.or_eq_true, decide_eq_true_eq, Bool.and_eq_true, beq_iff_eq, beq_iff_eq] at hb
            refine ⟨List.mem_append_left _ h1, h2, fun z hz hsz => ?_⟩
            rcases List.mem_append.1 hz with hz | hz
            · exact h3 z hz hsz
            · rw [List.mem_singleton.1 hz]
              refine ⟨?_, fun e hk => absurd (.inr ⟨e, hk⟩) hb⟩
              have : ¬ longG y.text < longG x.text := fun h => hb (.inl h)
              omega
theorem best_all (p : ByteArray) (l : List Rul) : match bestG p l l.length with
    | none => ∀ x ∈ l, saysG p x = false
    | some y => y ∈ l ∧ saysG p y = true ∧ ∀ x ∈ l, saysG p x = true → longG x.text ≤ longG y.text ∧ (longG x.text = longG y.text → x.kind = 2 → y.kind = 2) := by
  have := best_inv p l l.length
  rw [List.take_length] at this
  exact this
theorem any_mem {l m : List Rul} (h : ∀ x, x ∈ l ↔ x ∈ m) (f : Rul → Bool) : l.any f = m.any f := by
  rw [Bool.eq_iff_iff, List.any_eq_true, List.any_eq_true]
  constructor
  · rintro ⟨x, hx, hf⟩
    exact ⟨x, (h x).1 hx, hf⟩
  · rintro ⟨x, hx, hf⟩
    exact ⟨x, (h x).2 hx, hf⟩
theorem says_kind {p : ByteArray} {x : Rul} (h : saysG p x = true) : x.kind = 1 ∨ x.kind = 2 := by
  unfold saysG at h
  rw [Bool.and_eq_true, Bool.or_eq_true, beq_iff_eq, beq_iff_eq] at h
  exact h.1
/-- **The same rules match the same, in whatever order, however often.** -/
theorem match_mem {l m : List Rul} (h : ∀ x, x ∈ l ↔ x ∈ m) (p : ByteArray) (dir : Bool) : matchG l p dir = matchG m p dir := by
  have h1 := best_all p l
  have h2 := best_all p m
  unfold matchG
  rw [any_mem h, any_mem h]
  revert h1 h2
  cases bestG p l l.length with
  | none =>
    cases bestG p m m.length with
    | none => intros; rfl
    | some z =>
      rintro h1 ⟨h2, h3, _⟩
      have := h1 z ((h z).2 h2)
      rw [h3] at this
      cases this
  | some y =>
    cases bestG p m m.length with
    | none =>
      rintro ⟨h1, h3, _⟩ h2
      have := h2 y ((h y).1 h1)
      rw [h3] at this
      cases this
    | some z =>
      rintro ⟨a1, a2, a3⟩ ⟨b1, b2, b3⟩
      have c1 := a3 z ((h z).2 b1) b2
      have c2 := b3 y ((h y).1 a1) a2
      have hk : (y.kind == 1) = (z.kind == 1) := by
        have e : longG y.text = longG z.text := by omega
        rcases says_kind a2 with k1 | k1 <;> rcases says_kind b2 with k2 | k2
        · rw [k1, k2]
        · have := c1.2 e.symm k2
          omega
        · have := c2.2 e k1
          omega
        · rw [k1, k2]
      dsimp only
      rw [hk]
theorem turn_mem (l : List Rul) (n : Nat) (x : Rul) : x ∈ l ↔ x ∈ l.drop n ++ l.take n ++ l.reverse := by
  rw [List.mem_append, List.mem_append, List.mem_reverse]
  constructor
  · exact fun h => .inr h
  · rintro ((h | h) | h)
    · exact List.mem_of_mem_drop h
    · exact List.mem_of_mem_take h
    · exact h
set_option maxRecDepth 100000 in
set_option maxHeartbeats 3200000 in
theorem law_globTurned (a : Option Addr) (cap : Nat) (l : List Rul) (p : ByteArray) (w : World) (hl : l.length ≤ 140737488351232) (ha : RowsAt rulLay w a l) (hcap : l.length ≤ cap) (hnil : a = none → cap = 0) (hm : MaxAt w) : Calls Tryd.prog 7 #[.slice a l.length cap, .string p] w fun e w' => e = .returned (.bool true) ∧ Below w.heap.size w w' := by
  have HAW := Lib.hid fun W hM => awake_any W hM
  have HF := Lib.hid (few09_any a cap l w hl ha)
  cases hf : fewR 100 1000 l with
  | false =>
    rw [hf] at HF
    go_enter Tryd.func7, Tryd.ntmps7
    go_wp2_with fail
    refine HF.out.mono ?_
    rintro e w1 ⟨rfl, rfl⟩
    go_wp2_with fail
    refine (HAW.out _ hm).mono ?_
    rintro e w1 ⟨rfl, hb1⟩
    go_wp2_with fail
    go_ret
    exact ⟨rfl, hb1⟩
  | true =>
    rw [hf] at HF
    obtain ⟨hl1, hsz⟩ := fewR_parts hf
    by_cases h1 : p.size ≤ 1000
    · by_cases h0 : l.length = 0
      · have h00 : ((l.length : Int) == 0) = true := by rw [h0]; rfl
        clear h0
        go_enter Tryd.func7, Tryd.ntmps7
        go_wp2_with fail
        refine HF.out.mono ?_
        rintro e w1 ⟨rfl, rfl⟩
        go_wp2_with fail
        refine (HAW.out _ hm).mono ?_
        rintro e w1 ⟨rfl, hb1⟩
        go_wp2_with fail
        go_ret
        exact ⟨rfl, hb1⟩
      · have hne : ((l.length : Int) == 0) = false := by rw [beq_eq_false_iff_ne]; omega
        obtain ⟨i0, hi, hz0, hz1, hz2⟩ := info_parts rulInfo
        have Hi := Lib.hid hi
        have Hz0 := Lib.hid hz0
        have Hz1 := Lib.hid hz1
        have Hz2 := Lib.hid hz2
        clear hi hz0 hz1 hz2
        obtain ⟨n, hn⟩ : ∃ n : Nat, p.size % l.length = n := ⟨_, rfl⟩
        have hnl : n < l.length := by rw [← hn]; exact Nat.mod_lt _ (by omega)
        have hmod : (p.size : Int) % (l.length : Int) = (n : Int) := by rw [← hn]; rfl
        have Hmem := Lib.hid (match_mem (turn_mem l n) p)
        have HM1 := Lib.hid fun d W h => match_any a cap l p d W (fun x hx => by have := hsz x hx; omega) (by omega) (by omega) h
        have HM2 := Lib.hid fun a c d W h => match_any a c (l.drop n ++ l.take n ++ l.reverse) p d W (fun x hx => by have := hsz x ((turn_mem l n x).2 hx); omega) (by simp; omega) (by omega) h
        have HA := Lib.hid ha
        have hsl := slice_high (P := Tryd.prog) Tryd.underlying23 (fun w => Tryd.sizeOf33 w) a l.length cap n (by omega)
        obtain ⟨la, hla⟩ : ∃ la, lowA a n cap rulLay.sz = la := ⟨_, rfl⟩
        have hsl2 : ∀ W, (Instr.slice 23 (.slice a l.length cap) (some (.int .i64 (n : Int))) none none).run Tryd.prog W = .ok (.slice la (l.length - n) (cap - n)) W := by
          intro W
          rw [← hla]
          exact slice_low (P := Tryd.prog) Tryd.underlying23 (fun w => Tryd.sizeOf33 w) a l.length cap n (by omega) W
        have hln : la = none → cap - n = 0 := by rw [← hla]; exact lowA_nil hnil
        have hlow := rows_low ha hcap n
        rw [hla] at hlow
        clear hla hn hf ha hsz
        go_enter Tryd.func7, Tryd.ntmps7
        go_wp2_with fail
        refine HF.out.mono ?_
        rintro e w1 ⟨rfl, rfl⟩
        go_wp2_with (at_builtin; refine wpList_append_from _ rfl _ _ 23 rfl rulLay w.heap.size 33 i0 (.agg #[.int .i64 0, .string ⟨#[]⟩]) 24 Tryd.underlying23 Hi.out Hz0.out Hz1.out Hz2.out rfl (by decide) _ [] rfl (OwnRows.nil _ _ _ _) la (cap - n) (l.length - n) (l.drop n) rfl (by simp) hlow hln (by unfold maxLen; simp; omega) (by simp; omega) (Nat.le_refl _) ?_)
        intro v1 w1 ho1 hg1 _
        replace ho1 : OwnRows rulLay w1 w.heap.size 33 v1 (l.drop n) := by simpa using ho1
        have hb1 := (Below.refl w.heap.size w).grown hg1 (Nat.le_refl _) (fun j ej => by cases ej)
        have htake := (HA.out.take n).keeps hb1
        clear hg1 hlow
        go_wp2_with (at_builtin; refine wpList_append_from _ rfl _ _ 23 rfl rulLay w.heap.size 33 i0 (.agg #[.int .i64 0, .string ⟨#[]⟩]) 24 Tryd.underlying23 Hi.out Hz0.out Hz1.out Hz2.out rfl (by decide) _ _ rfl ho1 a cap n (l.take n) rfl (by simp; omega) htake hnil (by unfold maxLen; simp; omega) (by simp; omega) hb1.size ?_)
        intro v2 w2 ho2 hg2 _
        have hb2 := hb1.grown hg2 hb1.size (fun j ej => (ho1.lt ej).1)
        clear hg2 ho1 htake hb1
        go_wp2_with fail
        go_loopw [6, 7] (fun v i wr => ∃ k : Nat, k ≤ l.length ∧ i = .int .i64 ((l.length : Int) - 1 - k) ∧ OwnRows rulLay wr w.heap.size 33 v (l.drop n ++ l.take n ++ l.reverse.take k) ∧ Below w.heap.size w wr) (fun _ i _ => (RowKit.intOf i + 1).toNat)
        case atStart => exact ⟨0, Nat.zero_le _, by go_num, by simpa using ho2, hb2⟩
        case round =>
          obtain ⟨k, hk, rfl, ho, hb⟩ := hrel
          by_cases hlt : k < l.length
          · obtain ⟨j, hj⟩ : ∃ j : Nat, l.length = k + 1 + j := ⟨l.length - (k + 1), by omega⟩
            have e1 : (l.length : Int) - 1 - (k : Int) = (j : Int) := by omega
            have hjl : j < l.length := by omega
            have Hj := Lib.hid hj
            rw [e1]
            obtain ⟨x, hx⟩ := at_some hjl
            obtain ⟨b, off, rfl, hbl, c0, c1⟩ := rul_at (HA.out.keeps hb) hx
            have Hst := Lib.hid (show l.reverse.take (k + 1) = l.reverse.take k ++ [x] by
              rw [List.take_add_one, List.getElem?_reverse (by omega), show l.length - 1 - k = j by omega, hx]
              rfl)
            have hlen : (l.drop n ++ l.take n ++ l.reverse.take k).length ≤ 1000 := by simp; omega
            obtain ⟨xk, xt⟩ := x
            dsimp only at c0 c1
            clear hx hj e1
            have Hacc : Hid (l.drop n ++ l.take n ++ l.reverse.take (k + 1) = (l.drop n ++ l.take n ++ l.reverse.take k) ++ [⟨xk, xt⟩]) := Lib.hid (by rw [Hst.out, List.append_assoc (l.drop n ++ l.take n)])
            generalize l.drop n ++ l.take n ++ l.reverse.take k = acc at *
            go_wp2_with (at_builtin; refine wpList_append_rows _ rfl _ _ 23 rfl rulLay w.heap.size 33 i0 (.agg #[.int .i64 0, .string ⟨#[]⟩]) 24 Tryd.underlying23 Hi.out Hz0.out Hz1.out Hz2.out rfl (by decide) _ acc rfl (ho.alloc _) ⟨wr.heap.size, 0, none⟩ 1 ⟨xk, xt⟩ rfl (cells_new_at wr wr.heap.size #[.int .i64 xk, .string xt] 33 rfl) (by unfold maxLen; omega) (by omega) (by have := hb.size; simp; omega) ?_)
            intro va w5 ho5 hg5 _
            have hb5 := (hb.alloc hb.size (.cells #[.int .i64 xk, .string xt] 33)).grown hg5 (by have := hb.size; simp; omega) (fun j ej => (ho.lt ej).1)
            clear hg5 ho
            go_wp2_with fail
            go_roundw
            case rel => exact ⟨k + 1, by omega, by have := Hj.out; go_num, by rw [Hacc.out]; exact ho5, hb5⟩
            case measure => simp [RowKit.intOf]
          · obtain rfl : k = l.length := by omega
            rw [show l.reverse.take l.length = l.reverse by rw [← List.length_reverse, List.take_length]] at ho
            have HM3 := Lib.hid fun a c d W h => (show Calls Tryd.prog 20 #[.slice a (l.drop n ++ l.take n ++ l.reverse).length c, .string p, .bool d] W fun e w' => e = .returned (.bool (matchG l p d)) ∧ Below W.heap.size W w' by have := HM2.out a c d W h; rwa [← Hmem.out d] at this)
            generalize l.drop n ++ l.take n ++ l.reverse = m at *
            obtain ⟨av, cv, rfl, hrow, hcv⟩ := ho.read
            have har := HA.out.keeps hb
            have HT := Lib.hid (HM1.out true)
            have HFa := Lib.hid (HM1.out false)
            have HT3 := Lib.hid fun a c => HM3.out a c true
            have HF3 := Lib.hid fun a c => HM3.out a c false
            clear HM1 HM2 HM3 Hmem ho
            generalize matchG l p true = r1 at *
            generalize matchG l p false = r2 at *
            have q1 : (r1 == r1) = true := beq_self_eq_true r1
            have q2 : (r2 == r2) = true := beq_self_eq_true r2
            go_wp2_with fail
            refine (HT.out _ har).mono ?_
            rintro e w5 ⟨rfl, hb5⟩
            replace har := har.keeps hb5
            replace hrow := hrow.keeps hb5
            replace hb := hb.trans (hb5.mono hb.size)
            go_wp2_with fail
            refine (HT3.out _ _ _ hrow).mono ?_
            rintro e w6 ⟨rfl, hb6⟩
            replace har := har.keeps hb6
            replace hrow := hrow.keeps hb6
            replace hb := hb.trans (hb6.mono hb.size)
            go_wp2_with fail
            refine (HFa.out _ har).mono ?_
            rintro e w7 ⟨rfl, hb7⟩
            replace hrow := hrow.keeps hb7
            replace hb := hb.trans (hb7.mono hb.size)
            go_wp2_with fail
            refine (HF3.out _ _ _ hrow).mono ?_
            rintro e w8 ⟨rfl, hb8⟩
            replace hb := hb.trans (hb8.mono hb.size)
            go_wp2_with fail
            refine (HAW.out _ (hm.keeps hb)).mono ?_
            rintro e w9 ⟨rfl, hb9⟩
            go_wp2_with fail
            go_ret
            exact ⟨rfl, hb.trans (hb9.mono hb.size)⟩
    · go_enter Tryd.func7, Tryd.ntmps7
      go_wp2_with fail
      refine HF.out.mono ?_
      rintro e w1 ⟨rfl, rfl⟩
      go_wp2_with fail
      refine (HAW.out _ hm).mono ?_
      rintro e w1 ⟨rfl, hb1⟩
      go_wp2_with fail
      go_ret
      exact ⟨rfl, hb1⟩
end Go.Proofs.YtalkckalbmaghaaDoor

