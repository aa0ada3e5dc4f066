/-
  arbourref02: the sum of bytes, bit by bit. 'out = append(out, x)' at a step of a region that draws its order. Of no program. Slices that have just been built, and 'out = append(out, more...)'. Of no program. 'append(own, read...)' at a step of a region that draws its order. Of no program. arbourref15: files in a list: where a name stands, and how many bytes there are. 's[k:]' of a slice that is only read. Of no program. A disk, as it lies in memory: its maps, its acts; wrong, dies, Dead, Arm. A disk: wrong, dies, Read.
-/
import Derived.Test.YtgglheelhbfgiaaGreatDoorMg6
import Derived.Laws.BitsAllLaws
import Derived.IntWalk
import Derived.Test.YtgglheelhbfgiaaGreatDoorMg1
import Derived.Deep.AppendLies
import Derived.WalkSmall
import Derived.Deep.RegionHeld3
import Derived.Laws.OwnMore
import Derived.Laws.AppendOwnNone
import Derived.Test.YtgglheelhbfgiaaGreatDoorMg5
import Derived.Laws.Cover1
import Derived.Test.YtgglheelhbfgiaaGreatDoorMg2
namespace Go.Proofs.YtgglheelhbfgiaaGreatDoor
open Go Go.RowKit Go.Lib
theorem half_xor (a b : Nat) : (a ^^^ b) / 2 = a / 2 ^^^ b / 2 := by
  have := Nat.shiftRight_xor_distrib (a := a) (b := b) (i := 1)
  simpa [Nat.shiftRight_eq_div_pow] using this
theorem odd_xor (a b : Nat) : (a ^^^ b) % 2 = a % 2 ^^^ b % 2 := by
  have := Nat.xor_mod_two_pow (a := a) (b := b) (n := 1)
  simpa using this
theorem stepC_up (h z : Nat) : stepC (2 * h ^^^ z) = h ^^^ stepC z := by
  unfold stepC
  rw [half_xor, odd_xor, show 2 * h / 2 = h by omega, show 2 * h % 2 = 0 by omega, Nat.zero_xor, Nat.xor_assoc]
theorem iterC_up : ∀ (n h z : Nat), iterC n (2 ^ n * h ^^^ z) = h ^^^ iterC n z
  | 0, h, z => by
    show 2 ^ 0 * h ^^^ z = h ^^^ z
    rw [Nat.pow_zero, Nat.one_mul]
  | n + 1, h, z => by
    show stepC (iterC n (2 ^ (n + 1) * h ^^^ z)) = h ^^^ stepC (iterC n z)
    rw [show 2 ^ (n + 1) * h = 2 ^ n * (2 * h) by rw [Nat.pow_succ, Nat.mul_assoc], iterC_up n (2 * h) z, stepC_up]
/-- Eight steps of a sum with a byte. -/
theorem iterC_byte (x : Nat) (b : UInt8) : iterC 8 (x ^^^ b.toNat) = nextC x b := by
  have hb := b.toNat_lt
  have e : x ^^^ b.toNat = 2 ^ 8 * (x / 256) ^^^ (x % 256 ^^^ b.toNat) := by
    have h1 : x = 2 ^ 8 * (x / 256) ^^^ x % 256 := by
      have h2 := Nat.two_pow_add_eq_or_of_lt (b := x % 256) (i := 8) (Nat.mod_lt x (show 0 < 256 by decide)) (x / 256)
      have h3 : 2 ^ 8 * (x / 256) &&& x % 256 = 0 := by
        apply Nat.eq_of_testBit_eq
        intro i
        rw [Nat.testBit_and, Nat.zero_testBit]
        by_cases hi : i < 8
        · rw [Nat.testBit_two_pow_mul]
          simp
          omega
        · have hm : x % 256 < 2 ^ i := Nat.lt_of_lt_of_le (Nat.mod_lt x (show 0 < 256 by decide)) (show 2 ^ 8 ≤ 2 ^ i from Nat.pow_le_pow_right (by decide) (by omega))
          rw [Nat.testBit_lt_two_pow hm]
          simp
      have h4 : 2 ^ 8 * (x / 256) ^^^ x % 256 = 2 ^ 8 * (x / 256) ||| x % 256 := by
        apply Nat.eq_of_testBit_eq
        intro i
        have h5 : (2 ^ 8 * (x / 256) &&& x % 256).testBit i = false := by rw [h3]; exact Nat.zero_testBit i
        rw [Nat.testBit_and] at h5
        rw [Nat.testBit_xor, Nat.testBit_or]
        cases h6 : (2 ^ 8 * (x / 256)).testBit i <;> cases h7 : (x % 256).testBit i <;> simp_all
      rw [h4, ← h2]
      omega
    rw [← Nat.xor_assoc, ← h1]
  rw [e, iterC_up]
  rfl
theorem ofInt_i64 (a : Nat) (ha : a < 18446744073709551616) : (BitVec.ofInt 64 (a : Int)).toNat = a := ofInt_u64 a ha
theorem i64_xor_nat (a b : Nat) (ha : a < 9223372036854775808) (hb : b < 9223372036854775808) : bits .xor .i64 (a : Int) (b : Int) = ((a ^^^ b : Nat) : Int) := by
  have hx : a ^^^ b < 2 ^ 63 := Nat.xor_lt_two_pow (by omega) (by omega)
  show IntKind.i64.wrap ((BitVec.ofInt 64 (a : Int) ^^^ BitVec.ofInt 64 (b : Int)).toNat : Int) = _
  rw [BitVec.toNat_xor, ofInt_u64 a (by omega), ofInt_u64 b (by omega)]
  exact IntWalk.i64_in _ (by omega)
theorem zero_and : bits .and .i64 0 4294967295 = 0 := by kernel_rfl
theorem zero_xor32 : bits .xor .i64 0 4294967295 = ((4294967295 : Nat) : Int) := by kernel_rfl
theorem odd_step {x : Nat} (h : x % 2 = 1) : stepC x = x / 2 ^^^ 3988292384 := by
  unfold stepC
  rw [h, Nat.one_mul]
theorem even_step {x : Nat} (h : x % 2 = 0) : stepC x = x / 2 := by
  unfold stepC
  rw [h, Nat.zero_mul, Nat.xor_zero]
theorem ones_sub {x : Nat} (h : x < 4294967296) : x ^^^ 4294967295 = 4294967295 - x := by
  have h1 := ones_xor h
  have h2 : bits .xor .u32 IntKind.u32.max (x : Int) = ((4294967295 ^^^ x : Nat) : Int) := u32_xor_nat 4294967295 x (by decide) h
  rw [h2] at h1
  rw [Nat.xor_comm]
  omega
set_option maxRecDepth 100000 in
set_option maxHeartbeats 1600000 in
theorem rmore_any (d : ByteArray) (w : World) (hd : d.size ≤ 100000000) :
    Calls Tryz.prog 129 #[.int .i64 0, .string d] w fun e w' => e = .returned (.int .i64 (sumC d.data.toList : Nat)) ∧ w' = w := by
  have hz1 := zero_and
  have hz2 := zero_xor32
  have Hl := Lib.hid (show d.data.toList.length = d.size from rfl)
  have Hsum := Lib.hid (show sumC d.data.toList = 4294967295 - d.data.toList.foldl nextC 4294967295 from rfl)
  go_enter Tryz.func129, Tryz.ntmps129
  go_wp2_with fail
  go_loopw [5, 6] (fun x i wr => ∃ k : Nat, k ≤ d.size ∧ i = .int .i64 k ∧ x = .int .i64 ((d.data.toList.take k).foldl nextC 4294967295 : Nat) ∧ wr = w) (fun _ i _ => d.size - (RowKit.intOf i).toNat)
  case atStart => exact ⟨0, Nat.zero_le _, rfl, by first | rfl | simp, rfl⟩
  case round =>
    obtain ⟨k, hk, rfl, rfl, rfl⟩ := hrel
    by_cases hlt : k < d.size
    · have hx := fold_lt (d.data.toList.take k) 4294967295 (by decide)
      obtain ⟨b, hb⟩ : ∃ b, d.data.toList[k]? = some b := ⟨_, List.getElem?_eq_getElem (by rw [Hl.out]; exact hlt)⟩
      have Hst := Lib.hid (show (d.data.toList.take (k + 1)).foldl nextC 4294967295 = iterC 8 ((d.data.toList.take k).foldl nextC 4294967295 ^^^ b.toNat) by rw [iterC_byte, List.take_add_one, hb, Option.toList_some, List.foldl_append]; rfl)
      generalize (d.data.toList.take k).foldl nextC 4294967295 = x at *
      have hdk : (d[k]'hlt).toNat = b.toNat := by
        obtain ⟨h1, h2⟩ := List.getElem?_eq_some_iff.1 hb
        rw [← h2]
        rfl
      have hbt := b.toNat_lt
      have hy : x ^^^ b.toNat < 4294967296 := Nat.xor_lt_two_pow (n := 32) (by omega) (by omega)
      have hxb := i64_xor_nat x b.toNat (by omega) (by omega)
      have hki : (k : Int) < (d.size : Int) := by omega
      clear hb hx
      generalize x ^^^ b.toNat = y at *
      go_wp2_with fail
      clear hxb hdk
      go_loopw [5, 7, 8] (fun x i _ wx => ∃ q : Nat, q ≤ 8 ∧ i = .int .i64 q ∧ x = .int .i64 (iterC q y : Nat) ∧ wx = wr) (fun _ i _ _ => 8 - (RowKit.intOf i).toNat)
      case atStart => exact ⟨0, by omega, rfl, rfl, rfl⟩
      case round =>
        obtain ⟨q, hq, rfl, rfl, rfl⟩ := hrel
        by_cases hq8 : q < 8
        · have hz := iterC_lt hy q
          have Hs := Lib.hid (show iterC (q + 1) y = stepC (iterC q y) from rfl)
          generalize iterC q y = z at *
          have hqi : (q : Int) < 8 := by omega
          by_cases ho : z % 2 = 1
          · have Ho := Lib.hid (odd_step ho)
            have hoi : (z : Int) % 2 = 1 := by omega
            have hzd : (z : Int) / 2 = ((z / 2 : Nat) : Int) := by omega
            have hxx := i64_xor_nat (z / 2) 3988292384 (by omega) (by omega)
            have hxx2 : bits .xor .i64 ((z : Int) / 2) 3988292384 = ((z / 2 ^^^ 3988292384 : Nat) : Int) := by rw [hzd]; exact hxx
            clear hzd hxx ho
            go_wp2_with fail
            go_roundw
            case rel => exact ⟨q + 1, by omega, by go_num, by rw [Hs.out, Ho.out], (by first | rfl | trivial)⟩
            case measure => simp [RowKit.intOf]; omega
          · have Ho := Lib.hid (even_step (x := z) (by omega))
            have hoi : (z : Int) % 2 = 0 := by omega
            clear ho
            go_wp2_with fail
            go_roundw
            case rel => exact ⟨q + 1, by omega, by go_num, by rw [Hs.out, Ho.out, show ((z / 2 : Nat) : Int) = (z : Int) / 2 by omega], (by first | rfl | trivial)⟩
            case measure => simp [RowKit.intOf]; omega
        · obtain rfl : q = 8 := by omega
          go_wp2_with fail
          go_roundw
          case rel => exact ⟨k + 1, by omega, by go_num, by rw [Hst.out], (by first | rfl | trivial)⟩
          case measure => simp [RowKit.intOf]; omega
    · obtain rfl : k = d.size := by omega
      have hfull : d.data.toList.take d.size = d.data.toList := List.take_of_length_le (Nat.le_of_eq Hl.out)
      rw [hfull]
      have hx := fold_lt d.data.toList 4294967295 (by decide)
      generalize d.data.toList.foldl nextC 4294967295 = x at *
      have hxo : bits .xor .i64 (x : Int) 4294967295 = ((x ^^^ 4294967295 : Nat) : Int) := i64_xor_nat x 4294967295 (by omega) (by decide)
      rw [ones_sub hx] at hxo
      generalize 4294967295 - x = y at *
      clear hz1 hz2 hx
      go_wp2_with fail
      go_ret
      exact ⟨by rw [Hsum.out]; rfl, rfl⟩
set_option maxRecDepth 100000 in
theorem rsum_any (d : ByteArray) (w : World) (hd : d.size ≤ 100000000) :
    Calls Tryz.prog 98 #[.string d] w fun e w' => e = .returned (.int .i64 (sumC d.data.toList : Nat)) ∧ w' = w := by
  have HM := Lib.hid (rmore_any d w hd)
  go_enter Tryz.func98, Tryz.ntmps98
  go_wp2_with fail
  refine HM.out.mono ?_
  rintro e w4 ⟨rfl, hw⟩
  rw [hw]
  clear hw
  go_wp2_with fail
  go_ret
  exact ⟨rfl, rfl⟩
end Go.Proofs.YtgglheelhbfgiaaGreatDoor

namespace Go.Proofs.YtgglheelhbfgiaaGreatDoor
open Go Go.RowKit
theorem OwnRows.drewN {α : Type} {L : Lay α} {w : World} {base : Nat} {e : TypeId} {v : Value} {xs : List α} (h : OwnRows L w base e v xs) (n : Nat) : OwnRows L (w.drewN n) base e v xs := h.below (Go.below_drewN (Below.refl _ _) n)
section
variable {α : Type} {P : Program} (w : World)
theorem step_append_rows {ops : Array Oper} {o : Oper} {a : Act} {K : Act → World → Prop} {Q : Exit → Act → World → Prop} {E : Prop} (hgd : o.guard = none) (s x : Operand) (t : TypeId)
    (ho : o.op = .call { callee := .builtin .append, args := #[s, x], argTypes := #[t, t] })
    (L : Lay α) (base : Nat) (e : TypeId) (i : TypeInfo) (z : Value) (bytes : Nat) (ht : P.underlying t = some (.slice e)) (hi : P.info? e = some i) (hz : i.zero = some z)
    (hsize : i.size = L.sz) (hby : i.bytes = bytes) (hzs : z.cells.size = L.sz) (hsz : 0 < L.sz)
    (v : Value) (xs : List α) (hs : a.eval s = v) (hown : OwnRows L w base e v xs)
    (ad : Addr) (c : Nat) (y : α) (hx : a.eval x = .slice (some ad) 1 c) (hnews : ∀ j u, (L.cells y)[j]? = some u → w.cell? (ad.add j) = some u)
    (h63 : xs.length + 1 ≤ maxLen) (hbytes : (xs.length + 1) * bytes ≤ 140737488355328) (hbase : base ≤ w.heap.size)
    (h : ∀ v' w', OwnRows L w' base e v' (xs ++ [y]) → w.grownBy w' v.ownBlock → K (a.put o.dst v') w') :
    if Region.wanted o (yielded ops a.tmps) = true then Oper.wp P o a w K Q else E := by
  refine step_append_lies w hgd s x t ho base e i z L.sz bytes ht hi hz hsize hby hzs hsz v xs.length (flat L xs) hs hown ad 1 c (L.cells y) hx (by rw [L.len]; omega) hnews (L.one y) (by omega) h63 hbytes hbase _ rfl ?_
  intro g cap w' h1 h2 _ _
  refine h _ w' ?_ h2
  unfold OwnRows
  rw [flat_snoc, List.length_append]
  exact h1
end
end Go.Proofs.YtgglheelhbfgiaaGreatDoor

namespace Go.Proofs.YtgglheelhbfgiaaGreatDoor
open Go Go.RowKit
section
variable {α : Type} {P : Program} (w : World)
theorem OwnRows.lit (L : Lay α) (b base : Nat) (e : TypeId) (cs : Array Value) (n : Nat) (xs : List α) (hbb : b = w.heap.size) (hb : base ≤ w.heap.size) (hm : n ≤ maxLen) (hn : xs.length = n) (hcs : cs.toList = flat L xs) :
    OwnRows L (w.alloc (.cells cs e)) base e (.slice (some ⟨b, 0, none⟩) n n) xs := by
  subst hbb; subst hn
  unfold OwnRows
  rw [← hcs]
  exact World.ownsRow_lit w cs xs.length hb hm (by rw [← Array.length_toList, hcs, flat_length])
/-- 'out = append(out, more...)', at the operation. -/
theorem wpList_append_all {ops : Array Oper} {rest : List Oper} {o : Oper} {a : Act} {Q : Exit → Act → World → Prop} (hgd : o.guard = none) (s x : Operand) (t : TypeId)
    (ho : o.op = .call { callee := .builtin .append, args := #[s, x], argTypes := #[t, t] })
    (L : Lay α) (base : Nat) (e : TypeId) (i : TypeInfo) (z : Value) (bytes : Nat) (ht : P.underlying t = some (.slice e)) (hi : P.info? e = some i) (hz : i.zero = some z)
    (hsize : i.size = L.sz) (hby : i.bytes = bytes) (hzs : z.cells.size = L.sz) (hsz : 0 < L.sz)
    (v : Value) (xs : List α) (hs : a.eval s = v) (hown : OwnRows L w base e v xs)
    (u : Value) (ys : List α) (base' : Nat) (hx : a.eval x = u) (hu : OwnRows L w base' e u ys)
    (h63 : xs.length + ys.length ≤ maxLen) (hbytes : (xs.length + ys.length) * bytes ≤ 140737488355328) (hbase : base ≤ w.heap.size)
    (h : ∀ v' w', OwnRows L w' base e v' (xs ++ ys) → w.grownBy w' v.ownBlock → (v'.ownBlock = v.ownBlock ∨ v'.ownBlock = some w.heap.size) → wpList P ops Q rest (a.put o.dst v') w') :
    wpList P ops Q (o :: rest) a w := by
  rcases hu.2 with ⟨hu0, hy⟩ | ⟨g, cap, cur, rfl, hg, hgg, hcap, _⟩
  · have : ys = [] := List.length_eq_zero_iff.1 (by simpa using hy)
    subst this
    subst hu0
    refine wpList_append_own_none hgd s x t ho base e i L.sz ht hi v xs.length (flat L xs) hs hown hx ?_
    have := h v w (by simpa using hown) ⟨rfl, rfl, rfl, Nat.le_refl _, fun _ _ _ => rfl⟩ (.inl rfl)
    exact this
  · refine wpList_append_own_at (w := w) hgd s x t ho base e i z L.sz bytes ht hi hz hsize hby hzs hsz v xs.length (flat L xs) hs hown ⟨g, 0, none⟩ ys.length cap (flat L ys) hx (flat_length L ys) (World.ownsRow.cells hu (g := g) rfl) (flat_one L ys) h63 hbytes hbase ?_
    intro v' w' h1 h2 _ h4
    refine h v' w' ?_ h2 h4
    unfold OwnRows
    rw [flat_append, List.length_append]
    exact h1
/-- 'out = append(out, xs...)', xs a slice that is only read. -/
theorem wpList_append_from {ops : Array Oper} {rest : List Oper} {o : Oper} {a : Act} {Q : Exit → Act → World → Prop} (hgd : o.guard = none) (s x : Operand) (t : TypeId)
    (ho : o.op = .call { callee := .builtin .append, args := #[s, x], argTypes := #[t, t] })
    (L : Lay α) (base : Nat) (e : TypeId) (i : TypeInfo) (z : Value) (bytes : Nat) (ht : P.underlying t = some (.slice e)) (hi : P.info? e = some i) (hz : i.zero = some z)
    (hsize : i.size = L.sz) (hby : i.bytes = bytes) (hzs : z.cells.size = L.sz) (hsz : 0 < L.sz)
    (v : Value) (xs : List α) (hs : a.eval s = v) (hown : OwnRows L w base e v xs)
    (ad : Option Addr) (c m : Nat) (ys : List α) (hx : a.eval x = .slice ad m c) (hm : ys.length = m) (hu : RowsAt L w ad ys) (hnil : ad = none → c = 0)
    (h63 : xs.length + ys.length ≤ maxLen) (hbytes : (xs.length + ys.length) * bytes ≤ 140737488355328) (hbase : base ≤ w.heap.size)
    (h : ∀ v' w', OwnRows L w' base e v' (xs ++ ys) → w.grownBy w' v.ownBlock → (v'.ownBlock = v.ownBlock ∨ v'.ownBlock = some w.heap.size) → wpList P ops Q rest (a.put o.dst v') w') :
    wpList P ops Q (o :: rest) a w := by
  subst hm
  cases ad with
  | none =>
    obtain rfl := hnil rfl
    have : ys = [] := by
      cases ys with
      | nil => rfl
      | cons y ys =>
        obtain ⟨b, off, e, _⟩ := hu 0 y rfl
        cases e
    subst this
    refine wpList_append_own_none hgd s x t ho base e i L.sz ht hi v xs.length (flat L xs) hs hown hx ?_
    exact h v w (by simpa using hown) ⟨rfl, rfl, rfl, Nat.le_refl _, fun _ _ _ => rfl⟩ (.inl rfl)
  | some ad =>
    refine wpList_append_own_at (w := w) hgd s x t ho base e i z L.sz bytes ht hi hz hsize hby hzs hsz v xs.length (flat L xs) hs hown ad ys.length c (flat L ys) hx (flat_length L ys) (rows_flat hsz hu) (flat_one L ys) h63 hbytes hbase ?_
    intro v' w' h1 h2 _ h4
    refine h v' w' ?_ h2 h4
    unfold OwnRows
    rw [flat_append, List.length_append]
    exact h1
end
end Go.Proofs.YtgglheelhbfgiaaGreatDoor

namespace Go.Proofs.YtgglheelhbfgiaaGreatDoor
open Go Go.RowKit
section
variable {α : Type} {P : Program} (w : World)
theorem run_append_list (t ty : TypeId) (L : Lay α) (base : Nat) (e : TypeId) (i : TypeInfo) (z : Value) (bytes : Nat) (ht : P.underlying t = some (.slice e)) (hi : P.info? e = some i) (hz : i.zero = some z)
    (hsize : i.size = L.sz) (hby : i.bytes = bytes) (hzs : z.cells.size = L.sz) (hsz : 0 < L.sz)
    (v : Value) (xs : List α) (hown : OwnRows L w base e v xs)
    (ad : Option Addr) (c : Nat) (ys : List α) (hu : RowsAt L w ad ys) (hnil : ad = none → c = 0)
    (h63 : xs.length + ys.length ≤ maxLen) (hbytes : (xs.length + ys.length) * bytes ≤ 140737488355328) (hbase : base ≤ w.heap.size) :
    ∃ v' w', (Builtin.append_ #[t, t] ty #[v, .slice ad ys.length c]).run P w = .ok v' w' ∧ OwnRows L w' base e v' (xs ++ ys) ∧ w.grownBy w' v.ownBlock ∧ (v'.ownBlock = v.ownBlock ∨ v'.ownBlock = some w.heap.size) := by
  cases ad with
  | none =>
    obtain rfl := hnil rfl
    have : ys = [] := by
      cases ys with
      | nil => rfl
      | cons y ys =>
        obtain ⟨b, off, e, _⟩ := hu 0 y rfl
        cases e
    subst this
    exact ⟨v, w, run_append_owned_none (P := P) (w := w) base t ty e i L.sz ht hi v xs.length (flat L xs) hown, by simpa using hown, ⟨rfl, rfl, rfl, Nat.le_refl _, fun _ _ _ => rfl⟩, .inl rfl⟩
  | some ad =>
    obtain ⟨v', w', hr, h1, h2, _, h4⟩ := run_append_own_at (P := P) w base t ty e i z L.sz bytes ht hi hz hsize hby hzs hsz v xs.length (flat L xs) hown ad ys.length c (flat L ys) (flat_length L ys) (rows_flat hsz hu) (flat_one L ys) h63 hbytes hbase
    refine ⟨v', w', hr, ?_, h2, h4⟩
    unfold OwnRows
    rw [flat_append, List.length_append]
    exact h1
theorem step_append_list {ops : Array Oper} {o : Oper} {a : Act} {K : Act → World → Prop} {Q : Exit → Act → World → Prop} {E : Prop} (hgd : o.guard = none) (s x : Operand) (t : TypeId)
    (ho : o.op = .call { callee := .builtin .append, args := #[s, x], argTypes := #[t, t] })
    (L : Lay α) (base : Nat) (e : TypeId) (i : TypeInfo) (z : Value) (bytes : Nat) (ht : P.underlying t = some (.slice e)) (hi : P.info? e = some i) (hz : i.zero = some z)
    (hsize : i.size = L.sz) (hby : i.bytes = bytes) (hzs : z.cells.size = L.sz) (hsz : 0 < L.sz)
    (v : Value) (xs : List α) (hs : a.eval s = v) (hown : OwnRows L w base e v xs)
    (ad : Option Addr) (c m : Nat) (ys : List α) (hx : a.eval x = .slice ad m c) (hm : ys.length = m) (hu : RowsAt L w ad ys) (hnil : ad = none → c = 0)
    (h63 : xs.length + ys.length ≤ maxLen) (hbytes : (xs.length + ys.length) * bytes ≤ 140737488355328) (hbase : base ≤ w.heap.size)
    (h : ∀ v' w', OwnRows L w' base e v' (xs ++ ys) → w.grownBy w' v.ownBlock → (v'.ownBlock = v.ownBlock ∨ v'.ownBlock = some w.heap.size) → K (a.put o.dst v') w') :
    if Region.wanted o (yielded ops a.tmps) = true then Oper.wp P o a w K Q else E := by
  subst hm
  rw [if_pos (by simp [Region.wanted, hgd])]
  obtain ⟨v', w', hr, h1, h2, h4⟩ := run_append_list (P := P) w t o.type L base e i z bytes ht hi hz hsize hby hzs hsz v xs hown ad c ys hu hnil h63 hbytes hbase
  unfold Oper.wp execOp
  simp only [ho, resolve, invoke, builtin, Sem.run_bind, Sem.run_pure, Result.andThen_ok, List.map_toArray, List.map_cons, List.map_nil, hs, hx, hr]
  exact h v' w' h1 h2 h4
end
end Go.Proofs.YtgglheelhbfgiaaGreatDoor

namespace Go.Proofs.YtgglheelhbfgiaaGreatDoor
open Go Go.RowKit Go.Lib
theorem upto_nextK {α : Type} {l : List α} {Q : α → Prop} {k : Nat} {x : α} (h : ∀ j y, j < k → l[j]? = some y → Q y) (hx : l[k]? = some x) (hq : Q x) : ∀ j y, j < k + 1 → l[j]? = some y → Q y := fun j y hj hy => by
  by_cases e : j = k
  · subst e
    rw [hx] at hy
    cases hy
    exact hq
  · exact h j y (by omega) hy
theorem fl_one (x : ByteArray × ByteArray) (v : Value) (hv : v ∈ [Value.string x.1, Value.string x.2]) : v.oneCell' = true := by
  simp only [List.mem_cons, List.mem_nil_iff, or_false] at hv
  rcases hv with h | h <;> rw [h] <;> rfl
def flLay : Lay (ByteArray × ByteArray) := { sz := 2, cells := fun x => [.string x.1, .string x.2], len := fun _ => rfl, one := fl_one }
theorem fl_at {w : World} {a : Option Addr} {xs : Fls} (h : RowsAt flLay w a xs) {k : Nat} {x : ByteArray × ByteArray} (hk : xs[k]? = some x) : ∃ b off, a = some ⟨b, off, none⟩ ∧ b < w.heap.size ∧ w.cell? ⟨b, off + k * 2, none⟩ = some (.string x.1) ∧ w.cell? ⟨b, off + k * 2 + 1, none⟩ = some (.string x.2) := by
  obtain ⟨b, off, e, hlt, hc⟩ := h k x hk
  exact ⟨b, off, e, hlt, hc 0 _ rfl, hc 1 _ rfl⟩
def befK (p : ByteArray) (x : ByteArray × ByteArray) : Bool := Op.bytesLess x.1.toList p.toList
/-- Where a name stands, or would stand. -/
def atN : Fls → ByteArray → Nat
  | [], _ => 0
  | x :: r, p => if befK p x then atN r p + 1 else 0
def isN : Fls → ByteArray → Bool
  | [], _ => false
  | x :: r, p => if befK p x then isN r p else decide (x.1 = p)
theorem at15_here : ∀ {l : Fls} {p : ByteArray} {k : Nat} {x : ByteArray × ByteArray}, (∀ j y, j < k → l[j]? = some y → befK p y = true) → l[k]? = some x → befK p x = false → atN l p = k ∧ isN l p = decide (x.1 = p)
  | [], p, k, x, _, hx, _ => by simp at hx
  | y :: r, p, 0, x, _, hx, hb => by
    cases hx
    unfold atN isN
    rw [hb]
    exact ⟨rfl, rfl⟩
  | y :: r, p, k + 1, x, h, hx, hb => by
    have hy := h 0 y (Nat.succ_pos _) rfl
    obtain ⟨h1, h2⟩ := at15_here (l := r) (p := p) (k := k) (x := x) (fun j z hj hz => h (j + 1) z (Nat.succ_lt_succ hj) hz) hx hb
    unfold atN isN
    rw [hy, if_pos rfl, if_pos rfl, h1]
    exact ⟨rfl, h2⟩
theorem at15_end : ∀ {l : Fls} {p : ByteArray}, (∀ j y, j < l.length → l[j]? = some y → befK p y = true) → atN l p = l.length ∧ isN l p = false
  | [], p, _ => ⟨rfl, rfl⟩
  | y :: r, p, h => by
    have hy := h 0 y (Nat.succ_pos _) rfl
    obtain ⟨h1, h2⟩ := at15_end (l := r) (p := p) (fun j z hj hz => h (j + 1) z (Nat.succ_lt_succ hj) hz)
    unfold atN isN
    rw [hy, if_pos rfl, if_pos rfl, h1]
    exact ⟨rfl, h2⟩
set_option maxRecDepth 100000 in
set_option maxHeartbeats 1600000 in
theorem r15at_any (a : Option Addr) (cap : Nat) (l : Fls) (p : ByteArray) (w : World) (hl : l.length ≤ 1000000) (ha : RowsAt flLay w a l) :
    Calls Tryz.prog 74 #[.slice a l.length cap, .string p] w fun e w' => e = .returned (.tuple #[.int .i64 (atN l p), .bool (isN l p)]) ∧ ∃ n, w' = w.drewN n := by
  have HA := Lib.hid ha
  clear ha
  go_enter Tryz.func74, Tryz.ntmps74
  go_wp2_with fail
  go_loopw [6] (fun i wr => ∃ k : Nat, k ≤ l.length ∧ i = .int .i64 k ∧ Hid (∀ j y, j < k → l[j]? = some y → befK p y = true) ∧ wr = w) (fun i _ => l.length - (RowKit.intOf i).toNat)
  case atStart => exact ⟨0, Nat.zero_le _, rfl, Lib.hid (fun j _ hj _ => absurd hj (Nat.not_lt_zero j)), rfl⟩
  case round =>
    obtain ⟨k, hk, rfl, Hk, rfl⟩ := hrel
    by_cases hlt : k < l.length
    · obtain ⟨x, hx⟩ := at_some hlt
      obtain ⟨b, off, rfl, hb, c0, _⟩ := fl_at HA.out hx
      have hki : (k : Int) < (l.length : Int) := by omega
      have Hx := Lib.hid hx
      clear hx
      cases hb : Op.bytesLess x.1.toList p.toList with
      | true =>
        have Hn := Lib.hid (upto_nextK Hk.out Hx.out (show befK p x = true from hb))
        go_wp2_with fail
        go_roundw
        case rel => exact ⟨k + 1, by omega, by go_num, Hn, by first | rfl | trivial⟩
        case measure => simp [RowKit.intOf]; omega
      | false =>
        have Hr := Lib.hid (at15_here Hk.out Hx.out (show befK p x = false from hb))
        by_cases h1 : x.1 = p
        · have e1 := str_eq h1
          have Hd := Lib.hid (decide_eq_true h1)
          clear h1
          go_wp2_with fail
          go_quiet (fail)
          go_wp2_with fail
          go_ret2
          rw [Hr.out.1, Hr.out.2, Hd.out]
          exact ⟨rfl, nq, rfl⟩
        · have e1 := str_ne h1
          have Hd := Lib.hid (decide_eq_false h1)
          clear h1
          go_wp2_with fail
          go_quiet (fail)
          go_wp2_with fail
          go_ret2
          rw [Hr.out.1, Hr.out.2, Hd.out]
          exact ⟨rfl, nq, rfl⟩
    · obtain rfl : k = l.length := by omega
      have Hr := Lib.hid (at15_end Hk.out)
      go_wp2_with fail
      go_ret2
      rw [Hr.out.1, Hr.out.2]
      exact ⟨rfl, Drawn.refl _⟩
theorem sizeF_snoc {l : Fls} {k : Nat} {x : ByteArray × ByteArray} (h : l[k]? = some x) : sizeF (l.take (k + 1)) = sizeF (l.take k) + x.2.size := by
  unfold sizeF
  rw [List.take_add_one, h, Option.toList_some, List.map_append, List.sum_append]
  simp
theorem sizeF_le {l : Fls} {M : Nat} (h : ∀ x ∈ l, x.2.size ≤ M) : sizeF l ≤ l.length * M := by
  induction l with
  | nil => exact Nat.zero_le _
  | cons x r ih =>
    have h1 := h x List.mem_cons_self
    have h2 := ih fun y hy => h y (List.mem_cons_of_mem _ hy)
    have h3 : sizeF (x :: r) = x.2.size + sizeF r := rfl
    rw [h3, List.length_cons, Nat.succ_mul]
    omega
set_option maxRecDepth 100000 in
set_option maxHeartbeats 1600000 in
theorem r15size_any (a : Option Addr) (cap : Nat) (l : Fls) (w : World) (hl : l.length ≤ 1000000) (hs : ∀ x ∈ l, x.2.size ≤ 4202304) (ha : RowsAt flLay w a l) :
    Calls Tryz.prog 73 #[.slice a l.length cap] w fun e w' => e = .returned (.int .i64 (sizeF l)) ∧ w' = w := by
  have HA := Lib.hid ha
  have HS := Lib.hid hs
  clear ha hs
  go_enter Tryz.func73, Tryz.ntmps73
  go_wp2_with fail
  go_loopw [3, 4] (fun n i wr => ∃ k : Nat, k ≤ l.length ∧ i = .int .i64 k ∧ n = .int .i64 (sizeF (l.take k) : Nat) ∧ wr = w) (fun _ i _ => l.length - (RowKit.intOf i).toNat)
  case atStart => exact ⟨0, Nat.zero_le _, rfl, rfl, rfl⟩
  case round =>
    obtain ⟨k, hk, rfl, rfl, rfl⟩ := hrel
    by_cases hlt : k < l.length
    · obtain ⟨x, hx⟩ := at_some hlt
      obtain ⟨b, off, rfl, hb, _, c1⟩ := fl_at HA.out hx
      have hki : (k : Int) < (l.length : Int) := by omega
      have h1 := sizeF_le (l := l.take k) (fun y hy => HS.out y (List.mem_of_mem_take hy))
      have h2 := HS.out x (List.mem_of_getElem? hx)
      have h3 : (l.take k).length * 4202304 ≤ 1000000 * 4202304 := Nat.mul_le_mul_right _ (by rw [List.length_take]; omega)
      have Hs := Lib.hid (sizeF_snoc hx)
      clear hx
      have h4 : sizeF (l.take k) ≤ 4202304000000 := Nat.le_trans h1 h3
      clear h1 h3
      generalize sizeF (l.take k) = n at *
      go_wp2_with fail
      go_roundw
      case rel => exact ⟨k + 1, by omega, by go_num, by rw [Hs.out]; go_num, by first | rfl | trivial⟩
      case measure => simp [RowKit.intOf]; omega
    · obtain rfl : k = l.length := by omega
      rw [List.take_length]
      go_wp2_with fail
      go_ret
      exact ⟨rfl, rfl⟩
end Go.Proofs.YtgglheelhbfgiaaGreatDoor

namespace Go.Proofs.YtgglheelhbfgiaaGreatDoor
open Go Go.RowKit
def lowA (a : Option Addr) (k c sz : Nat) : Option Addr := if c = k then a else a.map (·.add (k * sz))
theorem lowA_nil {a : Option Addr} {k c sz : Nat} (h : a = none → c = 0) : lowA a k c sz = none → c - k = 0 := by
  unfold lowA
  split
  · omega
  · intro h2
    cases a with
    | none => rw [h rfl]; simp
    | some a => cases h2
theorem rows_low {α : Type} {L : Lay α} {w : World} {a : Option Addr} {xs : List α} {c : Nat} (h : RowsAt L w a xs) (hc : xs.length ≤ c) (k : Nat) : RowsAt L w (lowA a k c L.sz) (xs.drop k) := by
  unfold lowA
  split
  · have : xs.drop k = [] := List.drop_eq_nil_of_le (by omega)
    rw [this]
    exact RowsAt.nil _ _ _
  · intro j x hj
    rw [List.getElem?_drop] at hj
    obtain ⟨b, off, e, _⟩ := h _ _ hj
    subst e
    have := h.drop k j x (by rw [List.getElem?_drop]; exact hj)
    have e2 : (⟨b, off, none⟩ : Addr).add (k * L.sz) = ⟨b, off + k * L.sz, none⟩ := by
      unfold Addr.add
      split
      · simp only [Addr.mk.injEq, true_and, and_true]; omega
      · rfl
    rw [Option.map_some, e2]
    exact this
section
variable {P : Program} {t e : TypeId} {sz : Nat} (ht : P.underlying t = some (.slice e)) (hs : ∀ w, (sizeOf e).run P w = .ok sz w)
include ht hs
theorem slice_low (a : Option Addr) (n c k : Nat) (h : k ≤ n) (W : World) : (Instr.slice t (.slice a n c) (some (.int .i64 k)) none none).run P W = .ok (.slice (lowA a k c sz) (n - k) (c - k)) W := by
  have he : P.elem t = e := by unfold Program.elem; rw [ht]
  have ht' : P.underlying t = some (.slice (P.elem t)) := by rw [he]; exact ht
  rw [run_slice_l W t a n c ht' .i64 k (by omega) (by omega), he, hs]
  simp [sliced, lowA, Result.andThen]
theorem slice_high (a : Option Addr) (n c k : Nat) (h : k ≤ c) (W : World) : (Instr.slice t (.slice a n c) none (some (.int .i64 k)) none).run P W = .ok (.slice a k c) W := by
  have he : P.elem t = e := by unfold Program.elem; rw [ht]
  have ht' : P.underlying t = some (.slice (P.elem t)) := by rw [he]; exact ht
  rw [run_slice_h W t a n c ht' .i64 k (by omega) (by omega), he, hs]
  simp only [sliced, Result.andThen, Int.toNat_natCast, Nat.zero_mul, Nat.sub_zero]
  split
  · rfl
  · cases a with
    | none => rfl
    | some a => simp [Addr.add]
end
end Go.Proofs.YtgglheelhbfgiaaGreatDoor

namespace Go.Proofs.YtgglheelhbfgiaaGreatDoor
open Go Go.RowKit Go.Lib
/-- A map of texts that has been cloned. -/
theorem MapK.copy {α : Type} {K : ValK α} {P : Program} {k : TypeId} {w : World} {b : Nat} {es : List (ByteArray × α)} (h : MapK K P k w b es) : ∃ rows clock, w.heap[b]? = some (.map rows clock) ∧ ∀ w' b', w'.heap[b']? = some (.map rows clock) → MapK K P k w' b' es := by
  obtain ⟨rows, clock, hb, Ft, hs, hD⟩ := h
  exact ⟨rows, clock, hb, fun w' b' hb' => ⟨rows, clock, hb', Ft, hs, hD⟩⟩
/-- A closure of boxes. -/
structure FnV where
  fn : Nat
  ps : Array Value
def FnV.val (f : FnV) : Value := .func (.func f.fn) #[] f.ps
def actLay : Lay FnV := { sz := 1, cells := fun f => [f.val], len := fun _ => rfl, one := fun x v hv => by simp only [List.mem_cons, List.mem_nil_iff, or_false] at hv; rw [hv]; rfl }
/-- A box behind the disk that is not of the acts' row; S: the disk's own blocks. -/
def BoxAt (w : World) (db : Nat) (v : Value) (S : Nat → Prop) (x c : Value) : Prop := ∃ k, x = .pointer (some ⟨k, 0, none⟩) ∧ db < k ∧ k < w.heap.size ∧ S k ∧ v.ownBlock ≠ some k ∧ w.cell? ⟨k, 0, none⟩ = some c
def ActAt (w : World) (db : Nat) (v : Value) (S : Nat → Prop) (f : FnV) (a : ActD) : Prop :=
  (a.cut = false ∧ f.fn = 67 ∧ ∃ d n p, f.ps = #[d, n, p] ∧ BoxAt w db v S d (.string a.data) ∧ BoxAt w db v S n (.string a.name) ∧ BoxAt w db v S p (.int .i64 a.n)) ∨
  (a.cut = true ∧ f.fn = 87 ∧ ∃ n p, f.ps = #[n, p] ∧ BoxAt w db v S n (.string a.name) ∧ BoxAt w db v S p (.int .i64 a.n))
inductive ActsAt (w : World) (db : Nat) (v : Value) (S : Nat → Prop) : List FnV → List ActD → Prop where
  | nil : ActsAt w db v S [] []
  | cons {f : FnV} {a : ActD} {fs : List FnV} {xs : List ActD} : ActAt w db v S f a → ActsAt w db v S fs xs → ActsAt w db v S (f :: fs) (a :: xs)
theorem ActsAt.map {w w' : World} {db : Nat} {v v' : Value} {S S' : Nat → Prop} {fs : List FnV} {xs : List ActD} (h : ActsAt w db v S fs xs) (hb : ∀ x c, BoxAt w db v S x c → BoxAt w' db v' S' x c) : ActsAt w' db v' S' fs xs := by
  induction h with
  | nil => exact .nil
  | cons h1 _ ih =>
    refine .cons ?_ ih
    rcases h1 with ⟨h1, h2, d, n, p, h3, h4, h5, h6⟩ | ⟨h1, h2, n, p, h3, h4, h5⟩
    · exact .inl ⟨h1, h2, d, n, p, h3, hb _ _ h4, hb _ _ h5, hb _ _ h6⟩
    · exact .inr ⟨h1, h2, n, p, h3, hb _ _ h4, hb _ _ h5⟩
theorem ActsAt.snoc {w : World} {db : Nat} {v : Value} {S : Nat → Prop} {fs : List FnV} {xs : List ActD} {f : FnV} {a : ActD} (h : ActsAt w db v S fs xs) (hf : ActAt w db v S f a) : ActsAt w db v S (fs ++ [f]) (xs ++ [a]) := by
  induction h with
  | nil => exact .cons hf .nil
  | cons h1 _ ih => exact .cons h1 ih
theorem ActAt.map {w w' : World} {db : Nat} {v v' : Value} {S S' : Nat → Prop} {f : FnV} {a : ActD} (h : ActAt w db v S f a) (hb : ∀ x c, BoxAt w db v S x c → BoxAt w' db v' S' x c) : ActAt w' db v' S' f a := by
  have h2 := (ActsAt.cons h .nil).map hb
  cases h2 with
  | cons h _ => exact h
/-- What turns is no box of cells, but for the acts' row. -/
def SafeB (w : World) (db : Nat) (v : Value) (T : Nat → Prop) : Prop := ∀ k c, T k → db < k → w.cell? ⟨k, 0, none⟩ = some c → v.ownBlock = some k
theorem BoxAt.turned {w w' : World} {db : Nat} {v x c : Value} {S T : Nat → Prop} {B : Nat} (h : BoxAt w db v S x c) (ht : Turned T B w w') (hB : w.heap.size ≤ B) (hS : SafeB w db v T) : BoxAt w' db v S x c := by
  obtain ⟨k, e, h1, h2, h5, h3, h4⟩ := h
  have hb := ht.block k (by omega) fun hs => h3 (hS k c hs h1 h4)
  exact ⟨k, e, h1, Nat.lt_of_lt_of_le h2 ht.size, h5, h3, (World.cell?_of_block hb).trans h4⟩
theorem BoxAt.mono {w : World} {db : Nat} {v x c : Value} {S S' : Nat → Prop} (h : BoxAt w db v S x c) (hS : ∀ k, S k → S' k) : BoxAt w db v S' x c := by
  obtain ⟨k, e, h1, h2, h5, h3, h4⟩ := h
  exact ⟨k, e, h1, h2, hS k h5, h3, h4⟩
/-- Blocks that are not the disk's turn. -/
theorem BoxAt.foreign {w w' : World} {db : Nat} {v x c : Value} {S T : Nat → Prop} (h : BoxAt w db v S x c) (ht : Turned T w.heap.size w w') (hT : ∀ k, T k → ¬ S k) : BoxAt w' db v S x c := by
  obtain ⟨k, e, h1, h2, h5, h3, h4⟩ := h
  have hb := ht.block k h2 fun hs => hT k hs h5
  exact ⟨k, e, h1, Nat.lt_of_lt_of_le h2 ht.size, h5, h3, (World.cell?_of_block hb).trans h4⟩
theorem ActsAt.turned {w w' : World} {db : Nat} {v : Value} {S T : Nat → Prop} {B : Nat} {fs : List FnV} {xs : List ActD} (h : ActsAt w db v S fs xs) (ht : Turned T B w w') (hB : w.heap.size ≤ B) (hS : SafeB w db v T) : ActsAt w' db v S fs xs := h.map fun _ _ hb => hb.turned ht hB hS
def diskCells (d : Dk) (nb fb : Nat) (v : Value) : List Value := [.int .i64 d.limit, .map (some nb), .map (some fb), v, .int .i64 d.armed, .bool d.dead]
structure DAt (w : World) (db nb fb : Nat) (v : Value) (S : Nat → Prop) (d : Dk) : Prop where
  cells : VarAt w db (diskCells d nb fb v)
  now : MapK strV Tryz.prog 9 w nb d.now
  firm : MapK strV Tryz.prog 9 w fb d.firm
  nbdb : db ≠ nb
  fbdb : db ≠ fb
  ne : nb ≠ fb
  acts : ∃ fs, OwnRows actLay w (db + 1) 118 v fs ∧ ActsAt w db v S fs d.acts
  sdb : S db
  snb : S nb
  sfb : S fb
  sv : ∀ k, v.ownBlock = some k → S k
  slt : ∀ k, S k → k < w.heap.size
  ok : DkOK d
/-- The disk's own cells alone are turned. -/
theorem DAt.cellsTurned {w w' : World} {db nb fb : Nat} {v : Value} {S : Nat → Prop} {d d' : Dk} (h : DAt w db nb fb v S d) (ht : Turned (fun j => j = db) w.heap.size w w') (hc : VarAt w' db (diskCells d' nb fb v)) (e1 : d'.now = d.now) (e2 : d'.firm = d.firm) (e3 : d'.acts = d.acts) (e4 : d'.limit = d.limit) : DAt w' db nb fb v S d' := by
  obtain ⟨fs, ho, ha⟩ := h.acts
  have hn := h.nbdb
  have hf := h.fbdb
  refine ⟨hc, ?_, ?_, hn, hf, h.ne, ⟨fs, ho.turned ht (fun k hk => by omega), ?_⟩, h.sdb, h.snb, h.sfb, h.sv, fun k hk => Nat.lt_of_lt_of_le (h.slt k hk) ht.size, ?_⟩
  · rw [e1]
    exact h.now.same (ht.block nb h.now.lt (show ¬ (nb = db) by omega))
  · rw [e2]
    exact h.firm.same (ht.block fb h.firm.lt (show ¬ (fb = db) by omega))
  · rw [e3]
    exact ha.turned ht (Nat.le_refl _) fun k c hk hlt _ => by
      have : k = db := hk
      omega
  · exact ⟨by rw [e4]; exact h.ok.limit, by rw [e1]; exact h.ok.now, by rw [e2]; exact h.ok.firm, by rw [e3]; exact h.ok.acts⟩
theorem OwnRows.turnedOther {α : Type} {L : Lay α} {W W' : World} {T : Nat → Prop} {base : Nat} {e : TypeId} {v : Value} {xs : List α} (h : OwnRows L W base e v xs) (ht : Turned T W.heap.size W W') (hT : ∀ k, v.ownBlock = some k → ¬ T k) : OwnRows L W' base e v xs := by
  refine ⟨h.1, ?_⟩
  rcases h.2 with hn | ⟨g, cap, cur, rfl, hg, hgg, rest⟩
  · exact .inl hn
  · refine .inr ⟨g, cap, cur, rfl, hg, ?_, rest⟩
    rw [ht.block g (Array.getElem?_eq_some_iff.1 hgg).1 (hT g rfl)]
    exact hgg
/-- Blocks that are not the disk's turn. -/
theorem DAt.foreign {w w' : World} {db nb fb : Nat} {v : Value} {S T : Nat → Prop} {d : Dk} (h : DAt w db nb fb v S d) (ht : Turned T w.heap.size w w') (hT : ∀ k, T k → ¬ S k) : DAt w' db nb fb v S d := by
  obtain ⟨fs, ho, ha⟩ := h.acts
  exact ⟨h.cells.same (ht.block db h.cells.1 fun hs => hT db hs h.sdb) ht.size, h.now.same (ht.block nb h.now.lt fun hs => hT nb hs h.snb), h.firm.same (ht.block fb h.firm.lt fun hs => hT fb hs h.sfb), h.nbdb, h.fbdb, h.ne, ⟨fs, ho.turnedOther ht fun k hk hs => hT k hs (h.sv k hk), ha.map fun _ _ hb => hb.foreign ht hT⟩, h.sdb, h.snb, h.sfb, h.sv, fun k hk => Nat.lt_of_lt_of_le (h.slt k hk) ht.size, h.ok⟩
theorem DAt.below {w w' : World} {db nb fb : Nat} {v : Value} {S : Nat → Prop} {d : Dk} (h : DAt w db nb fb v S d) (hb : Below w.heap.size w w') : DAt w' db nb fb v S d :=
  h.foreign (T := fun _ => False) (Turned.of_below hb (Nat.le_refl _)) fun _ hf => hf.elim
theorem DAt.mono {w : World} {db nb fb : Nat} {v : Value} {S S' : Nat → Prop} {d : Dk} (h : DAt w db nb fb v S d) (hS : ∀ k, S k → S' k) (hl : ∀ k, S' k → k < w.heap.size) : DAt w db nb fb v S' d := by
  obtain ⟨fs, ho, ha⟩ := h.acts
  exact ⟨h.cells, h.now, h.firm, h.nbdb, h.fbdb, h.ne, ⟨fs, ho, ha.map fun _ _ hb => hb.mono hS⟩, hS _ h.sdb, hS _ h.snb, hS _ h.sfb, fun k hk => hS k (h.sv k hk), hl, h.ok⟩
/-- What was the disk's, and whatever is new. -/
def GrowS (S : Nat → Prop) (w w' : World) : Nat → Prop := fun k => S k ∨ (w.heap.size ≤ k ∧ k < w'.heap.size)
theorem dead_any (w : World) (db nb fb : Nat) (v : Value) (S : Nat → Prop) (d : Dk) (h : DAt w db nb fb v S d) : Calls Tryz.prog 26 #[.pointer (some ⟨db, 0, none⟩)] w fun e w' => e = .returned (.bool d.dead) ∧ w' = w := by
  have c5 : w.cell? ⟨db, 5, none⟩ = some (.bool d.dead) := h.cells.2.2 5 _ rfl
  clear h
  go_enter Tryz.func26, Tryz.ntmps26
  go_wp2_with fail
  go_ret
  exact ⟨rfl, rfl⟩
theorem arm_any (w : World) (db nb fb : Nat) (v : Value) (S : Nat → Prop) (d : Dk) (n : Int) (h : DAt w db nb fb v S d) : Calls Tryz.prog 19 #[.pointer (some ⟨db, 0, none⟩), .int .i64 n] w fun e w' => e = .returned (.tuple #[]) ∧ DAt w' db nb fb v S (armD d n) ∧ Turned (fun j => j = db) w.heap.size w w' := by
  have c4 : w.cell? ⟨db, 4, none⟩ = some (.int .i64 d.armed) := h.cells.2.2 4 _ rfl
  have f4 := h.cells.2.1 4
  have HD := Lib.hid h
  clear h
  go_enter Tryz.func19, Tryz.ntmps19
  go_wp2_with fail
  go_end0
  have hT := (Turned.refl (fun j => j = db) w.heap.size w).set (b := db) 4 (.int .i64 (max n 0)) (fun _ => rfl)
  exact ⟨rfl, HD.out.cellsTurned hT (by simpa [diskCells, armD] using HD.out.cells.set 4 (.int .i64 (max n 0)) (by simp [diskCells])) rfl rfl rfl rfl, hT⟩
end Go.Proofs.YtgglheelhbfgiaaGreatDoor

namespace Go.Proofs.YtgglheelhbfgiaaGreatDoor
open Go Go.RowKit Go.Lib
theorem empty_iff (s : ByteArray) : s.toList.isEmpty = decide (s.size = 0) := by
  rw [toList_data]
  cases h : s.data.toList with
  | nil =>
    have : s.size = 0 := by show s.data.size = 0; rw [← Array.length_toList, h]; rfl
    simp [this]
  | cons a r =>
    have : s.size ≠ 0 := by show s.data.size ≠ 0; rw [← Array.length_toList, h]; simp
    simp [this]
set_option maxRecDepth 100000 in
theorem wrong_any (w : World) (db nb fb : Nat) (v : Value) (S : Nat → Prop) (d : Dk) (name : ByteArray) (n : Int) (h : DAt w db nb fb v S d) : Calls Tryz.prog 65 #[.pointer (some ⟨db, 0, none⟩), .string name, .int .i64 n] w fun e w' => e = .returned (.int .i64 (wrongD d name n)) ∧ w' = w := by
  have c5 : w.cell? ⟨db, 5, none⟩ = some (.bool d.dead) := h.cells.2.2 5 _ rfl
  have c0 : w.cell? ⟨db, 0, none⟩ = some (.int .i64 d.limit) := h.cells.2.2 0 _ rfl
  clear h
  have Hr := Lib.hid (show wrongD d name n = if d.dead = true then 42 else if name.size = 0 ∨ 24 < name.size ∨ n < 0 ∨ (d.limit : Int) < n then 1 else 0 from rfl)
  have he := empty_iff name
  generalize d.limit = lim at *
  generalize hd : d.dead = dead at *
  generalize hr : wrongD d name n = r at *
  clear hd hr
  cases dead with
  | true =>
    go_enter Tryz.func65, Tryz.ntmps65
    go_wp2_with fail
    go_ret
    exact ⟨by rw [Hr.out]; rfl, rfl⟩
  | false =>
    by_cases h1 : name.size = 0
    · have Hr2 := Lib.hid (Hr.out.trans ((if_neg (by decide)).trans (if_pos (.inl h1))))
      have e1 : name.toList.isEmpty = true := by rw [he]; exact decide_eq_true h1
      clear he h1
      go_enter Tryz.func65, Tryz.ntmps65
      go_wp2_with fail
      go_ret
      exact ⟨by rw [Hr2.out]; rfl, rfl⟩
    · have e1 : name.toList.isEmpty = false := by rw [he]; exact decide_eq_false h1
      clear he
      by_cases h2 : 24 < name.size ∨ n < 0 ∨ (lim : Int) < n
      · have Hr2 := Lib.hid (Hr.out.trans ((if_neg (by decide)).trans (if_pos (.inr h2))))
        rcases h2 with h2 | h2 | h2
        · have q1 : decide ((name.size : Int) > 24) = true := decide_eq_true (by omega)
          have q2 : decide (24 < name.size) = true := decide_eq_true h2
          have q3 : decide ((24 : Int) < (name.size : Int)) = true := decide_eq_true (by omega)
          clear h1
          go_enter Tryz.func65, Tryz.ntmps65
          go_wp2_with fail
          go_ret
          exact ⟨by rw [Hr2.out]; rfl, rfl⟩
        · by_cases h3 : 24 < name.size
          all_goals
            clear h1
            go_enter Tryz.func65, Tryz.ntmps65
            go_wp2_with fail
            go_ret
            exact ⟨by rw [Hr2.out]; rfl, rfl⟩
        · have h4 : 0 ≤ n := by omega
          by_cases h3 : 24 < name.size
          · have h3i : (24 : Int) < (name.size : Int) := by omega
            clear h1
            go_enter Tryz.func65, Tryz.ntmps65
            go_wp2_with fail
            go_ret
            exact ⟨by rw [Hr2.out]; rfl, rfl⟩
          · have h3i : (name.size : Int) ≤ 24 := by omega
            have h3n : name.size ≤ 24 := by omega
            clear h1
            go_enter Tryz.func65, Tryz.ntmps65
            go_wp2_with fail
            go_ret
            exact ⟨by rw [Hr2.out]; rfl, rfl⟩
      · have Hr2 := Lib.hid (Hr.out.trans ((if_neg (by decide)).trans (if_neg (fun e => e.elim h1 h2))))
        have h3 : name.size ≤ 24 := by omega
        have h4 : 0 ≤ n := by omega
        have h5 : n ≤ (lim : Int) := by omega
        have h3i : (name.size : Int) ≤ 24 := by omega
        clear h1 h2
        go_enter Tryz.func65, Tryz.ntmps65
        go_wp2_with fail
        go_ret
        exact ⟨by rw [Hr2.out]; rfl, rfl⟩
set_option maxRecDepth 100000 in
theorem dies_any (w : World) (db nb fb : Nat) (v : Value) (S : Nat → Prop) (d : Dk) (h : DAt w db nb fb v S d) : Calls Tryz.prog 88 #[.pointer (some ⟨db, 0, none⟩)] w fun e w' => e = .returned (.bool (diesD d).dead) ∧ DAt w' db nb fb v S (diesD d) ∧ Turned (fun j => j = db) w.heap.size w w' := by
  have c5 : w.cell? ⟨db, 5, none⟩ = some (.bool d.dead) := h.cells.2.2 5 _ rfl
  have c4 : w.cell? ⟨db, 4, none⟩ = some (.int .i64 d.armed) := h.cells.2.2 4 _ rfl
  have f5 := h.cells.2.1 5
  have f4 := h.cells.2.1 4
  have HD := Lib.hid h
  clear h
  by_cases ha : 0 < d.armed
  · have Hr := Lib.hid (show diesD d = { d with armed := wrap64 (d.armed - 1), dead := wrap64 (d.armed - 1) == 0 } from if_pos ha)
    obtain ⟨m, hm⟩ : ∃ m, wrap64 (d.armed - 1) = m := ⟨_, rfl⟩
    have Hm := Lib.hid hm
    go_enter Tryz.func88, Tryz.ntmps88
    go_wp2_with fail
    go_ret
    have hT := ((Turned.refl (fun j => j = db) w.heap.size w).set (b := db) 4 (.int .i64 m) (fun _ => rfl)).set (b := db) 5 (.bool (m == 0)) (fun _ => rfl)
    have hV := (HD.out.cells.set 4 (.int .i64 m) (by simp [diskCells])).set 5 (.bool (m == 0)) (by simp [diskCells])
    rw [Hr.out, Hm.out]
    exact ⟨rfl, HD.out.cellsTurned hT (by simpa [diskCells] using hV) rfl rfl rfl rfl, hT⟩
  · have Hr := Lib.hid (show diesD d = d from if_neg ha)
    go_enter Tryz.func88, Tryz.ntmps88
    go_wp2_with fail
    go_ret
    rw [Hr.out]
    exact ⟨rfl, HD.out, Turned.refl _ _ _⟩
end Go.Proofs.YtgglheelhbfgiaaGreatDoor

