/-
  Numbers, as they lie in memory; a number of a row of one's own that is written. Of no program. Sets of operations: the plain law. Slices of bytes of the call's own.
-/
import Derived.Test.YtgglheelhbfgiaaGreatDoorMg1
import Derived.Test.YtgglheelhbfgiaaGreatDoorMg3
import Derived.Test.YtgglheelhbfgiaaGreatDoorMg8
import Derived.Test.YtgglheelhbfgiaaGreatDoorMg6
import Derived.Test.YtgglheelhbfgiaaGreatDoorMg5
import Derived.Laws.BytesArg
namespace Go.Proofs.YtgglheelhbfgiaaGreatDoor
open Go Go.RowKit Go.ChangeShapes Go.WideShapes Go.ChangeAt Go.Deep

def numLay : Lay Int := { sz := 1, cells := fun n => [.int .i64 n], len := fun _ => rfl, one := fun x v hv => by simp only [List.mem_cons, List.mem_nil_iff, or_false] at hv; rw [hv]; rfl }
theorem num_at {w : World} {a : Option Addr} {xs : List Int} (h : RowsAt numLay w a xs) {k : Nat} {x : Int} (hk : xs[k]? = some x) : ∃ b off, a = some ⟨b, off, none⟩ ∧ b < w.heap.size ∧ w.cell? ⟨b, off + k, none⟩ = some (.int .i64 x) := by
  obtain ⟨b, off, e, hlt, hc⟩ := h k x hk
  have := hc 0 _ rfl
  refine ⟨b, off, e, hlt, ?_⟩
  simpa [numLay] using this
theorem flat_nums (xs : List Int) : flat numLay xs = xs.map (Value.int .i64) := by
  induction xs with
  | nil => rfl
  | cons x xs ih =>
    show numLay.cells x ++ flat numLay xs = _
    rw [ih]
    rfl
/-- What is known of a row of one's own at an index: the address, what lies there, that it may be written, and what the row is behind the write. -/
theorem OwnRows.at_num {w : World} {base : Nat} {e : TypeId} {v : Value} {xs : List Int} (h : OwnRows numLay w base e v xs) {k : Nat} {x : Int} (hk : xs[k]? = some x) :
    ∃ g cap, v = .slice (some ⟨g, 0, none⟩) xs.length cap ∧ base ≤ g ∧ xs.length ≤ cap ∧ w.cell? ⟨g, k, none⟩ = some (.int .i64 x) ∧ w.frozen? ⟨g, k, none⟩ = false ∧
      ∀ y, OwnRows numLay (w.setCell ⟨g, k, none⟩ (.int .i64 y)) base e v (xs.set k y) := by
  have hkl : k < xs.length := (List.getElem?_eq_some_iff.1 hk).1
  have hfl : (flat numLay xs).length = xs.length := by rw [flat_nums, List.length_map]
  rcases h.2 with ⟨rfl, hx⟩ | ⟨g, cap, cur, rfl, hg, hgg, hcap, hcm, hcs, htk⟩
  · exfalso
    have : xs.length = 0 := by simpa using hx
    omega
  · have hsz : numLay.sz = 1 := rfl
    rw [hsz] at hcs htk
    have hck : cur[k]? = some (.int .i64 x) := by
      have h1 : (cur.toList.take (xs.length * 1))[k]? = some (.int .i64 x) := by
        rw [htk, flat_nums, List.getElem?_map, hk]; rfl
      rw [List.getElem?_take, if_pos (by omega)] at h1
      simpa using h1
    refine ⟨g, cap, rfl, hg, by simpa using hcap, ?_, ?_, fun y => ⟨?_, .inr ⟨g, cap, cur.set! k (.int .i64 y), ?_, hg, ?_, ?_, hcm, ?_, ?_⟩⟩⟩
    · simp [World.cell?, hgg, hck]
    · simp [World.frozen?, hgg]
    · rw [flat_nums, List.length_map, hsz, Nat.mul_one]
    · simp
    · simp [World.setCell, Array.getElem?_modify, hgg]
    · simpa using hcap
    · rw [hsz]; simpa using hcs
    · rw [hsz, flat_nums]
      rw [flat_nums] at htk
      simp only [Array.set!_eq_setIfInBounds, Array.toList_setIfInBounds, List.length_set, Nat.mul_one] at htk ⊢
      rw [List.take_set, htk, List.map_set]
section
variable {H : Type} {enc : TypeId × Value → H} {P : Program}
/-- Numbers that came in. -/
theorem arg_ints {W : World} {base : Nat} {ts : List TypeId} {ds : List (DataW H)} {j : Nat} {t e : TypeId} {v : Value} {d : DataW H} {p : List MemPlace}
    (ht : P.underlying t = some (.slice e)) (hui : P.underlying e = some (.int .i64)) (hlv : leaves P 4 e = [(0, e)]) (hC : P.cellsOf e = 1)
    (hv : Value.okWide P W .any base t v) (h : DataW.Trod enc P W 0 (fun _ => true) true t v d p) (hlt : ∀ x ∈ p, x.block < W.heap.size) (hsz : (DataW.weightsEach P ts ds).all (· ≤ reachBytes) = true) (h1 : ts[j]? = some t) (h2 : ds[j]? = some d) :
    ∃ (a : Option Addr) (cap : Nat) (xs : List Int), v = .slice a xs.length cap ∧ RowsAt numLay W a xs ∧ xs.length ≤ cap ∧ xs.length * P.bytesOf e ≤ 140737488351232 ∧ (a = none → cap = 0) := by
  refine arg_leaves (L := numLay) (by decide) ht hlv hC ?_ hv h hlt hsz h1 h2 (by simp [numLay])
  intro g hg
  obtain ⟨n0, x0, h0⟩ := hg (0, e) (by simp)
  obtain ⟨i0, e0, _⟩ := DataW.trod_int hui h0
  simp only [List.cons.injEq, and_true] at e0
  refine ⟨i0, fun f v hv => ?_⟩
  match f, hv with
  | 0, hv => rw [e0]; exact Option.some.inj hv
end
end Go.Proofs.YtgglheelhbfgiaaGreatDoor

namespace Go.Proofs.YtgglheelhbfgiaaGreatDoor
open Go Go.RowKit Go.Lib

theorem numInfo : (Tryz.prog.info? 3).map (fun i => (i.zero, i.size, i.bytes)) = some (some (.int .i64 0), 1, 8) := by kernel_rfl

set_option maxRecDepth 100000 in
set_option maxHeartbeats 6400000 in
theorem vector_any (a : Option Addr) (cap : Nat) (l : List Opr) (w : World) (hl : l.length ≤ 100000) (ha : RowsAt oprLay w a l) :
    Calls Tryz.prog 48 #[.slice a l.length cap] w fun e w' => ∃ v, e = .returned v ∧ OwnRows numLay w' w.heap.size 3 v (vecO l) ∧ Below w.heap.size w w' := by
  obtain ⟨i0, hi, hz0, hz1, hz2⟩ := info_parts numInfo
  have Hi := Lib.hid hi
  have Hz0 := Lib.hid hz0
  have Hz1 := Lib.hid hz1
  have Hz2 := Lib.hid hz2
  clear hi hz0 hz1 hz2
  have HA := Lib.hid ha
  clear ha
  go_enter Tryz.func48, Tryz.ntmps48
  go_wp2_with fail
  go_loopw [3, 9] (fun v i wr => ∃ k : Nat, k ≤ l.length ∧ i = .int .i64 k ∧ OwnRows numLay wr w.heap.size 3 v (vecO (l.take k)) ∧ Below w.heap.size w wr) (fun _ i _ => l.length - (RowKit.intOf i).toNat)
  case atStart => exact ⟨0, Nat.zero_le _, rfl, OwnRows.nil _ _ _ _, Below.refl _ _⟩
  case round =>
    obtain ⟨k, hk, rfl, ho, hb⟩ := hrel
    by_cases hlt : k < l.length
    · obtain ⟨y, hy⟩ := at_some hlt
      obtain ⟨b, off, rfl, hbl, c0, c1, c2, c3, c4, c5, c6, c7, c8, c9, c10⟩ := opr_at (HA.out.keeps hb) hy
      have Hts := Lib.hid (take_snoc hy)
      have ho1 := ho.alloc (.cells #[.int .i64 y.cnt, .int .i64 y.who, .int .i64 y.seq, .int .i64 y.kind, .int .i64 y.nc, .int .i64 y.nw, .bool y.dir, .int .i64 y.pc, .int .i64 y.pw, .string y.name, .string y.man] 66)
      have hb1 := hb.alloc hb.size (.cells #[.int .i64 y.cnt, .int .i64 y.who, .int .i64 y.seq, .int .i64 y.kind, .int .i64 y.nc, .int .i64 y.nw, .bool y.dir, .int .i64 y.pc, .int .i64 y.pw, .string y.name, .string y.man] 66)
      have hle := lenO_le (l.take k)
      clear hy ho
      by_cases hv : validB y = true
      · have hv1 := validB_iff.1 hv
        obtain ⟨m, hm⟩ : ∃ m : Nat, y.who = (m : Int) := ⟨y.who.toNat, by omega⟩
        have hm15 : m < 15 := by omega
        have Hv := Lib.hid hv
        have Hm := Lib.hid hm
        rw [hm] at c1
        have e1 : decide ((m : Int) < 0) = false := by simp
        have e2 : decide ((15 : Int) ≤ (m : Int)) = false := by simp; omega
        clear hv hv1
        obtain ⟨wo, hwo⟩ : ∃ wo, wo = wr.alloc (.cells #[.int .i64 y.cnt, .int .i64 m, .int .i64 y.seq, .int .i64 y.kind, .int .i64 y.nc, .int .i64 y.nw, .bool y.dir, .int .i64 y.pc, .int .i64 y.pw, .string y.name, .string y.man] 66) := ⟨_, rfl⟩
        rw [hm, ← hwo] at ho1 hb1
        clear hm
        go_wp2_with fail
        rw [← hwo]
        clear hwo
        go_loopw [3] (fun v wq => ∃ n : Nat, n ≤ 15 ∧ lenO (l.take k) ≤ n ∧ (n ≤ lenO (l.take k) ∨ n ≤ m + 1) ∧ OwnRows numLay wq w.heap.size 3 v (padO (l.take k) n) ∧ Below w.heap.size w wq) (fun v _ => m + 1 - (RowKit.intOf (match v with | .slice _ n _ => .int .i64 n | _ => .int .i64 0)).toNat)
        case atStart => exact ⟨_, hle, Nat.le_refl _, .inl (Nat.le_refl _), ho1, hb1⟩
        case round =>
          obtain ⟨n, hn15, hn1, hn2, ho, hb⟩ := hrel
          have hpl := padO_len (l.take k) n
          by_cases hnm : n ≤ m
          · obtain ⟨av, cv, rfl, _⟩ := ho.read
            rw [hpl] at ho ⊢
            have Hn := Lib.hid (padO_next hn1 (by omega))
            go_wp2_with (at_builtin; refine wpList_append_rows _ rfl _ _ 55 rfl numLay w.heap.size 3 i0 (.int .i64 0) 8 Tryz.underlying55 Hi.out Hz0.out Hz1.out Hz2.out rfl (by decide) _ _ rfl (ho.alloc _) ⟨_, 0, none⟩ 1 (0 : Int) rfl (cells_new_at _ _ #[.int .i64 0] 3 rfl) (by unfold maxLen; omega) (by omega) (by have := hb.size; simp; omega) ?_)
            intro v2 w4 ho4 hg4 _
            have hb4 := (hb.alloc hb.size (.cells #[.int .i64 0] 3)).grown hg4 (by have := hb.size; simp; omega) (fun j ej => (ho.lt ej).1)
            obtain ⟨a2, c2, rfl, _⟩ := ho4.read
            clear hg4 ho
            go_wp2_with fail
            go_roundw
            case rel => exact ⟨n + 1, by omega, by omega, .inr (by omega), by rw [Hn.out]; exact ho4, hb4⟩
            case measure => simp [RowKit.intOf, hpl]; omega
          · have hmn : m < n := by omega
            have hne : n = lenO (l.take (k + 1)) := by
              rw [Hts.out, lenO_snoc, if_pos Hv.out, Hm.out]
              simp only [Int.toNat_natCast]
              omega
            obtain ⟨g, cv, rfl, hgB, hlc, hcell, hfz, hset⟩ := ho.at_num (padO_get (l := l.take k) hmn)
            have hcl := cntO_le (l.take k) m
            rw [List.length_take] at hcl
            have Hst := Lib.hid (padO_set (l := l.take k) (y := y) (n := n) (k := m) Hm.out hmn)
            have hs1 := hset (cntO (l.take k) m + 1)
            rw [Hst.out] at hs1
            have hB := hb.setCell (p := ⟨g, m, none⟩) hgB (.int .i64 (cntO (l.take k) m + 1))
            have Hne := Lib.hid hne
            rw [hpl] at hlc hs1 ⊢
            clear hset ho hne
            generalize hcc : cntO (l.take k) m = c at *
            have hc1 : 0 ≤ c := hcl.1
            have hc2 : c ≤ 100000 := by omega
            clear hcl hcc
            go_wp2_with fail
            go_roundw
            case rel =>
              refine ⟨k + 1, by omega, by go_num, ?_, hB⟩
              show OwnRows numLay _ _ _ _ (padO _ _)
              rw [← Hne.out, Hts.out]
              exact hs1
            case measure => simp [RowKit.intOf]; omega
      · have hvf : validB y = false := by simpa using hv
        have Hsk := Lib.hid (show vecO (l.take (k + 1)) = vecO (l.take k) by
          rw [Hts.out]
          unfold vecO
          rw [lenO_snoc, hvf]
          simp only [Bool.false_eq_true, if_false]
          exact padO_skip hle hvf)
        have hv2 : y.who < 0 ∨ (0 ≤ y.who ∧ 15 ≤ y.who) := by
          have : ¬ (0 ≤ y.who ∧ y.who < 15) := fun h => hv (validB_iff.2 h)
          omega
        clear hv hvf
        rcases hv2 with hv2 | ⟨hv2, hv3⟩
        · have e1 : decide (y.who < 0) = true := by simpa using hv2
          go_wp2_with fail
          go_roundw
          case rel => exact ⟨k + 1, by omega, by go_num, by rw [Hsk.out]; exact ho1, hb1⟩
          case measure => simp [RowKit.intOf]; omega
        · have e1 : decide (y.who < 0) = false := by simpa using hv2
          have e2 : decide ((15 : Int) ≤ y.who) = true := by simpa using hv3
          go_wp2_with fail
          go_roundw
          case rel => exact ⟨k + 1, by omega, by go_num, by rw [Hsk.out]; exact ho1, hb1⟩
          case measure => simp [RowKit.intOf]; omega
    · rw [List.take_of_length_le (by omega)] at ho
      go_wp2_with fail
      go_ret
      exact ⟨_, rfl, ho, hb⟩
end Go.Proofs.YtgglheelhbfgiaaGreatDoor

namespace Go.Proofs.YtgglheelhbfgiaaGreatDoor
open Go Go.RowKit Go.Lib

theorem atV_in {v : List Int} {m : Nat} {n : Int} (h : v[m]? = some n) : atV v (m : Int) = max n 0 := by
  have hm := (List.getElem?_eq_some_iff.1 h).1
  unfold atV
  rw [if_neg (by omega), Int.toNat_natCast, List.getD_eq_getElem?_getD, h]
  rfl
theorem atV_out {v : List Int} {n : Int} (h : n < 0 ∨ (v.length : Int) ≤ n) : atV v n = 0 := by
  unfold atV
  rw [if_pos h]

def sinO (l : List Opr) (v : List Int) : List Opr := l.filter (newB v)
theorem sin_step {l : List Opr} {v : List Int} {k : Nat} {y : Opr} (h : l[k]? = some y) : sinO (l.take (k + 1)) v = sinO (l.take k) v ++ (if newB v y then [y] else []) := filter_snoc h _
theorem sin_len (l : List Opr) (v : List Int) (k : Nat) : (sinO (l.take k) v).length ≤ k := by
  unfold sinO
  exact Nat.le_trans (List.length_filter_le _ _) (by rw [List.length_take]; omega)

end Go.Proofs.YtgglheelhbfgiaaGreatDoor

namespace Go.Proofs.YtgglheelhbfgiaaGreatDoor
open Go Go.RowKit Go.Lib

theorem lessC_iff {a b c d : Int} : lessC a b c d = true ↔ a < c ∨ (a = c ∧ b < d) := by
  simp [lessC]
theorem lessC_trans {a b c d e f : Int} (h1 : lessC a b c d = true) (h2 : lessC c d e f = true) : lessC a b e f = true := by
  rw [lessC_iff] at *
  omega
theorem lessC_irrefl (a b : Int) : lessC a b a b = false := by
  by_cases h : lessC a b a b = true
  · rw [lessC_iff] at h; omega
  · simpa using h
theorem lessC_total {a b c d : Int} (h1 : lessC a b c d = false) (h2 : ¬ (a = c ∧ b = d)) : lessC c d a b = true := by
  rw [lessC_iff]
  have : ¬ (a < c ∨ (a = c ∧ b < d)) := fun h => by rw [lessC_iff.2 h] at h1; cases h1
  omega

def ltO (y z : Opr) : Prop := lessC y.cnt y.who z.cnt z.who = true
theorem ltO_trans {x y z : Opr} (h1 : ltO x y) (h2 : ltO y z) : ltO x z := lessC_trans h1 h2
theorem ltO_irrefl {x : Opr} (h : ltO x x) : False := by
  unfold ltO at h
  rw [lessC_irrefl] at h
  cases h
theorem ltO_asymm {x y : Opr} (h1 : ltO x y) (h2 : ltO y x) : False := ltO_irrefl (ltO_trans h1 h2)

/-- What a set is that Add has made. -/
structure GoodO (l : List Opr) : Prop where
  up : l.Pairwise ltO
  right : ∀ x ∈ l, rightO x = 0
  all : ∀ x ∈ l, ∀ k : Int, 1 ≤ k → k ≤ x.seq → ∃ y ∈ l, y.who = x.who ∧ y.seq = k
  seq : ∀ y ∈ l, ∀ z ∈ l, y.who = z.who → y.seq < z.seq → ltO y z
  one : ∀ y ∈ l, ∀ z ∈ l, y.who = z.who → y.seq = z.seq → y = z

theorem ins_cons (y : Opr) (l : List Opr) (x : Opr) : insO (y :: l) x = if foreB x y then x :: y :: l else y :: insO l x := by
  unfold insO atO
  rw [List.findIdx_cons]
  cases foreB x y <;> simp
theorem mem_ins {l : List Opr} {x y : Opr} : y ∈ insO l x ↔ y = x ∨ y ∈ l := by
  induction l with
  | nil => simp [insO]
  | cons z l ih =>
    rw [ins_cons]
    split
    · simp
    · rw [List.mem_cons, ih, List.mem_cons]
      constructor
      · rintro (h | h | h)
        · exact .inr (.inl h)
        · exact .inl h
        · exact .inr (.inr h)
      · rintro (h | h | h)
        · exact .inr (.inl h)
        · exact .inl h
        · exact .inr (.inr h)
theorem ins_len (l : List Opr) (x : Opr) : (insO l x).length = l.length + 1 := by
  induction l with
  | nil => simp [insO]
  | cons z l ih =>
    rw [ins_cons]
    split
    · simp
    · simp [ih]
theorem ins_up {l : List Opr} {x : Opr} (h : l.Pairwise ltO) (hn : ∀ y ∈ l, ¬ (x.cnt = y.cnt ∧ x.who = y.who)) : (insO l x).Pairwise ltO := by
  induction l with
  | nil => simp [insO]
  | cons y l ih =>
    rw [List.pairwise_cons] at h
    rw [ins_cons]
    split
    · rename_i hf
      have hxy : ltO x y := hf
      rw [List.pairwise_cons, List.pairwise_cons]
      refine ⟨fun b hb => ?_, h.1, h.2⟩
      rcases List.mem_cons.1 hb with rfl | hb
      · exact hxy
      · exact ltO_trans hxy (h.1 b hb)
    · rename_i hf
      have hyx : ltO y x := lessC_total (by simpa [foreB] using hf) (hn y List.mem_cons_self)
      rw [List.pairwise_cons]
      refine ⟨fun b hb => ?_, ih h.2 (fun z hz => hn z (List.mem_cons_of_mem _ hz))⟩
      rcases mem_ins.1 hb with rfl | hb
      · exact hyx
      · exact h.1 b hb

theorem fits_zero {l : List Opr} {x : Opr} : fitsO l x = 0 ↔ (∀ y ∈ l, twiceB x y = false) ∧ (x.seq = 1 ∨ ∃ y ∈ l, aheadB x y = true) ∧ ∀ y ∈ l, lateB x y = false := by
  unfold fitsO
  cases h1 : l.any (twiceB x)
  · cases h2 : (x.seq == 1 || l.any (aheadB x))
    · simp only [Bool.false_eq_true, if_false, if_true]
      refine ⟨fun h => by omega, fun h => ?_⟩
      rcases h.2.1 with h | ⟨y, hy, h⟩
      · simp [h] at h2
      · have : l.any (aheadB x) = true := List.any_eq_true.2 ⟨y, hy, h⟩
        simp [this] at h2
    · cases h3 : l.any (lateB x)
      · simp only [Bool.false_eq_true, if_false, Bool.true_eq_false]
        refine ⟨fun _ => ⟨fun y hy => by simpa using List.any_eq_false.1 h1 y hy, ?_, fun y hy => by simpa using List.any_eq_false.1 h3 y hy⟩, fun _ => trivial⟩
        rcases Bool.or_eq_true_iff.1 h2 with h | h
        · exact .inl (by simpa using h)
        · exact .inr (List.any_eq_true.1 h)
      · simp only [Bool.false_eq_true, if_false, Bool.true_eq_false, if_true]
        refine ⟨fun h => by omega, fun h => ?_⟩
        obtain ⟨y, hy, e⟩ := List.any_eq_true.1 h3
        rw [h.2.2 y hy] at e
        cases e
  · simp only [if_true]
    refine ⟨fun h => by omega, fun h => ?_⟩
    obtain ⟨y, hy, e⟩ := List.any_eq_true.1 h1
    rw [h.1 y hy] at e
    cases e
theorem twice_false {x y : Opr} : twiceB x y = false ↔ ¬ (y.cnt = x.cnt ∧ y.who = x.who) ∧ ¬ (y.who = x.who ∧ y.seq = x.seq) := by
  simp [twiceB]
theorem ahead_true {x y : Opr} : aheadB x y = true ↔ y.who = x.who ∧ y.seq = x.seq - 1 := by
  simp [aheadB]
theorem late_false {x y : Opr} : lateB x y = false ↔ (y.who = x.who → (y.seq = x.seq - 1 → ltO y x) ∧ (x.seq < y.seq → ltO x y)) := by
  simp [lateB, ltO]
theorem memB_true {l : List Opr} {x : Opr} : memB l x = true ↔ x ∈ l := by
  simp [memB]
theorem memB_false {l : List Opr} {x : Opr} : memB l x = false ↔ x ∉ l := by
  rw [← memB_true, Bool.not_eq_true]

theorem good_nil : GoodO [] := ⟨List.Pairwise.nil, by simp, by simp, by simp, by simp⟩
theorem good_ins {l : List Opr} {x : Opr} (h : GoodO l) (hr : rightO x = 0) (hf : fitsO l x = 0) : GoodO (insO l x) := by
  obtain ⟨f1, f2, f3⟩ := fits_zero.1 hf
  have hs := right_seq hr
  have up : (insO l x).Pairwise ltO := ins_up h.up fun y hy he => (twice_false.1 (f1 y hy)).1 ⟨he.1.symm, he.2.symm⟩
  refine ⟨up, fun y hy => ?_, fun y hy k h1 h2 => ?_, fun y hy z hz hw hlt => ?_, fun y hy z hz hw he => ?_⟩
  · rcases mem_ins.1 hy with rfl | hy
    · exact hr
    · exact h.right y hy
  · rcases mem_ins.1 hy with rfl | hy
    · by_cases hk : k = y.seq
      · exact ⟨y, mem_ins.2 (.inl rfl), rfl, hk.symm⟩
      · rcases f2 with f2 | ⟨z, hz, hza⟩
        · omega
        · obtain ⟨a1, a2⟩ := ahead_true.1 hza
          obtain ⟨u, hu, u1, u2⟩ := h.all z hz k h1 (by omega)
          exact ⟨u, mem_ins.2 (.inr hu), u1.trans a1, u2⟩
    · obtain ⟨u, hu, u1, u2⟩ := h.all y hy k h1 h2
      exact ⟨u, mem_ins.2 (.inr hu), u1, u2⟩
  · rcases mem_ins.1 hy with rfl | hy2
    · rcases mem_ins.1 hz with rfl | hz2
      · omega
      · exact (late_false.1 (f3 z hz2) hw.symm).2 hlt
    · rcases mem_ins.1 hz with rfl | hz2
      · by_cases hk : y.seq = z.seq - 1
        · exact (late_false.1 (f3 y hy2) hw).1 hk
        · have h1 := (right_seq (h.right y hy2)).1
          rcases f2 with f2 | ⟨u, hu, hua⟩
          · omega
          · obtain ⟨a1, a2⟩ := ahead_true.1 hua
            exact ltO_trans (h.seq y hy2 u hu (hw.trans a1.symm) (by omega)) ((late_false.1 (f3 u hu) a1).1 a2)
      · exact h.seq y hy2 z hz2 hw hlt
  · rcases mem_ins.1 hy with rfl | hy2
    · rcases mem_ins.1 hz with rfl | hz2
      · rfl
      · exact absurd ⟨hw.symm, he.symm⟩ (twice_false.1 (f1 z hz2)).2
    · rcases mem_ins.1 hz with rfl | hz2
      · exact absurd ⟨hw, he⟩ (twice_false.1 (f1 y hy2)).2
      · exact h.one y hy2 z hz2 hw he
theorem add_cases {l : List Opr} {x : Opr} (h : (addO l x).2 = 0) : ((addO l x).1 = l ∧ x ∈ l) ∨ ((addO l x).1 = insO l x ∧ rightO x = 0 ∧ fitsO l x = 0 ∧ x ∉ l) := by
  unfold addO at *
  by_cases h1 : rightO x = 0
  · rw [if_neg (fun e => e h1)] at *
    by_cases h2 : memB l x = true
    · rw [if_pos h2] at *
      exact .inl ⟨rfl, memB_true.1 h2⟩
    · rw [if_neg h2] at *
      by_cases h3 : fitsO l x = 0
      · rw [if_neg (fun e => e h3)] at *
        by_cases h4 : 400 ≤ l.length
        · rw [if_pos h4] at h
          cases h
        · rw [if_neg h4] at *
          exact .inr ⟨rfl, h1, h3, fun e => h2 (memB_true.2 e)⟩
      · rw [if_pos h3] at h
        exact absurd h h3
  · rw [if_pos h1] at h
    exact absurd h h1
theorem good_add {l : List Opr} {x : Opr} (hl : GoodO l) (h : (addO l x).2 = 0) : GoodO (addO l x).1 ∧ l.length ≤ (addO l x).1.length ∧ (addO l x).1.length ≤ l.length + 1 := by
  rcases add_cases h with ⟨h, _⟩ | ⟨h, h1, h2, _⟩
  · rw [h]
    exact ⟨hl, by omega, by omega⟩
  · rw [h, ins_len]
    exact ⟨good_ins hl h1 h2, by omega, by omega⟩

/-! ### All Seqs from 1 on -/
theorem inc_all {L : List Int} (h1 : L.Pairwise (· < ·)) (h2 : ∀ a ∈ L, 1 ≤ a) (h3 : ∀ a ∈ L, ∀ k, 1 ≤ k → k ≤ a → k ∈ L) : ∀ n i (hi : i < L.length), i < n → L[i] = (i : Int) + 1 := by
  intro n
  induction n with
  | zero => intro i _ h; omega
  | succ n ih =>
    intro i hi hin
    have hp := List.pairwise_iff_getElem.1 h1
    have hge : (i : Int) + 1 ≤ L[i] := by
      cases i with
      | zero => have := h2 L[0] (List.getElem_mem hi); omega
      | succ j =>
        have := ih j (by omega) (by omega)
        have := hp j (j + 1) (by omega) hi (by omega)
        omega
    by_cases he : L[i] = (i : Int) + 1
    · exact he
    · exfalso
      obtain ⟨j, hj, e⟩ := List.getElem_of_mem (h3 L[i] (List.getElem_mem hi) ((i : Int) + 1) (by omega) hge)
      rcases Nat.lt_trichotomy j i with h | h | h
      · have := ih j hj (by omega)
        omega
      · subst h; omega
      · have := hp i j hi hj h
        omega
theorem inc_mem {L : List Int} (h1 : L.Pairwise (· < ·)) (h2 : ∀ a ∈ L, 1 ≤ a) (h3 : ∀ a ∈ L, ∀ k, 1 ≤ k → k ≤ a → k ∈ L) (k : Int) : k ∈ L ↔ 1 ≤ k ∧ k ≤ L.length := by
  have key := inc_all h1 h2 h3
  constructor
  · intro h
    obtain ⟨j, hj, e⟩ := List.getElem_of_mem h
    have := key (j + 1) j hj (by omega)
    omega
  · intro ⟨a, b⟩
    have := key (k.toNat) (k.toNat - 1) (by omega) (by omega)
    have e : L[k.toNat - 1]'(by omega) = k := by omega
    exact e ▸ List.getElem_mem _
theorem good_count {l : List Opr} (h : GoodO l) (w : Nat) (k : Int) : (1 ≤ k ∧ k ≤ cntO l w) ↔ ∃ y ∈ l, y.who = w ∧ y.seq = k := by
  have hup : ((l.filter fun x => x.who == (w : Int)).map Opr.seq).Pairwise (· < ·) := by
    rw [List.pairwise_map]
    refine ((h.up.sublist List.filter_sublist).imp_of_mem ?_)
    intro a b ha hb hab
    obtain ⟨ha, ea⟩ := List.mem_filter.1 ha
    obtain ⟨hb, eb⟩ := List.mem_filter.1 hb
    have ew : a.who = b.who := by rw [beq_iff_eq.1 ea, beq_iff_eq.1 eb]
    rcases Int.lt_trichotomy a.seq b.seq with hh | hh | hh
    · exact hh
    · rw [h.one a ha b hb ew hh] at hab
      exact (ltO_irrefl hab).elim
    · exact (ltO_asymm hab (h.seq b hb a ha ew.symm hh)).elim
  have hm : ∀ k, k ∈ ((l.filter fun x => x.who == (w : Int)).map Opr.seq) ↔ ∃ y ∈ l, y.who = w ∧ y.seq = k := by
    intro k
    rw [List.mem_map]
    constructor
    · rintro ⟨y, hy, e⟩
      obtain ⟨hy, ew⟩ := List.mem_filter.1 hy
      exact ⟨y, hy, beq_iff_eq.1 ew, e⟩
    · rintro ⟨y, hy, e1, e2⟩
      exact ⟨y, List.mem_filter.2 ⟨hy, beq_iff_eq.2 e1⟩, e2⟩
  rw [← hm, inc_mem hup, List.length_map]
  · rfl
  · intro a ha
    obtain ⟨y, hy, _, rfl⟩ := (hm a).1 ha
    exact (right_seq (h.right y hy)).1
  · intro a ha k h1 h2
    obtain ⟨y, hy, e, rfl⟩ := (hm a).1 ha
    obtain ⟨z, hz, e1, e2⟩ := h.all y hy k h1 h2
    exact (hm k).2 ⟨z, hz, e1.trans e, e2⟩

theorem right_who {x : Opr} (h : rightO x = 0) : validB x = true := by
  unfold rightO at h
  split at h
  · cases h
  · rename_i h2
    have h3 : rightC x.cnt x.who = 0 := by
      by_cases h4 : rightC x.cnt x.who = 0
      · exact h4
      · exact absurd (.inl h4) h2
    unfold rightC at h3
    split at h3
    · rename_i h5
      exact validB_iff.2 ⟨h5.2.2.1, h5.2.2.2⟩
    · cases h3
/-- How many are of the devices below w. -/
def sumO (l : List Opr) (w : Nat) : Int := ((l.filter fun x => decide (x.who < (w : Int))).length : Int)
theorem sumO_zero {l : List Opr} (h : ∀ x ∈ l, validB x = true) : sumO l 0 = 0 := by
  unfold sumO
  rw [List.filter_eq_nil_iff.2]
  · rfl
  · intro x hx
    have := validB_iff.1 (h x hx)
    simp
    omega
theorem sumO_next (l : List Opr) (w : Nat) : sumO l (w + 1) = sumO l w + cntO l w := by
  unfold sumO cntO
  induction l with
  | nil => rfl
  | cons x l ih =>
    rw [List.filter_cons, List.filter_cons, List.filter_cons]
    by_cases h1 : x.who < (w : Int)
    · rw [if_pos (by simp; omega), if_pos (by simpa using h1), if_neg (by simp; omega)]
      simp only [List.length_cons]
      omega
    · by_cases h2 : x.who = (w : Int)
      · rw [if_pos (by simp; omega), if_neg (by simpa using h1), if_pos (by simpa using h2)]
        simp only [List.length_cons]
        omega
      · rw [if_neg (by simp; omega), if_neg (by simpa using h1), if_neg (by simpa using h2)]
        exact ih
theorem sumO_all {l : List Opr} (h : ∀ x ∈ l, validB x = true) : sumO l (lenO l) = l.length := by
  unfold sumO
  rw [List.filter_eq_self.2]
  intro x hx
  have := validB_iff.1 (h x hx)
  have := lenO_mem hx (h x hx)
  simp
  omega
theorem sumO_le (l : List Opr) (w : Nat) : 0 ≤ sumO l w ∧ sumO l w ≤ l.length := by
  unfold sumO
  have := List.length_filter_le (fun x : Opr => decide (x.who < (w : Int))) l
  omega
theorem good_valid {l : List Opr} (h : GoodO l) : ∀ x ∈ l, validB x = true := fun x hx => right_who (h.right x hx)
theorem since_none {l : List Opr} (h : GoodO l) : sinO l (vecO l) = [] := by
  unfold sinO
  rw [List.filter_eq_nil_iff]
  intro x hx
  have hv := good_valid h x hx
  have hw := validB_iff.1 hv
  have hm := lenO_mem hx hv
  have hc := (good_count h x.who.toNat x.seq).2 ⟨x, hx, by omega, rfl⟩
  have e : atV (vecO l) x.who = cntO l x.who.toNat := by
    unfold atV vecO
    rw [padO_len, if_neg (by omega)]
    have hg : (padO l (lenO l)).getD x.who.toNat 0 = cntO l x.who.toNat := by
      rw [List.getD_eq_getElem?_getD, padO_get (by omega)]
      rfl
    rw [hg]
    have := (cntO_le l x.who.toNat).1
    omega
  simp only [newB, e, decide_eq_true_eq]
  omega
theorem since_all {l : List Opr} (h : GoodO l) : sinO l [] = l := by
  unfold sinO
  rw [List.filter_eq_self]
  intro x hx
  have hs := (right_seq (h.right x hx)).1
  have hw := validB_iff.1 (good_valid h x hx)
  have e : atV [] x.who = 0 := by
    unfold atV
    rw [if_pos (.inr (by simpa using hw.1))]
  simp only [newB, e, decide_eq_true_eq]
  omega

/-! ### Again, in another order -/
structure PartsO (set again left : List Opr) : Prop where
  gs : GoodO set
  ga : GoodO again
  up : left.Pairwise ltO
  mem : ∀ y, y ∈ set ↔ y ∈ again ∨ y ∈ left
  apart : ∀ y ∈ left, y ∉ again
  len : again.length + left.length = set.length
theorem parts_start {set : List Opr} (h : GoodO set) : PartsO set [] set := ⟨h, good_nil, h.up, by simp, by simp, by simp⟩
theorem same_up : ∀ {a b : List Opr}, a.Pairwise ltO → b.Pairwise ltO → (∀ y, y ∈ a ↔ y ∈ b) → a = b := by
  intro a
  induction a with
  | nil =>
    intro b _ _ h
    cases b with
    | nil => rfl
    | cons y b => have := (h y).2 List.mem_cons_self; cases this
  | cons x a ih =>
    intro b ha hb h
    cases b with
    | nil => have := (h x).1 List.mem_cons_self; cases this
    | cons y b =>
      rw [List.pairwise_cons] at ha hb
      have hxy : x = y := by
        rcases List.mem_cons.1 ((h x).1 List.mem_cons_self) with e | h1
        · exact e
        · rcases List.mem_cons.1 ((h y).2 List.mem_cons_self) with e | h2
          · exact e.symm
          · exact (ltO_asymm (ha.1 y h2) (hb.1 x h1)).elim
      subst hxy
      rw [ih ha.2 hb.2]
      intro z
      constructor
      · intro hz
        rcases List.mem_cons.1 ((h z).1 (List.mem_cons_of_mem _ hz)) with rfl | hh
        · exact (ltO_irrefl (ha.1 z hz)).elim
        · exact hh
      · intro hz
        rcases List.mem_cons.1 ((h z).2 (List.mem_cons_of_mem _ hz)) with rfl | hh
        · exact (ltO_irrefl (hb.1 z hz)).elim
        · exact hh
theorem parts_end {set again : List Opr} (h : PartsO set again []) : again = set :=
  same_up h.ga.up h.gs.up fun y => by rw [h.mem]; simp
theorem stamp_one {l : List Opr} (h : l.Pairwise ltO) {x y : Opr} (hx : x ∈ l) (hy : y ∈ l) (h1 : x.cnt = y.cnt) (h2 : x.who = y.who) : x = y := by
  have key : ∀ a b : Opr, a.cnt = b.cnt → a.who = b.who → ¬ ltO a b := by
    intro a b e1 e2 h
    unfold ltO at h
    rw [e1, e2, lessC_irrefl] at h
    cases h
  obtain ⟨i, hi, rfl⟩ := List.getElem_of_mem hx
  obtain ⟨j, hj, rfl⟩ := List.getElem_of_mem hy
  have hp := List.pairwise_iff_getElem.1 h
  rcases Nat.lt_trichotomy i j with a | a | a
  · exact absurd (hp i j hi hj a) (key _ _ h1 h2)
  · subst a; rfl
  · exact absurd (hp j i hj hi a) (key _ _ h1.symm h2.symm)
theorem parts_step {set again left : List Opr} (h : PartsO set again left) {at' : Nat} {x : Opr} (hx : left[at']? = some x) (hn : ∀ y ∈ left.take at', y.who ≠ x.who) (hs : set.length < 400) :
    addO again x = (insO again x, 0) ∧ PartsO set (insO again x) (left.take at' ++ left.drop (at' + 1)) := by
  have hxl : x ∈ left := List.mem_of_getElem? hx
  have hxs : x ∈ set := (h.mem x).2 (.inr hxl)
  have hsub : ∀ {y}, y ∈ again → y ∈ set := fun hy => (h.mem _).2 (.inl hy)
  have hxa := h.apart x hxl
  have hr := h.gs.right x hxs
  have hl : left = left.take at' ++ x :: left.drop (at' + 1) := by
    rw [← drop_at hx, List.take_append_drop]
  have hfit : fitsO again x = 0 := by
    rw [fits_zero]
    refine ⟨fun y hy => ?_, ?_, fun y hy => ?_⟩
    · rw [twice_false]
      constructor
      · intro ⟨e1, e2⟩
        rw [stamp_one h.gs.up (hsub hy) hxs e1 e2] at hy
        exact hxa hy
      · intro ⟨e1, e2⟩
        rw [h.gs.one y (hsub hy) x hxs e1 e2] at hy
        exact hxa hy
    · by_cases h1 : x.seq = 1
      · exact .inl h1
      · have := right_seq hr
        obtain ⟨y, hy, e1, e2⟩ := h.gs.all x hxs (x.seq - 1) (by omega) (by omega)
        rcases (h.mem y).1 hy with hy2 | hy2
        · exact .inr ⟨y, hy2, ahead_true.2 ⟨e1, e2⟩⟩
        · exfalso
          have hlt := h.gs.seq y hy x hxs e1 (by omega)
          rw [hl] at hy2
          rcases List.mem_append.1 hy2 with h3 | h3
          · exact hn y h3 e1
          · have hup := h.up
            rw [hl, List.pairwise_append] at hup
            rcases List.mem_cons.1 h3 with rfl | h3
            · exact ltO_irrefl hlt
            · exact ltO_asymm hlt ((List.pairwise_cons.1 hup.2.1).1 y h3)
    · rw [late_false]
      intro ew
      exact ⟨fun e => h.gs.seq y (hsub hy) x hxs ew (by omega), fun e => h.gs.seq x hxs y (hsub hy) ew.symm e⟩
  have hadd : addO again x = (insO again x, 0) := by
    unfold addO
    rw [if_neg (fun e => e hr), if_neg (by rw [memB_true]; exact hxa), if_neg (fun e => e hfit), if_neg]
    have := h.len
    omega
  have hup2 := h.up
  rw [hl, List.pairwise_append] at hup2
  obtain ⟨u1, u2, u3⟩ := hup2
  rw [List.pairwise_cons] at u2
  have hmem : ∀ y, y ∈ left ↔ y = x ∨ y ∈ left.take at' ++ left.drop (at' + 1) := by
    intro y
    conv => lhs; rw [hl]
    rw [List.mem_append, List.mem_cons, List.mem_append]
    constructor
    · rintro (a | a | a)
      · exact .inr (.inl a)
      · exact .inl a
      · exact .inr (.inr a)
    · rintro (a | a | a)
      · exact .inr (.inl a)
      · exact .inl a
      · exact .inr (.inr a)
  refine ⟨hadd, h.gs, good_ins h.ga hr hfit, ?_, fun y => ?_, fun y hy => ?_, ?_⟩
  · rw [List.pairwise_append]
    exact ⟨u1, u2.2, fun a ha b hb => u3 a ha b (List.mem_cons_of_mem _ hb)⟩
  · rw [h.mem, mem_ins, hmem]
    constructor
    · rintro (a | a | a)
      · exact .inl (.inr a)
      · exact .inl (.inl a)
      · exact .inr a
    · rintro ((a | a) | a)
      · exact .inr (.inl a)
      · exact .inl a
      · exact .inr (.inr a)
  · rw [mem_ins]
    rintro (rfl | ha)
    · rcases List.mem_append.1 hy with a | a
      · exact ltO_irrefl (u3 y a y List.mem_cons_self)
      · exact ltO_irrefl (u2.1 y a)
    · exact h.apart y ((hmem y).2 (.inr hy)) ha
  · have e := congrArg List.length hl
    simp only [List.length_append, List.length_cons] at e
    rw [ins_len, List.length_append]
    have := h.len
    omega
/-- Which one is picked: as far as it has been looked through, from behind. -/
def PickO (l : List Opr) (w : Int) (k : Nat) (p : Nat) : Prop := (p = 0 ∧ ∀ j y, k ≤ j → l[j]? = some y → y.who ≠ w) ∨ (k ≤ p ∧ (∃ x, l[p]? = some x ∧ x.who = w) ∧ ∀ j y, k ≤ j → j < p → l[j]? = some y → y.who ≠ w)
theorem pick_start (l : List Opr) (w : Int) : PickO l w l.length 0 := .inl ⟨rfl, fun j y hj hy => by
  rw [List.getElem?_eq_none hj] at hy; cases hy⟩
theorem pick_hit {l : List Opr} {w : Int} {k : Nat} {y : Opr} (hy : l[k]? = some y) (he : y.who = w) : PickO l w k k := .inr ⟨Nat.le_refl _, ⟨y, hy, he⟩, fun j z h1 h2 => by omega⟩
theorem pick_miss {l : List Opr} {w : Int} {k p : Nat} {y : Opr} (h : PickO l w (k + 1) p) (hy : l[k]? = some y) (he : y.who ≠ w) : PickO l w k p := by
  have key : ∀ j z, k ≤ j → (k + 1 ≤ j → z.who ≠ w) → l[j]? = some z → z.who ≠ w := by
    intro j z hj hz h2
    by_cases e : j = k
    · subst e
      rw [hy] at h2
      cases h2
      exact he
    · exact hz (by omega)
  rcases h with ⟨h1, h2⟩ | ⟨h1, h2, h3⟩
  · exact .inl ⟨h1, fun j z hj hz => key j z hj (fun hk => h2 j z hk hz) hz⟩
  · exact .inr ⟨by omega, h2, fun j z hj hjp hz => key j z hj (fun hk => h3 j z hk hjp hz) hz⟩
theorem pick_end {l : List Opr} {w : Int} {p : Nat} (h : PickO l w 0 p) (hl : 0 < l.length) : ∃ x, l[p]? = some x ∧ ∀ y ∈ l.take p, y.who ≠ x.who := by
  rcases h with ⟨rfl, _⟩ | ⟨_, ⟨x, hx, rfl⟩, h3⟩
  · obtain ⟨x, hx⟩ := at_some hl
    exact ⟨x, hx, by simp⟩
  · refine ⟨x, hx, fun y hy => ?_⟩
    obtain ⟨j, hj, e⟩ := List.getElem_of_mem hy
    have hjp : j < p := by rw [List.length_take] at hj; omega
    refine h3 j y (Nat.zero_le _) hjp ?_
    rw [← e, List.getElem_take, List.getElem?_eq_getElem]

/-! ### Sets that are made by Add, one by one -/
def stepO (s : List Opr) (x : Opr) : List Opr := if (addO s x).2 = 0 then (addO s x).1 else s
def setO (l : List Opr) : List Opr := l.foldl stepO []
theorem setO_snoc (l : List Opr) (x : Opr) : setO (l ++ [x]) = stepO (setO l) x := by
  unfold setO
  rw [List.foldl_append]
  rfl
theorem good_step {s : List Opr} {x : Opr} (h : GoodO s) : GoodO (stepO s x) ∧ s.length ≤ (stepO s x).length ∧ (stepO s x).length ≤ s.length + 1 := by
  unfold stepO
  split
  · rename_i he
    exact good_add h he
  · exact ⟨h, by omega, by omega⟩
theorem good_set (l : List Opr) : GoodO (setO l) ∧ (setO l).length ≤ l.length := by
  suffices key : ∀ n, n ≤ l.length → GoodO (setO (l.take n)) ∧ (setO (l.take n)).length ≤ n by
    have := key l.length (Nat.le_refl _)
    rwa [List.take_length] at this
  intro n
  induction n with
  | zero => exact fun _ => ⟨good_nil, Nat.le_refl _⟩
  | succ n ih =>
    intro hn
    obtain ⟨h1, h2⟩ := ih (by omega)
    obtain ⟨x, hx⟩ := at_some (l := l) (k := n) (by omega)
    rw [take_snoc hx, setO_snoc]
    have := good_step (x := x) h1
    exact ⟨this.1, by omega⟩
theorem set_mem {l : List Opr} {x : Opr} (h : x ∈ setO l) : x ∈ l := by
  suffices key : ∀ n, n ≤ l.length → ∀ x, x ∈ setO (l.take n) → x ∈ l by
    have := key l.length (Nat.le_refl _) x
    rw [List.take_length] at this
    exact this h
  intro n
  induction n with
  | zero => intro _ x hx; cases hx
  | succ n ih =>
    intro hn x hx
    obtain ⟨y, hy⟩ := at_some (l := l) (k := n) (by omega)
    rw [take_snoc hy, setO_snoc] at hx
    unfold stepO at hx
    split at hx
    · rename_i he
      rcases add_cases he with ⟨e, _⟩ | ⟨e, _⟩
      · rw [e] at hx
        exact ih (by omega) x hx
      · rw [e] at hx
        rcases mem_ins.1 hx with rfl | hx
        · exact List.mem_of_getElem? hy
        · exact ih (by omega) x hx
    · exact ih (by omega) x hx
theorem good_right {l : List Opr} (h : GoodO l) {x : Opr} (hx : x ∈ l) : rightO x = 0 ∧ 0 ≤ x.who ∧ x.who < 15 ∧ 1 ≤ x.seq ∧ x.seq ≤ 1099511627776 := by
  have hr := h.right x hx
  have hw := validB_iff.1 (right_who hr)
  have hs := right_seq hr
  exact ⟨hr, hw.1, hw.2, hs.1, hs.2⟩
theorem good_lt {l : List Opr} (h : GoodO l) {j : Nat} {x y : Opr} (hx : l[j]? = some x) (hy : l[j + 1]? = some y) : lessC x.cnt x.who y.cnt y.who = true := by
  obtain ⟨h1, rfl⟩ := List.getElem?_eq_some_iff.1 hx
  obtain ⟨h2, rfl⟩ := List.getElem?_eq_some_iff.1 hy
  exact List.pairwise_iff_getElem.1 h.up j (j + 1) h1 h2 (by omega)
/-- Which ones of device w the first k have. -/
def hasO (l : List Opr) (w k : Int) : Bool := l.any fun x => x.who == w && x.seq == k
theorem hasO_snoc {l : List Opr} {k : Nat} {y : Opr} (h : l[k]? = some y) (a b : Int) : hasO (l.take (k + 1)) a b = (hasO (l.take k) a b || (y.who == a && y.seq == b)) := by
  rw [take_snoc h]
  simp [hasO]
theorem hasO_all {l : List Opr} (h : GoodO l) {w : Nat} {k : Int} (h1 : 1 ≤ k) (h2 : k ≤ cntO l w) : hasO l w k = true := by
  obtain ⟨y, hy, e1, e2⟩ := (good_count h w k).1 ⟨h1, h2⟩
  unfold hasO
  rw [List.any_eq_true]
  exact ⟨y, hy, by simp [e1, e2]⟩
end Go.Proofs.YtgglheelhbfgiaaGreatDoor

namespace Go.Proofs.YtgglheelhbfgiaaGreatDoor
open Go Go.RowKit Go.Lib

def byteLay : Lay UInt8 := { sz := 1, cells := fun b => [.int .u8 b.toNat], len := fun _ => rfl, one := fun x v hv => by simp only [List.mem_cons, List.mem_nil_iff, or_false] at hv; rw [hv]; rfl }
theorem byte_at {w : World} {a : Option Addr} {xs : List UInt8} (h : RowsAt byteLay w a xs) {k : Nat} {x : UInt8} (hk : xs[k]? = some x) : ∃ b off, a = some ⟨b, off, none⟩ ∧ b < w.heap.size ∧ w.cell? ⟨b, off + k, none⟩ = some (.int .u8 x.toNat) := by
  obtain ⟨b, off, e, hlt, hc⟩ := h k x hk
  have := hc 0 _ rfl
  refine ⟨b, off, e, hlt, ?_⟩
  simpa [byteLay] using this
theorem byteInfo : (Tryz.prog.info? 5).map (fun i => (i.zero, i.size, i.bytes)) = some (some (.int .u8 0), 1, 1) := by kernel_rfl
theorem conv_bytes {w : World} {a : Option Addr} {xs : List UInt8} (h : RowsAt byteLay w a xs) (cap : Nat) : Sem.run Tryz.prog (convert 156 9 (.slice a xs.length cap)) w = .ok (.string ⟨xs.toArray⟩) w := by
  cases xs with
  | nil =>
    cases a with
    | none => exact run_convert_bytes_nil w 156 5 Tryz.underlying156 Tryz.underlying5 _ _ 9 Tryz.underlying9
    | some a =>
      rw [run_convert_bytes_string w 156 9 5 _ _ cap Tryz.underlying156 Tryz.underlying5 Tryz.underlying9]
      change Sem.run _ (Conv.bytesToString (Value.slice (some a) 0 cap)) w = _
      rw [run_bytesToString w a 0 cap [] (by simpa using run_loadCells_list (P := Tryz.prog) w a [] (fun j v hj => by simp at hj))]
      rfl
  | cons x xs =>
    obtain ⟨b, off, rfl, _, _⟩ := byte_at h (k := 0) rfl
    rw [run_convert_bytes_arg (P := Tryz.prog) w 156 5 Tryz.underlying156 Tryz.underlying5 b off (x :: xs).length cap ((x :: xs).map fun b => (b.toNat : Int)) (by simp)
      (fun i hi => by
        obtain ⟨_, _, e, _, hc⟩ := byte_at h (List.getElem?_eq_getElem hi)
        cases e
        rw [hc, List.getD_eq_getElem?_getD, List.getElem?_map, List.getElem?_eq_getElem hi]
        rfl) 9 Tryz.underlying9]
    congr 2
    apply ba_ext
    rw [strOfNums_data, List.map_map]
    conv => rhs; rw [← List.map_id (x :: xs)]
    apply List.map_congr_left
    intro y _
    simp
end Go.Proofs.YtgglheelhbfgiaaGreatDoor

