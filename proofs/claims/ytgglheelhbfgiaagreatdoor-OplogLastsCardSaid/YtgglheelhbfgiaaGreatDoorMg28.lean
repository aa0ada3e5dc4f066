/-
  arbourlaw18: the steps that come in; few, has. arbourlaw18: few, has. What OplogLasts keeps from call to call. 'append(own, read...)' at a step of a region that draws its order. Of no program.
-/
import Derived.Test.YtgglheelhbfgiaaGreatDoorMg27
import Derived.Test.YtgglheelhbfgiaaGreatDoorMg24
import Derived.Test.YtgglheelhbfgiaaGreatDoorMg26
import Derived.Test.YtgglheelhbfgiaaGreatDoorMg8
import Derived.Test.YtgglheelhbfgiaaGreatDoorMg1
import Derived.Test.YtgglheelhbfgiaaGreatDoorMg9
import Derived.Deep.CutBlock
import Derived.Test.YtgglheelhbfgiaaGreatDoorMg5
import Derived.Laws.AppendOwnNone
namespace Go.Proofs.YtgglheelhbfgiaaGreatDoor
open Go Go.RowKit Go.Lib Go.ChangeShapes Go.WideShapes Go.ChangeAt Go.Deep
/-- A step that comes in. -/
structure AddV where
  pa : Option Addr
  pc : Nat
  ps : List ByteArray
  xa : Option Addr
  xc : Nat
  xs : List Opr
  arm : Int
  crash : Bool
  keep : Int
  torn : Bool
  raw : ByteArray
def AddV.cells (x : AddV) : List Value := [.slice x.pa x.ps.length x.pc, .slice x.xa x.xs.length x.xc, .int .i64 x.arm, .bool x.crash, .int .i64 x.keep, .bool x.torn, .string x.raw]
theorem AddV.one (x : AddV) (v : Value) (hv : v ∈ x.cells) : v.oneCell' = true := by
  simp only [AddV.cells, List.mem_cons, List.mem_nil_iff, or_false] at hv
  rcases hv with rfl | rfl | rfl | rfl | rfl | rfl | rfl <;> rfl
def addvLay : Lay AddV := { sz := 7, cells := AddV.cells, len := fun _ => rfl, one := AddV.one }
/-- What is known of one: its lists. -/
def AddV.Ok (W : World) (x : AddV) : Prop := RowsAt strLay W x.pa x.ps ∧ (x.pa = none → x.pc = 0) ∧ RowsAt oprLay W x.xa x.xs
theorem addv_at {w : World} {a : Option Addr} {xs : List AddV} (h : RowsAt addvLay w a xs) {k : Nat} {x : AddV} (hk : xs[k]? = some x) : ∃ b off, a = some ⟨b, off, none⟩ ∧ b < w.heap.size ∧
    w.cell? ⟨b, off + k * 7, none⟩ = some (.slice x.pa x.ps.length x.pc) ∧ w.cell? ⟨b, off + k * 7 + 1, none⟩ = some (.slice x.xa x.xs.length x.xc) ∧ w.cell? ⟨b, off + k * 7 + 2, none⟩ = some (.int .i64 x.arm) ∧ w.cell? ⟨b, off + k * 7 + 3, none⟩ = some (.bool x.crash) ∧ w.cell? ⟨b, off + k * 7 + 4, none⟩ = some (.int .i64 x.keep) ∧ w.cell? ⟨b, off + k * 7 + 5, none⟩ = some (.bool x.torn) ∧ w.cell? ⟨b, off + k * 7 + 6, none⟩ = some (.string x.raw) := by
  obtain ⟨b, off, e, hlt, hc⟩ := h k x hk
  exact ⟨b, off, e, hlt, hc 0 _ rfl, hc 1 _ rfl, hc 2 _ rfl, hc 3 _ rfl, hc 4 _ rfl, hc 5 _ rfl, hc 6 _ rfl⟩
section
variable {H : Type} {enc : TypeId × Value → H} {P : Program}
theorem arg_addvs {W : World} {base : Nat} {ts : List TypeId} {ds : List (DataW H)} {j : Nat} {t e i b s o ls lo : TypeId} {v : Value} {d : DataW H} {p : List MemPlace}
    (ht : P.underlying t = some (.slice e)) (hlv : leaves P 4 e = [(0, ls), (1, lo), (2, i), (3, b), (4, i), (5, b), (6, s)]) (hC : P.cellsOf e = 7)
    (hus : P.underlying s = some .string) (hui : P.underlying i = some (.int .i64)) (hub : P.underlying b = some .bool) (hls : P.underlying ls = some (.slice s)) (hlo : P.underlying lo = some (.slice o))
    (hvs : leaves P 4 s = [(0, s)]) (hcs : P.cellsOf s = 1) (hvo : leaves P 4 o = [(0, i), (1, i), (2, i), (3, i), (4, i), (5, i), (6, b), (7, i), (8, i), (9, s), (10, s)]) (hco : P.cellsOf o = 11)
    (hv : Value.okWide P W .any base t v) (h : DataW.Trod enc P W 0 (fun _ => true) true t v d p) (hlt : ∀ x ∈ p, x.block < W.heap.size) (hsz : (DataW.weightsEach P ts ds).all (· ≤ reachBytes) = true) (h1 : ts[j]? = some t) (h2 : ds[j]? = some d) :
    ∃ (a : Option Addr) (cap : Nat) (xs : List AddV), v = .slice a xs.length cap ∧ RowsAt addvLay W a xs ∧ (∀ x ∈ xs, x.Ok W) ∧ xs.length ≤ cap ∧ xs.length * P.bytesOf e ≤ 140737488351232 ∧ (a = none → cap = 0) := by
  refine arg_leavesQ (L := addvLay) (Q := fun x => x.Ok W) (by decide) ht hlv hC ?_ hv h hlt hsz h1 h2 (by simp [addvLay])
  intro g hg
  obtain ⟨n0, y0, h0, z0⟩ := hg (0, ls) (by simp)
  obtain ⟨n1, y1, h1, z1⟩ := hg (1, lo) (by simp)
  obtain ⟨n2, y2, h2, _⟩ := hg (2, i) (by simp)
  obtain ⟨n3, y3, h3, _⟩ := hg (3, b) (by simp)
  obtain ⟨n4, y4, h4, _⟩ := hg (4, i) (by simp)
  obtain ⟨n5, y5, h5, _⟩ := hg (5, b) (by simp)
  obtain ⟨n6, y6, h6, _⟩ := hg (6, s) (by simp)
  obtain ⟨pa, pc, ps, e0, r0, _, m0⟩ := rows_of_trodS (L := strLay) (by decide) hls hvs hcs (dec_strS hus) h0 z0 (by simp [strLay])
  obtain ⟨xa, xc, xs, e1, r1, _, _⟩ := rows_of_trodS (L := oprLay) (by decide) hlo hvo hco (fun g hg => dec_op hus hui hub g hg) h1 z1 (by simp [oprLay])
  obtain ⟨v2, e2, _⟩ := DataW.trod_int hui h2
  obtain ⟨v3, e3, _⟩ := DataW.trod_bool hub h3
  obtain ⟨v4, e4, _⟩ := DataW.trod_int hui h4
  obtain ⟨v5, e5, _⟩ := DataW.trod_bool hub h5
  obtain ⟨v6, e6, _⟩ := DataW.trod_string hus h6
  refine ⟨⟨pa, pc, ps, xa, xc, xs, v2, v3, v4, v5, v6⟩, ⟨r0, m0, r1⟩, fun f v hv => ?_⟩
  simp only [List.cons.injEq, and_true] at e2 e3 e4 e5 e6
  match f, hv with
  | 0, hv => exact e0.trans (Option.some.inj hv)
  | 1, hv => exact e1.trans (Option.some.inj hv)
  | 2, hv => rw [e2]; exact Option.some.inj hv
  | 3, hv => rw [e3]; exact Option.some.inj hv
  | 4, hv => rw [e4]; exact Option.some.inj hv
  | 5, hv => rw [e5]; exact Option.some.inj hv
  | 6, hv => rw [e6]; exact Option.some.inj hv
end
end Go.Proofs.YtgglheelhbfgiaaGreatDoor

namespace Go.Proofs.YtgglheelhbfgiaaGreatDoor
open Go Go.RowKit Go.Lib
def fewA (ps : List ByteArray) (xs : List Opr) : Bool := decide (xs.length ≤ 60 ∧ ps.length ≤ 30 ∧ (∀ x ∈ xs, x.name.size ≤ 200 ∧ x.man.size ≤ 1000) ∧ ∀ p ∈ ps, p.size ≤ 500)
theorem fewA_big {ps : List ByteArray} {xs : List Opr} (h : 60 < xs.length ∨ 30 < ps.length) : fewA ps xs = false := decide_eq_false fun hh => by omega
theorem fewA_op {ps : List ByteArray} {xs : List Opr} {k : Nat} {x : Opr} (hx : xs[k]? = some x) (h : 200 < x.name.size ∨ 1000 < x.man.size) : fewA ps xs = false := decide_eq_false fun hh => by
  have := hh.2.2.1 x (List.mem_of_getElem? hx)
  omega
theorem fewA_pc {ps : List ByteArray} {xs : List Opr} {k : Nat} {x : ByteArray} (hx : ps[k]? = some x) (h : 500 < x.size) : fewA ps xs = false := decide_eq_false fun hh => by
  have := hh.2.2.2 x (List.mem_of_getElem? hx)
  omega
theorem all_at {α : Type} {l : List α} {Q : α → Prop} (h : ∀ j x, j < l.length → l[j]? = some x → Q x) : ∀ x ∈ l, Q x := fun x hx => by
  obtain ⟨j, hj⟩ := List.getElem?_of_mem hx
  exact h j x (List.getElem?_eq_some_iff.1 hj).1 hj
theorem fewA_ok {ps : List ByteArray} {xs : List Opr} (h1 : xs.length ≤ 60) (h2 : ps.length ≤ 30) (h3 : ∀ j x, j < xs.length → xs[j]? = some x → x.name.size ≤ 200 ∧ x.man.size ≤ 1000) (h4 : ∀ j x, j < ps.length → ps[j]? = some x → x.size ≤ 500) : fewA ps xs = true := decide_eq_true ⟨h1, h2, all_at h3, all_at h4⟩
theorem upto_next {α : Type} {l : List α} {Q : α → Prop} {k : Nat} {x : α} (h : ∀ j y, j < k → l[j]? = some y → Q y) (hx : l[k]? = some x) (hq : Q x) : ∀ j y, j < k + 1 → l[j]? = some y → Q y := fun j y hj hy => by
  by_cases e : j = k
  · subst e
    rw [hx] at hy
    cases hy
    exact hq
  · exact h j y (by omega) hy
set_option maxRecDepth 100000 in
set_option maxHeartbeats 3200000 in
theorem ofew_any (pa : Option Addr) (pc : Nat) (ps : List ByteArray) (xa : Option Addr) (xc : Nat) (xs : List Opr) (w : World) (hp : RowsAt strLay w pa ps) (hx : RowsAt oprLay w xa xs) :
    Calls Tryz.prog 43 #[.slice pa ps.length pc, .slice xa xs.length xc] w fun e w' => e = .returned (.bool (fewA ps xs)) ∧ w' = w := by
  have HP := Lib.hid hp
  have HX := Lib.hid hx
  clear hp hx
  by_cases h1 : 60 < xs.length
  · have h1i : (60 : Int) < (xs.length : Int) := by omega
    have Hr := Lib.hid (fewA_big (ps := ps) (.inl h1))
    clear h1
    go_enter Tryz.func43, Tryz.ntmps43
    go_wp2_with fail
    go_ret
    exact ⟨ret_bool Hr.out.symm, rfl⟩
  · have h1i : (xs.length : Int) ≤ 60 := by omega
    have h1n : xs.length ≤ 60 := by omega
    by_cases h2 : 30 < ps.length
    · have h2i : (30 : Int) < (ps.length : Int) := by omega
      have Hr := Lib.hid (fewA_big (xs := xs) (.inr h2))
      clear h1 h2
      go_enter Tryz.func43, Tryz.ntmps43
      go_wp2_with fail
      go_ret
      exact ⟨ret_bool Hr.out.symm, rfl⟩
    · have h2i : (ps.length : Int) ≤ 30 := by omega
      have h2n : ps.length ≤ 30 := by omega
      clear h1 h2
      go_enter Tryz.func43, Tryz.ntmps43
      go_wp2_with fail
      go_loopw [5] (fun i wr => ∃ k : Nat, k ≤ xs.length ∧ i = .int .i64 k ∧ Hid (∀ j x, j < k → xs[j]? = some x → x.name.size ≤ 200 ∧ x.man.size ≤ 1000) ∧ wr = w) (fun i _ => xs.length - (RowKit.intOf i).toNat)
      case atStart => exact ⟨0, Nat.zero_le _, rfl, Lib.hid (fun j s hj _ => absurd hj (Nat.not_lt_zero j)), rfl⟩
      case round =>
        obtain ⟨k, hk, rfl, Hk, rfl⟩ := hrel
        by_cases hlt : k < xs.length
        · obtain ⟨x, hx⟩ := at_some hlt
          obtain ⟨b, off, hae, hb, _, _, _, _, _, _, _, _, _, c9, c10⟩ := opr_at HX.out hx
          subst hae
          have hlti : (k : Int) < (xs.length : Int) := by omega
          have Hx := Lib.hid hx
          clear hx
          by_cases hz : 200 < x.name.size
          · have hzi : (200 : Int) < (x.name.size : Int) := by omega
            have Hr := Lib.hid (fewA_op (ps := ps) Hx.out (.inl hz))
            clear hz
            go_wp2_with fail
            go_ret
            exact ⟨ret_bool Hr.out.symm, rfl⟩
          · have hzi : (x.name.size : Int) ≤ 200 := by omega
            have hzn : x.name.size ≤ 200 := by omega
            clear hz
            by_cases hy : 1000 < x.man.size
            · have hyi : (1000 : Int) < (x.man.size : Int) := by omega
              have Hr := Lib.hid (fewA_op (ps := ps) Hx.out (.inr hy))
              clear hy
              go_wp2_with fail
              go_ret
              exact ⟨ret_bool Hr.out.symm, rfl⟩
            · have hyi : (x.man.size : Int) ≤ 1000 := by omega
              have hyn : x.man.size ≤ 1000 := by omega
              clear hy
              go_wp2_with fail
              go_roundw
              case rel => exact ⟨k + 1, by omega, by go_num, Lib.hid (upto_next Hk.out Hx.out ⟨hzn, hyn⟩), (by first | rfl | trivial)⟩
              case measure => simp [RowKit.intOf]; omega
        · obtain rfl : k = xs.length := by omega
          go_wp2_with fail
          go_loopw [6] (fun i wx => ∃ k : Nat, k ≤ ps.length ∧ i = .int .i64 k ∧ Hid (∀ j x, j < k → ps[j]? = some x → x.size ≤ 500) ∧ wx = wr) (fun i _ => ps.length - (RowKit.intOf i).toNat)
          case atStart => exact ⟨0, Nat.zero_le _, rfl, Lib.hid (fun j s hj _ => absurd hj (Nat.not_lt_zero j)), rfl⟩
          case round =>
            obtain ⟨q, hq, rfl, Hq, rfl⟩ := hrel
            by_cases hlt2 : q < ps.length
            · obtain ⟨s, hs⟩ := at_some hlt2
              obtain ⟨b, off, hae, hb, c0⟩ := str_at HP.out hs
              subst hae
              have hlti : (q : Int) < (ps.length : Int) := by omega
              have Hs := Lib.hid hs
              clear hs
              by_cases hz : 500 < s.size
              · have hzi : (500 : Int) < (s.size : Int) := by omega
                have Hr := Lib.hid (fewA_pc (xs := xs) Hs.out hz)
                clear hz
                go_wp2_with fail
                go_ret
                exact ⟨ret_bool Hr.out.symm, rfl⟩
              · have hzi : (s.size : Int) ≤ 500 := by omega
                have hzn : s.size ≤ 500 := by omega
                clear hz
                go_wp2_with fail
                go_roundw
                case rel => exact ⟨q + 1, by omega, by go_num, Lib.hid (upto_next Hq.out Hs.out hzn), (by first | rfl | trivial)⟩
                case measure => simp [RowKit.intOf]; omega
            · obtain rfl : q = ps.length := by omega
              have Hr := Lib.hid (fewA_ok h1n h2n Hk.out Hq.out)
              go_wp2_with fail
              go_ret
              exact ⟨ret_bool Hr.out.symm, rfl⟩
def inO (l : List Opr) (x : Opr) : Bool := decide (x ∈ l)
theorem inO_at {l : List Opr} {k : Nat} {x y : Opr} (h : l[k]? = some y) (e : y = x) : inO l x = true := decide_eq_true (by rw [← e]; exact List.mem_of_getElem? h)
theorem inO_none {l : List Opr} {x : Opr} (h : ∀ j y, j < l.length → l[j]? = some y → y ≠ x) : inO l x = false := decide_eq_false fun hm => all_at (Q := fun y => y ≠ x) h x hm rfl
set_option maxRecDepth 100000 in
set_option maxHeartbeats 3200000 in
theorem ohas_any (a : Option Addr) (cap : Nat) (l : List Opr) (x : Opr) (w : World) (hl : l.length ≤ 100000) (ha : RowsAt oprLay w a l) :
    Calls Tryz.prog 47 #[.slice a l.length cap, .agg #[.int .i64 x.cnt, .int .i64 x.who, .int .i64 x.seq, .int .i64 x.kind, .int .i64 x.nc, .int .i64 x.nw, .bool x.dir, .int .i64 x.pc, .int .i64 x.pw, .string x.name, .string x.man]] w fun e w' => e = .returned (.bool (inO l x)) ∧ Below w.heap.size w w' := by
  have hal := (Below.refl w.heap.size w).alloc (Nat.le_refl _) (.cells #[.int .i64 x.cnt, .int .i64 x.who, .int .i64 x.seq, .int .i64 x.kind, .int .i64 x.nc, .int .i64 x.nw, .bool x.dir, .int .i64 x.pc, .int .i64 x.pw, .string x.name, .string x.man] 66)
  have HA := Lib.hid (ha.keeps hal)
  have hX := box_VarAt w x
  have Hal := Lib.hid hal
  clear ha hal
  go_enter Tryz.func47, Tryz.ntmps47
  go_wp2_with fail
  obtain ⟨W, hW⟩ : ∃ W, w.alloc (.cells #[.int .i64 x.cnt, .int .i64 x.who, .int .i64 x.seq, .int .i64 x.kind, .int .i64 x.nc, .int .i64 x.nw, .bool x.dir, .int .i64 x.pc, .int .i64 x.pw, .string x.name, .string x.man] 66) = W := ⟨_, rfl⟩
  rw [hW] at HA hX Hal ⊢
  clear hW
  obtain ⟨bx, hbx⟩ : ∃ bx, w.heap.size = bx := ⟨_, rfl⟩
  rw [hbx] at hX Hal ⊢
  have Hbx := Lib.hid hbx
  clear hbx
  have x0 := hX.2.2 0 _ rfl
  have x1 := hX.2.2 1 _ rfl
  have x2 := hX.2.2 2 _ rfl
  have x3 := hX.2.2 3 _ rfl
  have x4 := hX.2.2 4 _ rfl
  have x5 := hX.2.2 5 _ rfl
  have x6 := hX.2.2 6 _ rfl
  have x7 := hX.2.2 7 _ rfl
  have x8 := hX.2.2 8 _ rfl
  have x9 := hX.2.2 9 _ rfl
  have x10 := hX.2.2 10 _ rfl
  clear hX
  go_loopw [5] (fun i wr => ∃ k : Nat, k ≤ l.length ∧ i = .int .i64 k ∧ Hid (∀ j y, j < k → l[j]? = some y → y ≠ x) ∧ ∃ n, wr = W.drewN n) (fun i _ => l.length - (RowKit.intOf i).toNat)
  case atStart => exact ⟨0, Nat.zero_le _, rfl, Lib.hid (fun j s hj _ => absurd hj (Nat.not_lt_zero j)), Drawn.refl _⟩
  case round =>
    obtain ⟨k, hk, rfl, Hk, n, rfl⟩ := hrel
    by_cases hlt : k < l.length
    · obtain ⟨y, hy⟩ := at_some hlt
      obtain ⟨b1, o1, rfl, hb1, c0, c1, c2, c3, c4, c5, c6, c7, c8, c9, c10⟩ := opr_at HA.out hy
      have hlti : (k : Int) < (l.length : Int) := by omega
      have Hy := Lib.hid hy
      clear hy
      have heq := eqlOpr y x
      by_cases h1 : y = x
      · have e1 : decide (y = x) = true := decide_eq_true h1
        rw [e1] at heq
        have Hr := Lib.hid (inO_at Hy.out h1)
        clear h1 e1
        go_wp2
        go_quiet (fail)
        go_wp2
        go_ret
        exact ⟨ret_bool Hr.out.symm, by rw [Hbx.out]; exact belowDrew (belowDrew Hal.out _) _⟩
      · have e1 : decide (y = x) = false := decide_eq_false h1
        rw [e1] at heq
        have Hn := Lib.hid (upto_next Hk.out Hy.out h1)
        clear h1 e1
        go_wp2
        go_quiet (fail)
        go_wp2
        go_roundw
        case rel => exact ⟨k + 1, by omega, by go_num, Hn, n + nq, by simp⟩
        case measure => simp [RowKit.intOf]; omega
    · obtain rfl : k = l.length := by omega
      have Hr := Lib.hid (inO_none Hk.out)
      go_wp2
      go_ret
      exact ⟨ret_bool Hr.out.symm, by rw [Hbx.out]; exact belowDrew Hal.out _⟩
end Go.Proofs.YtgglheelhbfgiaaGreatDoor

namespace Go.Proofs.YtgglheelhbfgiaaGreatDoor
open Go Go.RowKit Go.Lib
/-- A list of the law's own. -/
structure RowJ {α : Type} (L : Lay α) (e : TypeId) (w0 w : World) (T : Nat → Prop) (ob lb : Nat) (v : Value) (xs : List α) : Prop where
  row : OwnRows L w w0.heap.size e v xs
  out : ∀ j, v.ownBlock = some j → ¬ T j ∧ j ≠ lb ∧ j ≠ ob
theorem OStp.of_below {w w' : World} {T : Nat → Prop} {ob lb : Nat} (hb : Below w.heap.size w w') : OStp w w' T T ob lb := ⟨Turned.of_below hb (Nat.le_refl _), fun _ h => .inl h⟩
theorem RowJ.step {α : Type} {L : Lay α} {e : TypeId} {w0 w w' : World} {T T' : Nat → Prop} {ob lb : Nat} {v : Value} {xs : List α} (h : RowJ L e w0 w T ob lb v xs) (hs : OStp w w' T T' ob lb) : RowJ L e w0 w' T' ob lb v xs := by
  refine ⟨h.row.turnedOther hs.turned fun k hk hh => ?_, fun j hj => ⟨fun hT => ?_, (h.out j hj).2⟩⟩
  · rcases hh with hh | hh | hh
    · exact (h.out k hk).1 hh
    · exact (h.out k hk).2.1 hh
    · exact (h.out k hk).2.2 hh
  · rcases hs.grown j hT with hh | hh
    · exact (h.out j hj).1 hh
    · have := (h.row.lt hj).2
      omega
theorem RowJ.below {α : Type} {L : Lay α} {e : TypeId} {w0 w w' : World} {T : Nat → Prop} {ob lb : Nat} {v : Value} {xs : List α} (h : RowJ L e w0 w T ob lb v xs) (hb : Below w.heap.size w w') : RowJ L e w0 w' T ob lb v xs := h.step (OStp.of_below hb)
theorem RowJ.turn {α : Type} {L : Lay α} {e : TypeId} {w0 w w' : World} {T S : Nat → Prop} {ob lb : Nat} {v : Value} {xs : List α} (h : RowJ L e w0 w T ob lb v xs) (ht : Turned S w.heap.size w w') (hS : ∀ j, v.ownBlock = some j → ¬ S j) : RowJ L e w0 w' T ob lb v xs := ⟨h.row.turnedOther ht hS, h.out⟩
theorem RowJ.nil {α : Type} (L : Lay α) (e : TypeId) (w0 w : World) (T : Nat → Prop) (ob lb : Nat) : RowJ L e w0 w T ob lb (.slice none 0 0) [] := ⟨OwnRows.nil _ _ _ _, fun j hj => by cases hj⟩
/-- A list that a call made. -/
theorem RowJ.made {α : Type} {L : Lay α} {e : TypeId} {w0 w w' : World} {T : Nat → Prop} {ob lb : Nat} {v : Value} {xs : List α} {d : Dk} {o : Ol} {db : Nat} (hI : OlIn w0 w db ob lb T d o) (h : OwnRows L w' w.heap.size e v xs) : RowJ L e w0 w' T ob lb v xs := by
  refine ⟨h.lower hI.lin.below.size, fun j hj => ?_⟩
  have h1 := (h.lt hj).1
  have h2 := hI.lin.log.1
  have h3 : ob < w.heap.size := by obtain ⟨_, _, h4, _⟩ := hI.st; obtain ⟨_, hc, _⟩ := h4.cells; exact hc.1
  exact ⟨fun hT => (by have := hI.lin.disk.slt j hT; omega), (by omega), (by omega)⟩
/-- The same, at another oplog that is newer. -/
theorem RowJ.fresh {α : Type} {L : Lay α} {e : TypeId} {w0 w : World} {T : Nat → Prop} {ob lb ob2 lb2 : Nat} {v : Value} {xs : List α} {B : Nat} (h : RowJ L e w0 w T ob lb v xs) (hB : ∀ j, v.ownBlock = some j → j < B) (h1 : B ≤ ob2) (h2 : B ≤ lb2) : RowJ L e w0 w T ob2 lb2 v xs :=
  ⟨h.row, fun j hj => by have := hB j hj; exact ⟨(h.out j hj).1, (by omega), (by omega)⟩⟩
theorem newT {T T' : Nat → Prop} {B : Nat} (hT : ∀ k, T' k → T k ∨ B ≤ k) : ∀ k, k < B → ¬ T k → ¬ T' k := fun k hk ht hh => by
  rcases hT k hh with hh | hh
  · exact ht hh
  · omega
theorem OlIn.obLt {w0 w : World} {db ob lb : Nat} {T : Nat → Prop} {d : Dk} {o : Ol} (h : OlIn w0 w db ob lb T d o) : ob < w.heap.size := by
  obtain ⟨_, _, h4, _⟩ := h.st
  obtain ⟨_, hc, _⟩ := h4.cells
  exact hc.1
/-- A call of the disk, or the opening of another oplog: this one stands. -/
theorem OlIn.moved {w0 w w' : World} {db ob lb : Nat} {T T' : Nat → Prop} {d d' : Dk} {o : Ol} (h : OlIn w0 w db ob lb T d o) (h1 : DOk w' db T' d') (h2 : ∀ k, T' k → T k ∨ w.heap.size ≤ k) (h3 : Turned T w.heap.size w w') : OlIn w0 w' db ob lb T' d' o ∧ OStp w w' T T' ob lb := by
  have hob := h.obLt
  have hno := newT h2
  obtain ⟨hl, _⟩ := h.lin.opened h1 h2 h3
  obtain ⟨g1, ⟨a, vp, g2, g3, g4⟩, g5, g6, g7⟩ := h
  refine ⟨⟨hl, ⟨a, vp, g2.foreign h3 fun k hk => ⟨fun e => ?_, fun e => ?_, fun ad e1 e => ?_⟩, fun ad e => ⟨(g3 ad e).1, hno _ (g2.alt ad e) (g3 ad e).2.1, (g3 ad e).2.2⟩, fun k e => ⟨hno _ (g2.pcs.lt e).2 (g4 k e).1, (g4 k e).2⟩⟩, g5, hno _ hob g6, g7⟩, h3.mono (Nat.le_refl _) (fun _ _ h => .inl h), h2⟩
  · subst e
    exact g6 hk
  · exact (g4 k e).1 hk
  · subst e
    exact (g3 ad e1).2.1 hk
theorem OlIn.go {w0 w w' : World} {db ob lb : Nat} {T : Nat → Prop} {d d' : Dk} {o : Ol} (h : OlIn w0 w db ob lb T d o) (hg : DGo w db T d' w') : ∃ T', OlIn w0 w' db ob lb T' d' o ∧ OStp w w' T T' ob lb := by
  obtain ⟨h1, h2⟩ := hg
  exact ⟨_, h.moved h1 (fun k hk => hk.imp id And.left) h2⟩
/-- Operations of the law's own, and where they lie. -/
structure OpsJ (w0 w : World) (T : Nat → Prop) (ob lb : Nat) (a : Option Addr) (cap : Nat) (l : List Opr) : Prop where
  at_ : OpsAt w a cap l
  out : ∀ ad, a = some ad → ad.block < w.heap.size ∧ w0.heap.size ≤ ad.block ∧ ¬ T ad.block ∧ ad.block ≠ lb ∧ ad.block ≠ ob
theorem OpsJ.nil (w0 w : World) (T : Nat → Prop) (ob lb : Nat) : OpsJ w0 w T ob lb none 0 [] := ⟨⟨RowsAt.nil _ _ _, fun _ => rfl, Nat.le_refl _⟩, fun ad e => by cases e⟩
theorem OpsJ.step {w0 w w' : World} {T T' : Nat → Prop} {ob lb : Nat} {a : Option Addr} {cap : Nat} {l : List Opr} (h : OpsJ w0 w T ob lb a cap l) (hs : OStp w w' T T' ob lb) : OpsJ w0 w' T' ob lb a cap l := by
  refine ⟨⟨h.at_.rows.turned2 hs.turned fun ad e _ hh => ?_, h.at_.nil, h.at_.le⟩, fun ad e => ?_⟩
  · have h1 := h.out ad e
    rcases hh with hh | hh | hh
    · exact h1.2.2.1 hh
    · exact h1.2.2.2.1 hh
    · exact h1.2.2.2.2 hh
  · have h1 := h.out ad e
    refine ⟨Nat.lt_of_lt_of_le h1.1 hs.turned.size, h1.2.1, fun hT => ?_, h1.2.2.2⟩
    rcases hs.grown _ hT with hh | hh
    · exact h1.2.2.1 hh
    · omega
theorem OpsJ.below {w0 w w' : World} {T : Nat → Prop} {ob lb : Nat} {a : Option Addr} {cap : Nat} {l : List Opr} (h : OpsJ w0 w T ob lb a cap l) (hb : Below w.heap.size w w') : OpsJ w0 w' T ob lb a cap l := h.step (OStp.of_below hb)
theorem OpsJ.fresh {w0 w : World} {T : Nat → Prop} {ob lb ob2 lb2 : Nat} {a : Option Addr} {cap : Nat} {l : List Opr} {B : Nat} (h : OpsJ w0 w T ob lb a cap l) (hB : ∀ ad, a = some ad → ad.block < B) (h1 : B ≤ ob2) (h2 : B ≤ lb2) : OpsJ w0 w T ob2 lb2 a cap l :=
  ⟨h.at_, fun ad e => by have := hB ad e; have h3 := h.out ad e; exact ⟨h3.1, h3.2.1, h3.2.2.1, (by omega), (by omega)⟩⟩
/-- Operations that a call answered. -/
theorem OpsJ.made {w0 w w' : World} {T : Nat → Prop} {ob lb : Nat} {a : Option Addr} {cap : Nat} {l : List Opr} {d : Dk} {o : Ol} {db : Nat} (hI : OlIn w0 w db ob lb T d o) (h : OwnRows oprLay w' w.heap.size 66 (.slice a l.length cap) l) : OpsJ w0 w' T ob lb a cap l := by
  obtain ⟨a1, cap1, e1, h1, h2, h3, _⟩ := h.read_nil
  cases e1
  refine ⟨⟨h1, h3, h2⟩, fun ad e => ?_⟩
  subst e
  have g1 := h.lt (k := ad.block) rfl
  have g2 := hI.lin.log.1
  have g3 : ob < w.heap.size := hI.obLt
  have g4 := hI.lin.below.size
  exact ⟨g1.2, (by omega), fun hT => (by have := hI.lin.disk.slt _ hT; omega), (by omega), (by omega)⟩
/-- What ops.Add answered. -/
theorem OpsJ.added {w0 w w' : World} {T : Nat → Prop} {ob lb : Nat} {a a' : Option Addr} {cap cap' : Nat} {l l' : List Opr} {d : Dk} {o : Ol} {db : Nat} (hI : OlIn w0 w db ob lb T d o) (h : OpsJ w0 w T ob lb a cap l) (h1 : RowsAt oprLay w' a' l') (h2 : a' = none → cap' = 0) (h3 : l'.length ≤ cap') (h0 : 0 < l'.length) (hb : Below w.heap.size w w') (h4 : a' = a ∨ ∀ ad, a' = some ad → w.heap.size ≤ ad.block) : OpsJ w0 w' T ob lb a' cap' l' := by
  refine ⟨⟨h1, h2, h3⟩, fun ad e => ?_⟩
  rcases h4 with h4 | h4
  · have h5 := h.out ad (h4.symm.trans e)
    exact ⟨Nat.lt_of_lt_of_le h5.1 hb.size, h5.2⟩
  · have h5 := h4 ad e
    have g2 := hI.lin.log.1
    have g3 : ob < w.heap.size := hI.obLt
    have g4 := hI.lin.below.size
    subst e
    exact ⟨rows_block h1 h0, (by omega), fun hT => (by have := hI.lin.disk.slt _ hT; omega), (by omega), (by omega)⟩
/-- A variable of the law's own. -/
structure VarJ (w0 w : World) (T : Nat → Prop) (ob lb b : Nat) (cs : List Value) : Prop where
  var : VarAt w b cs
  out : w0.heap.size ≤ b ∧ ¬ T b ∧ b ≠ lb ∧ b ≠ ob
theorem VarJ.step {w0 w w' : World} {T T' : Nat → Prop} {ob lb b : Nat} {cs : List Value} (h : VarJ w0 w T ob lb b cs) (hs : OStp w w' T T' ob lb) : VarJ w0 w' T' ob lb b cs := by
  refine ⟨h.var.same (hs.turned.block b h.var.1 fun hh => ?_) hs.turned.size, h.out.1, fun hT => ?_, h.out.2.2⟩
  · rcases hh with hh | hh | hh
    · exact h.out.2.1 hh
    · exact h.out.2.2.1 hh
    · exact h.out.2.2.2 hh
  · rcases hs.grown _ hT with hh | hh
    · exact h.out.2.1 hh
    · have := h.var.1
      omega
theorem VarJ.below {w0 w w' : World} {T : Nat → Prop} {ob lb b : Nat} {cs : List Value} (h : VarJ w0 w T ob lb b cs) (hb : Below w.heap.size w w') : VarJ w0 w' T ob lb b cs := h.step (OStp.of_below hb)
/-- What an opening is, at a disk whose records are known. -/
structure OpenOk (d : Dk) (Q : List (List UInt8)) (s : StO) : Prop where
  st : StL 4194304 (openD d).d Q
  is : openO d = ⟨some ⟨s, logOf Q, false⟩, 0, (openD d).d⟩
  out : (openD d).out.length ≤ 10000
  size : ∀ r ∈ (openD d).out, 0 < r.size ∧ r.size ≤ 100000
  fine : ∀ l, (openD d).log = some l → (openD d).err = 0
  wrong : (openD d).log = none → (openD d).err ≠ 0
theorem open_ok {d : Dk} {Q : List (List UInt8)} {s : StO} (h : MidL 4194304 d Q) (hr : replaysS noSt (Q.map mkB) = some s) : OpenOk d Q s := by
  obtain ⟨a1, a2, a3, a4, _⟩ := open_still h (by decide)
  refine ⟨a4, openO_good _ _ a1 (by rw [a2]; exact hr), ?_, fun r hr => ?_, fun _ _ => a3, fun e => (by rw [a1] at e; cases e)⟩
  · rw [a2, List.length_map]
    have := a4.clean.len
    omega
  · rw [a2] at hr
    obtain ⟨x, hx, rfl⟩ := List.mem_map.1 hr
    have h1 := a4.clean.right x hx
    unfold recOk at h1
    simp only [Bool.and_eq_true, decide_eq_true_eq] at h1
    have h2 : (mkB x).size = x.length := by
      unfold mkB
      show x.toArray.size = _
      simp
    omega
theorem oopen_known {w0 w : World} {db : Nat} {T : Nat → Prop} {d : Dk} {Q : List (List UInt8)} {s : StO} (h : DOk w db T d) (hM : MidL 4194304 d Q) (hr : replaysS noSt (Q.map mkB) = some s) (ht : TabD w0) (hb0 : Below w0.heap.size w0 w) (hS : ∀ k, T k → w0.heap.size ≤ k) :
    Calls Tryz.prog 35 #[.pointer (some ⟨db, 0, none⟩)] w fun e w' => ∃ T' ob lb, e = .returned (.tuple #[.pointer (some ⟨ob, 0, none⟩), .int .i64 0]) ∧ OlIn w0 w' db ob lb T' (openD d).d ⟨s, logOf Q, false⟩ ∧ (∀ k, T' k → T k ∨ w.heap.size ≤ k) ∧ Turned T w.heap.size w w' ∧ w.heap.size ≤ ob ∧ w.heap.size ≤ lb := by
  have hO := open_ok hM hr
  refine (oopen_any h (Nat.le_trans hM.bnd.now (by decide)) (Nat.le_trans hM.bnd.acts (by decide)) ht hb0 hS hO.out hO.size hO.fine hO.wrong).mono ?_
  rintro e w1 hh
  rw [hO.is] at hh
  obtain ⟨T', hD, hT, hTu, hcase⟩ := hh
  rcases hcase with ⟨h1, _⟩ | ⟨ol, ob, lb, h1, rfl, hIn, hob, hlb⟩
  · cases h1
  cases h1
  exact ⟨T', ob, lb, rfl, hIn, hT, hTu, hob, hlb⟩
/-- How many there are. -/
theorem replays_len : ∀ (rs : List ByteArray) (s s' : StO), replaysS s rs = some s' → s'.ops.length ≤ s.ops.length + rs.length ∧ s'.pcs.length ≤ s.pcs.length + rs.length
  | [], s, s', h => by
    cases h
    exact ⟨Nat.le_refl _, Nat.le_refl _⟩
  | r :: rs, s, s', h => by
    by_cases hr : (replayS s r).2 = true
    · rw [replays_go hr] at h
      have h1 := replays_len rs _ _ h
      have h2 := replayS_len s r
      simp only [List.length_cons]
      omega
    · rw [replays_stop (by simpa using hr)] at h
      cases h
theorem known_len {d : Dk} {Q : List (List UInt8)} {s : StO} (h : StL 4194304 d Q) (hr : replaysS noSt (Q.map mkB) = some s) : s.ops.length ≤ 800 ∧ s.pcs.length ≤ 800 := by
  have h1 := replays_len _ _ _ hr
  have h2 := h.clean.len
  rw [List.length_map] at h1
  simp only [noSt, List.length_nil] at h1
  omega
theorem mid_len {d : Dk} {Q : List (List UInt8)} {s : StO} (h : MidL 4194304 d Q) (hr : replaysS noSt (Q.map mkB) = some s) : s.ops.length ≤ 800 ∧ s.pcs.length ≤ 800 := known_len (open_ok h hr).st hr
/-! ### the next stamp -/
theorem max_ge : ∀ (l : List Opr) (m : Int), m ≤ l.foldl (fun m x => max m x.cnt) m ∧ ∀ x ∈ l, x.cnt ≤ l.foldl (fun m x => max m x.cnt) m
  | [], m => ⟨Int.le_refl _, fun x hx => by cases hx⟩
  | y :: l, m => by
    have h := max_ge l (max m y.cnt)
    refine ⟨Int.le_trans (by omega) h.1, fun x hx => ?_⟩
    rcases List.mem_cons.1 hx with rfl | hx
    · exact Int.le_trans (by omega) h.1
    · exact h.2 x hx
theorem lastO_ge {l : List Opr} {x : Opr} (hx : x ∈ l) : x.cnt ≤ lastO l := (max_ge l 0).2 x hx
structure NextOk (l : List Opr) (k : Nat) (N : (Int × Int × Int) × Int) : Prop where
  err : N.2 = 0 ∨ N.2 = 21
  who : N.2 = 0 → N.1.2.1 = k
  num : N.2 = 0 → N.1.2.2 = cntO l k + 1
  less : N.2 = 0 → ∀ x ∈ l, lessC x.cnt x.who N.1.1 N.1.2.1 = true
theorem next_ok (l : List Opr) (k : Nat) (hk : k < 15) : NextOk l k (nextO l k) := by
  unfold nextO
  rw [if_neg (by omega)]
  split
  · exact ⟨.inr rfl, fun h => (by cases h), fun h => (by cases h), fun h => (by cases h)⟩
  · refine ⟨.inl rfl, fun _ => rfl, fun _ => ?_, fun _ x hx => ?_⟩
    · show 1 + ((l.filter fun x => decide (x.who = (k : Int))).length : Int) = cntO l k + 1
      unfold cntO
      have e : (fun x : Opr => decide (x.who = (k : Int))) = fun x => x.who == (k : Int) := funext fun x => by
        rw [Bool.eq_iff_iff]
        simp
      rw [e]
      omega
    · have := lastO_ge hx
      unfold lessC
      rw [decide_eq_true (show x.cnt < lastO l + 1 by omega)]
      rfl
theorem vec_in {l : List Opr} {k : Nat} (h : k < lenO l) : (vecO l)[k]? = some (cntO l k) := padO_get h
theorem vec_len (l : List Opr) : (vecO l).length = lenO l := padO_len _ _
theorem OwnRows.rowsJ {α : Type} {L : Lay α} {W : World} {base : Nat} {e : TypeId} {a : Option Addr} {n cap : Nat} {xs : List α} (h : OwnRows L W base e (.slice a n cap) xs) : RowsAt L W a xs := by
  obtain ⟨a1, c1, e1, h1, _⟩ := h.read
  cases e1
  exact h1
/-- A set of texts, as a map. -/
def setS (l : List ByteArray) : ByteArray → Option Value := fun c => if c ∈ l then some (.bool true) else none
theorem setS_put (l : List ByteArray) (s : ByteArray) : putAt (setS l) s (.bool true) = setS (l ++ [s]) := by
  funext x
  unfold putAt setS
  by_cases h : x = s
  · rw [if_pos h, if_pos (List.mem_append.2 (.inr (List.mem_singleton.2 h)))]
  · rw [if_neg h]
    by_cases hx : x ∈ l
    · rw [if_pos hx, if_pos (List.mem_append.2 (.inl hx))]
    · rw [if_neg hx, if_neg fun hh => (List.mem_append.1 hh).elim hx fun h2 => h (List.mem_singleton.1 h2)]
theorem setS_get {l : List ByteArray} {s : ByteArray} (h : s ∈ l) : ((setS l) s).getD (.bool false) = .bool true := by
  unfold setS
  rw [if_pos h]
  rfl
theorem BndD.adds {n : Nat} {d : Dk} (h : BndD n d) (o : Ol) (ps : List ByteArray) (xs : List Opr) : BndD (n + (ps.length + xs.length)) (addS o ps xs d).2.1 := by
  have h0 : BndD (n + (ps.length + xs.length)) d := h.le (Nat.le_add_right _ _)
  have h1 := (h.append o.log (grownS o.st ps xs).1.2).le (Nat.add_le_add_left (grownS_len o.st ps xs) n)
  unfold addS
  split
  · exact h0
  · split
    · exact h0
    · split
      · exact h1
      · exact h1
theorem right_put {ps : List ByteArray} {k : Nat} {s : ByteArray} (h : ps[k]? = some s) : (ps.take (k + 1)).all rightP = ((ps.take k).all rightP && rightP s) := by
  obtain ⟨hk, e⟩ := List.getElem?_eq_some_iff.1 h
  rw [List.take_succ_eq_append_getElem hk, e, List.all_append]
  simp
theorem allO_len : ∀ (xs l : List Opr), (allO l xs).1.length ≤ l.length + xs.length
  | [], l => Nat.le_refl _
  | x :: xs, l => by
    by_cases h : (addO l x).2 = 0
    · rw [allO_go h]
      have h1 := allO_len xs (addO l x).1
      have h2 := addO_len2 l x
      simp only [List.length_cons]
      omega
    · rw [allO_stop h]
      exact Nat.le_add_right _ _
end Go.Proofs.YtgglheelhbfgiaaGreatDoor

namespace Go.Proofs.YtgglheelhbfgiaaGreatDoor
open Go Go.RowKit
section
variable {α : Type} {P : Program} (w : World)
theorem run_append_list (t ty : TypeId) (L : Lay α) (base : Nat) (e : TypeId) (i : TypeInfo) (z : Value) (bytes : Nat) (ht : P.underlying t = some (.slice e)) (hi : P.info? e = some i) (hz : i.zero = some z)
    (hsize : i.size = L.sz) (hby : i.bytes = bytes) (hzs : z.cells.size = L.sz) (hsz : 0 < L.sz)
    (v : Value) (xs : List α) (hown : OwnRows L w base e v xs)
    (ad : Option Addr) (c : Nat) (ys : List α) (hu : RowsAt L w ad ys) (hnil : ad = none → c = 0)
    (h63 : xs.length + ys.length ≤ maxLen) (hbytes : (xs.length + ys.length) * bytes ≤ 140737488355328) (hbase : base ≤ w.heap.size) :
    ∃ v' w', (Builtin.append_ #[t, t] ty #[v, .slice ad ys.length c]).run P w = .ok v' w' ∧ OwnRows L w' base e v' (xs ++ ys) ∧ w.grownBy w' v.ownBlock ∧ (v'.ownBlock = v.ownBlock ∨ v'.ownBlock = some w.heap.size) := by
  cases ad with
  | none =>
    obtain rfl := hnil rfl
    have : ys = [] := by
      cases ys with
      | nil => rfl
      | cons y ys =>
        obtain ⟨b, off, e, _⟩ := hu 0 y rfl
        cases e
    subst this
    exact ⟨v, w, run_append_owned_none (P := P) (w := w) base t ty e i L.sz ht hi v xs.length (flat L xs) hown, by simpa using hown, ⟨rfl, rfl, rfl, Nat.le_refl _, fun _ _ _ => rfl⟩, .inl rfl⟩
  | some ad =>
    obtain ⟨v', w', hr, h1, h2, _, h4⟩ := run_append_own_at (P := P) w base t ty e i z L.sz bytes ht hi hz hsize hby hzs hsz v xs.length (flat L xs) hown ad ys.length c (flat L ys) (flat_length L ys) (rows_flat hsz hu) (flat_one L ys) h63 hbytes hbase
    refine ⟨v', w', hr, ?_, h2, h4⟩
    unfold OwnRows
    rw [flat_append, List.length_append]
    exact h1
theorem step_append_list {ops : Array Oper} {o : Oper} {a : Act} {K : Act → World → Prop} {Q : Exit → Act → World → Prop} {E : Prop} (hgd : o.guard = none) (s x : Operand) (t : TypeId)
    (ho : o.op = .call { callee := .builtin .append, args := #[s, x], argTypes := #[t, t] })
    (L : Lay α) (base : Nat) (e : TypeId) (i : TypeInfo) (z : Value) (bytes : Nat) (ht : P.underlying t = some (.slice e)) (hi : P.info? e = some i) (hz : i.zero = some z)
    (hsize : i.size = L.sz) (hby : i.bytes = bytes) (hzs : z.cells.size = L.sz) (hsz : 0 < L.sz)
    (v : Value) (xs : List α) (hs : a.eval s = v) (hown : OwnRows L w base e v xs)
    (ad : Option Addr) (c m : Nat) (ys : List α) (hx : a.eval x = .slice ad m c) (hm : ys.length = m) (hu : RowsAt L w ad ys) (hnil : ad = none → c = 0)
    (h63 : xs.length + ys.length ≤ maxLen) (hbytes : (xs.length + ys.length) * bytes ≤ 140737488355328) (hbase : base ≤ w.heap.size)
    (h : ∀ v' w', OwnRows L w' base e v' (xs ++ ys) → w.grownBy w' v.ownBlock → (v'.ownBlock = v.ownBlock ∨ v'.ownBlock = some w.heap.size) → K (a.put o.dst v') w') :
    if Region.wanted o (yielded ops a.tmps) = true then Oper.wp P o a w K Q else E := by
  subst hm
  rw [if_pos (by simp [Region.wanted, hgd])]
  obtain ⟨v', w', hr, h1, h2, h4⟩ := run_append_list (P := P) w t o.type L base e i z bytes ht hi hz hsize hby hzs hsz v xs hown ad c ys hu hnil h63 hbytes hbase
  unfold Oper.wp execOp
  simp only [ho, resolve, invoke, builtin, Sem.run_bind, Sem.run_pure, Result.andThen_ok, List.map_toArray, List.map_cons, List.map_nil, hs, hx, hr]
  exact h v' w' h1 h2 h4
end
end Go.Proofs.YtgglheelhbfgiaaGreatDoor

