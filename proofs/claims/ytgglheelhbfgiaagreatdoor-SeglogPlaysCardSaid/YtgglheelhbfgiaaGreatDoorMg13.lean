/-
  arbourref15: files with one in its place. arbourref15: what a list of files is with one in its place, in plain Lean: the files of the code's own disk. arbourref15: files behind an act. arbourref15: files behind a write. arbourref15: a disk of three lists; wrong, act.
-/
import Derived.Test.YtgglheelhbfgiaaGreatDoorMg7
import Derived.Test.YtgglheelhbfgiaaGreatDoorMg12
import Derived.Lib.Strings
import Derived.Test.YtgglheelhbfgiaaGreatDoorMg8
import Derived.Test.YtgglheelhbfgiaaGreatDoorMg11
import Derived.Deep.OwnRows
import Derived.Deep.CutRange
import Derived.Laws.Concat
namespace Go.Proofs.YtgglheelhbfgiaaGreatDoor
open Go Go.RowKit Go.Lib
theorem flInfo : (Tryz.prog.info? 122).map (fun i => (i.zero, i.size, i.bytes)) = some (some (.agg #[.string ⟨#[]⟩, .string ⟨#[]⟩]), 2, 32) := by kernel_rfl
def set15 (l : Fls) (p s : ByteArray) : Fls := l.take (atN l p) ++ [(p, s)] ++ l.drop (if isN l p then atN l p + 1 else atN l p)
theorem atN_le : ∀ (l : Fls) (p : ByteArray), atN l p ≤ l.length
  | [], _ => Nat.le_refl _
  | x :: r, p => by
    unfold atN
    have := atN_le r p
    split
    · simp only [List.length_cons]
      omega
    · exact Nat.zero_le _
theorem isN_lt : ∀ (l : Fls) (p : ByteArray), isN l p = true → atN l p < l.length
  | [], _, h => by cases h
  | x :: r, p, h => by
    unfold isN at h
    unfold atN
    split
    · rename_i hb
      rw [if_pos hb] at h
      have := isN_lt r p h
      simp only [List.length_cons]
      omega
    · exact Nat.succ_pos _
set_option maxRecDepth 100000 in
set_option maxHeartbeats 3200000 in
theorem r15set_any (a : Option Addr) (cap : Nat) (l : Fls) (p s : ByteArray) (w : World) (hl : l.length ≤ 1000000) (hc : l.length ≤ cap) (hn : a = none → cap = 0) (ha : RowsAt flLay w a l) :
    Calls Tryz.prog 105 #[.slice a l.length cap, .agg #[.string p, .string s]] w fun e w' => ∃ v, e = .returned v ∧ OwnRows flLay w' w.heap.size 122 v (set15 l p s) ∧ Below w.heap.size w w' := by
  obtain ⟨i0, hi, hz0, hz1, hz2⟩ := info_three flInfo
  have Hi := Lib.hid hi
  have Hz0 := Lib.hid hz0
  have Hz1 := Lib.hid hz1
  have Hz2 := Lib.hid hz2
  clear hi hz0 hz1 hz2
  have hal := (Below.refl w.heap.size w).alloc (Nat.le_refl _) (.cells #[.string p, .string s] 122)
  have hV := VarAt.new w #[.string p, .string s] 122
  have HAt := Lib.hid (r15at_any a cap l p (w.alloc (.cells #[.string p, .string s] 122)) hl (ha.keeps hal))
  have HA := Lib.hid fun W (hW : Below w.heap.size w W) => ha.keeps hW
  have hle := atN_le l p
  have Hlt := Lib.hid (isN_lt l p)
  have hs1 := slice_high (P := Tryz.prog) Tryz.underlying102 (fun w => Tryz.sizeOf122 w) a l.length cap (atN l p) (by omega)
  have HS := Lib.hid fun k (hk : k ≤ l.length) => slice_low (P := Tryz.prog) Tryz.underlying102 (fun w => Tryz.sizeOf122 w) a l.length cap k hk
  have HR := Lib.hid (show set15 l p s = l.take (atN l p) ++ [(p, s)] ++ l.drop (if isN l p then atN l p + 1 else atN l p) from rfl)
  have f0 := hV.2.2 0 _ rfl
  have f1 := hV.2.2 1 _ rfl
  have Hal := Lib.hid hal
  have HV := Lib.hid hV
  have Hn := Lib.hid hn
  clear ha hal hV hn
  generalize set15 l p s = R at *
  generalize atN l p = k at *
  generalize isN l p = b at *
  go_enter Tryz.func105, Tryz.ntmps105
  go_wp2_with fail
  refine HAt.out.mono ?_
  rintro e w1 ⟨rfl, n1, hw1⟩
  have hb1 : Below w.heap.size w w1 := by rw [hw1]; exact belowDrew Hal.out n1
  have hV1 : VarAt w1 w.heap.size [.string p, .string s] := by rw [hw1]; exact HV.out.keeps (belowDrew (Below.refl _ _) n1) HV.out.1
  have g0 := hV1.2.2 0 _ rfl
  have g1 := hV1.2.2 1 _ rfl
  have HV1 := Lib.hid hV1
  have Hb1 := Lib.hid hb1
  clear hw1 hV1 hb1 f0 f1 HAt HV Hal
  have hr1 := (HA.out w1 Hb1.out).of_prefix (List.take_prefix k l)
  have hlk : (l.take k).length = k := by rw [List.length_take]; omega
  have Hr1 := Lib.hid hr1
  have Hlk := Lib.hid hlk
  clear hr1 hlk
  go_upto_region 4 with (at_builtin; refine wpList_append_from _ rfl _ _ 102 rfl flLay w1.heap.size 122 i0 (.agg #[.string ⟨#[]⟩, .string ⟨#[]⟩]) 32 Tryz.underlying102 Hi.out Hz0.out Hz1.out Hz2.out rfl (by decide) _ [] rfl (OwnRows.nil _ _ _ _) a cap k (l.take k) rfl Hlk.out Hr1.out Hn.out (by rw [Hlk.out]; unfold maxLen; simp; omega) (by rw [Hlk.out]; simp; omega) (Nat.le_refl _) ?_; intro va w2 hrow2 hg2 hv2; go_frame)
  rw [List.nil_append] at hrow2
  have hb2 : Below w1.heap.size w1 w2 := (Below.refl w1.heap.size w1).grown hg2 (Nat.le_refl _) (fun j ej => by cases ej)
  have hV2 := HV1.out.keeps hb2 HV1.out.1
  have e0 := hV2.2.2 0 _ rfl
  have e1 := hV2.2.2 1 _ rfl
  have hal2 := (Below.refl w2.heap.size w2).alloc (Nat.le_refl _) (.cells #[.string p, .string s] 122)
  have hrow3 := hrow2.alloc (.cells #[.string p, .string s] 122)
  have Hrow3 := Lib.hid hrow3
  have Hb3 := Lib.hid (hb2.trans (hal2.mono hb2.size))
  obtain ⟨bn, hbn⟩ : ∃ bn, w2.heap.size = bn := ⟨_, rfl⟩
  have Hbn := Lib.hid hbn
  have hs3 : w1.heap.size ≤ w2.heap.size := hb2.size
  clear hg2 hv2 hrow2 hb2 hV2 hal2 hrow3 hbn g0 g1
  go_upto_if 24 with (at_builtin; refine wpList_append_rows _ rfl _ _ 102 rfl flLay w1.heap.size 122 i0 (.agg #[.string ⟨#[]⟩, .string ⟨#[]⟩]) 32 Tryz.underlying102 Hi.out Hz0.out Hz1.out Hz2.out rfl (by decide) _ (l.take k) rfl Hrow3.out ⟨w2.heap.size, 0, none⟩ 1 (p, s) rfl (cells_new_at w2 w2.heap.size #[.string p, .string s] 122 rfl) (by rw [Hlk.out]; unfold maxLen; omega) (by rw [Hlk.out]; omega) (by simp; omega) ?_; intro vb w4 hrow4 hg4 hv4; go_frame)
  have Hlk4 := Lib.hid (show (l.take k ++ [(p, s)]).length = k + 1 by rw [List.length_append, Hlk.out]; rfl)
  have Hrow4 := Lib.hid hrow4
  have Hb4 := Lib.hid (Hb3.out.grown hg4 (by simp; omega) (fun j ej => (Hrow3.out.lt ej).1))
  clear hrow4 hg4 hv4 e0 e1
  cases b with
  | false =>
    have hs2 := HS.out (k) (by omega)
    have hr5 := rows_low (HA.out w4 (Hb1.out.trans (Hb4.out.mono Hb1.out.size))) hc (k)
    have hn5 := lowA_nil (k := k) (sz := 2) Hn.out
    have hl5 : (l.drop (k)).length = l.length - (k) := List.length_drop ..
    have Hr5 := Lib.hid hr5
    have Hn5 := Lib.hid hn5
    have Hl5 := Lib.hid hl5
    clear hr5 hn5 hl5
    go_wp2_with (at_builtin; refine wpList_append_from _ rfl _ _ 102 rfl flLay w1.heap.size 122 i0 (.agg #[.string ⟨#[]⟩, .string ⟨#[]⟩]) 32 Tryz.underlying102 Hi.out Hz0.out Hz1.out Hz2.out rfl (by decide) _ (l.take k ++ [(p, s)]) rfl Hrow4.out (lowA a (k) cap 2) (cap - (k)) (l.length - (k)) (l.drop (k)) rfl Hl5.out Hr5.out Hn5.out (by rw [Hl5.out, Hlk4.out]; unfold maxLen; omega) (by rw [Hl5.out, Hlk4.out]; omega) Hb4.out.size ?_; intro vc w5 hrow5 hg5 hv5; go_frame)
    all_goals
      have hb5 := Hb4.out.grown hg5 Hb4.out.size (fun j ej => (Hrow4.out.lt ej).1)
      go_ret
      refine ⟨_, rfl, ?_, Hb1.out.trans (hb5.mono Hb1.out.size)⟩
      rw [HR.out]
      exact hrow5.lower Hb1.out.size
  | true =>
    have hkl := Hlt.out rfl
    have hs2 := HS.out (k + 1) (by omega)
    have hr5 := rows_low (HA.out w4 (Hb1.out.trans (Hb4.out.mono Hb1.out.size))) hc (k + 1)
    have hn5 := lowA_nil (k := k + 1) (sz := 2) Hn.out
    have hl5 : (l.drop (k + 1)).length = l.length - (k + 1) := List.length_drop ..
    have Hr5 := Lib.hid hr5
    have Hn5 := Lib.hid hn5
    have Hl5 := Lib.hid hl5
    clear hr5 hn5 hl5
    go_wp2_with (at_builtin; refine wpList_append_from _ rfl _ _ 102 rfl flLay w1.heap.size 122 i0 (.agg #[.string ⟨#[]⟩, .string ⟨#[]⟩]) 32 Tryz.underlying102 Hi.out Hz0.out Hz1.out Hz2.out rfl (by decide) _ (l.take k ++ [(p, s)]) rfl Hrow4.out (lowA a (k + 1) cap 2) (cap - (k + 1)) (l.length - (k + 1)) (l.drop (k + 1)) rfl Hl5.out Hr5.out Hn5.out (by rw [Hl5.out, Hlk4.out]; unfold maxLen; omega) (by rw [Hl5.out, Hlk4.out]; omega) Hb4.out.size ?_; intro vc w5 hrow5 hg5 hv5; go_frame)
    all_goals
      have hb5 := Hb4.out.grown hg5 Hb4.out.size (fun j ej => (Hrow4.out.lt ej).1)
      go_ret
      refine ⟨_, rfl, ?_, Hb1.out.trans (hb5.mono Hb1.out.size)⟩
      rw [HR.out]
      exact hrow5.lower Hb1.out.size
end Go.Proofs.YtgglheelhbfgiaaGreatDoor

namespace Go.Proofs.YtgglheelhbfgiaaGreatDoor
open Go Go.RowKit Go.Lib
theorem less15 : ∀ x y : List UInt8, Op.bytesLess x y = bytesBefore x y
  | [], [] => rfl
  | _ :: _, [] => rfl
  | [], _ :: _ => rfl
  | a :: x, b :: y => by rw [Op.bytesLess, bytesBefore, less15 x y]
theorem befK_eq (p : ByteArray) (x : ByteArray × ByteArray) : befK p x = bytesBefore (pK x) p.data.toList := by
  unfold befK pK
  rw [less15, toList_data, toList_data]
theorem bef_lt {x y : List UInt8} : bytesBefore x y = true ↔ x < y := by rw [before_ltK, decide_eq_true_eq]
theorem bef_no {x y : List UInt8} (h : x < y) : bytesBefore y x = false := by
  rw [before_ltK, decide_eq_false_iff_not]
  exact fun h2 => List.lt_irrefl _ (List.lt_trans h h2)
theorem pK_ne {p : ByteArray} {x : ByteArray × ByteArray} (h : pK x < p.data.toList ∨ p.data.toList < pK x) : x.1 ≠ p := fun e => by
  unfold pK at h
  rw [e] at h
  rcases h with h | h <;> exact List.lt_irrefl _ h
theorem del_above {l : Fls} {p : ByteArray} (h : ∀ y ∈ l, p.data.toList < pK y) : delK l p = l := by
  unfold delK
  rw [List.filter_eq_self]
  intro y hy
  rw [Bool.not_eq_true', decide_eq_false_iff_not]
  exact pK_ne (.inr (h y hy))
theorem ins_above {l : Fls} {x : ByteArray × ByteArray} (h : ∀ y ∈ l, pK x < pK y) : insK x l = x :: l := by
  cases l with
  | nil => rfl
  | cons y r =>
    unfold insK
    rw [if_pos (bef_lt.2 (h y List.mem_cons_self))]
theorem atN_cons (x : ByteArray × ByteArray) (r : Fls) (p : ByteArray) : atN (x :: r) p = if befK p x then atN r p + 1 else 0 := rfl
theorem isN_cons (x : ByteArray × ByteArray) (r : Fls) (p : ByteArray) : isN (x :: r) p = if befK p x then isN r p else decide (x.1 = p) := rfl
theorem set15_put : ∀ {l : Fls} {p s : ByteArray}, RisK l → set15 l p s = putK l p s
  | [], p, s, _ => rfl
  | x :: r, p, s, h => by
    obtain ⟨h1, h2⟩ := List.pairwise_cons.1 h
    have ih := set15_put (p := p) (s := s) h2
    have hp : pK (p, s) = p.data.toList := rfl
    by_cases hb : befK p x = true
    · have hlt : pK x < p.data.toList := bef_lt.1 (by rw [← befK_eq]; exact hb)
      have e1 : set15 (x :: r) p s = x :: set15 r p s := by
        unfold set15
        rw [atN_cons, isN_cons, hb, if_pos rfl, if_pos rfl]
        cases isN r p <;> simp
      have e2 : putK (x :: r) p s = x :: putK r p s := by
        unfold putK delK
        rw [List.filter_cons, if_pos (by rw [Bool.not_eq_true', decide_eq_false_iff_not]; exact pK_ne (.inl hlt))]
        show insK (p, s) (x :: delK r p) = x :: insK (p, s) (delK r p)
        rw [insK, if_neg (by rw [hp, bef_no hlt]; exact Bool.noConfusion)]
      rw [e1, e2, ih]
    · have hb' : befK p x = false := by simpa using hb
      by_cases he : x.1 = p
      · have hx : pK x = p.data.toList := by unfold pK; rw [he]
        have habove : ∀ y ∈ r, p.data.toList < pK y := fun y hy => by
          rw [← hx]
          exact bef_lt.1 (h1 y hy)
        have e1 : set15 (x :: r) p s = (p, s) :: r := by
          unfold set15
          rw [atN_cons, isN_cons, hb', decide_eq_true he]
          rfl
        have e2 : putK (x :: r) p s = (p, s) :: r := by
          unfold putK delK
          rw [List.filter_cons, if_neg (by rw [decide_eq_true he]; exact Bool.noConfusion)]
          show insK (p, s) (delK r p) = _
          rw [del_above habove, ins_above (by rw [hp]; exact habove)]
        rw [e1, e2]
      · have hgt : p.data.toList < pK x := by
          rcases WideAt.bytes_total (pK x) p.data.toList (fun e => he (bytesK_inj.1 e)) with h3 | h3
          · rw [befK_eq, h3] at hb'
            cases hb'
          · exact bef_lt.1 h3
        have habove : ∀ y ∈ x :: r, p.data.toList < pK y := fun y hy => by
          rcases List.mem_cons.1 hy with rfl | hy
          · exact hgt
          · exact List.lt_trans hgt (bef_lt.1 (h1 y hy))
        have e1 : set15 (x :: r) p s = (p, s) :: x :: r := by
          unfold set15
          rw [atN_cons, isN_cons, hb', decide_eq_false he]
          rfl
        have e2 : putK (x :: r) p s = (p, s) :: x :: r := by
          unfold putK
          rw [del_above habove, ins_above (by rw [hp]; exact habove)]
        rw [e1, e2]
/-- What is found. -/
theorem is15 : ∀ {l : Fls} {p : ByteArray}, RisK l → (isN l p = false ∧ findK l p = none) ∨ ∃ s, isN l p = true ∧ findK l p = some s ∧ l[atN l p]? = some (p, s)
  | [], p, _ => .inl ⟨rfl, rfl⟩
  | x :: r, p, h => by
    obtain ⟨h1, h2⟩ := List.pairwise_cons.1 h
    have ih := is15 (p := p) h2
    by_cases hb : befK p x = true
    · have hlt : pK x < p.data.toList := bef_lt.1 (by rw [← befK_eq]; exact hb)
      have hne := pK_ne (x := x) (.inl hlt)
      have e3 : findK (x :: r) p = findK r p := by
        unfold findK
        rw [List.find?_cons, decide_eq_false hne]
      rw [atN_cons, isN_cons, hb, if_pos rfl, if_pos rfl, e3]
      rcases ih with ih | ⟨s, i1, i2, i3⟩
      · exact .inl ih
      · exact .inr ⟨s, i1, i2, i3⟩
    · have hb' : befK p x = false := by simpa using hb
      rw [atN_cons, isN_cons, hb']
      by_cases he : x.1 = p
      · refine .inr ⟨x.2, decide_eq_true he, ?_, ?_⟩
        · unfold findK
          rw [List.find?_cons, decide_eq_true he]
          rfl
        · show some x = _
          rw [← he]
      · refine .inl ⟨decide_eq_false he, ?_⟩
        have hgt : p.data.toList < pK x := by
          rcases WideAt.bytes_total (pK x) p.data.toList (fun e => he (bytesK_inj.1 e)) with h3 | h3
          · rw [befK_eq, h3] at hb'
            cases hb'
          · exact bef_lt.1 h3
        unfold findK
        rw [List.find?_eq_none.2 fun y hy => ?_]
        · rfl
        · rcases List.mem_cons.1 hy with rfl | hy
          · simpa using he
          · simpa using pK_ne (.inr (List.lt_trans hgt (bef_lt.1 (h1 y hy))))
end Go.Proofs.YtgglheelhbfgiaaGreatDoor

namespace Go.Proofs.YtgglheelhbfgiaaGreatDoor
open Go Go.RowKit Go.Lib
/-- A list of files that is read. -/
structure FlAt (w : World) (a : Option Addr) (cap : Nat) (l : Fls) : Prop where
  rows : RowsAt flLay w a l
  nil : a = none → cap = 0
  le : l.length ≤ cap
theorem FlAt.keeps {w w' : World} {a : Option Addr} {cap : Nat} {l : Fls} (h : FlAt w a cap l) (hb : Below w.heap.size w w') : FlAt w' a cap l := ⟨h.rows.keeps hb, h.nil, h.le⟩
/-- What a call answers that may answer what it was handed. -/
def FlIs (w : World) (a : Option Addr) (l : Fls) (e : Ending) (w' : World) : Prop :=
  ∃ a' cap', e = .returned (.slice a' l.length cap') ∧ FlAt w' a' cap' l ∧ Below w.heap.size w w' ∧ (a' = a ∨ ∀ ad, a' = some ad → w.heap.size ≤ ad.block ∧ ad.block < w'.heap.size)
theorem FlIs.made {w w' : World} {a : Option Addr} {l : Fls} {v : Value} (h : OwnRows flLay w' w.heap.size 122 v l) (hb : Below w.heap.size w w') : FlIs w a l (.returned v) w' := by
  obtain ⟨a', cap', rfl, h1, h2, h3, _⟩ := h.read_nil
  exact ⟨a', cap', rfl, ⟨h1, h3, h2⟩, hb, .inr fun ad e => by subst e; exact h.lt (k := ad.block) rfl⟩
def ActD.at_ (x : ActD) : Int := if x.cut then 0 else (x.n : Int)
def ActD.size_ (x : ActD) : Int := if x.cut then (x.n : Int) else -1
def actCells (x : ActD) : List Value := [.string x.name, .int .i64 x.at_, .string x.data, .int .i64 x.size_]
theorem doD_cut_none {l : Fls} {x : ActD} (hc : x.cut = true) (h : findK l x.name = none) : doD l x false = l := by
  unfold doD
  rw [if_pos hc, h]
theorem doD_cut_some {l : Fls} {x : ActD} {s : ByteArray} (hc : x.cut = true) (h : findK l x.name = some s) : doD l x false = putK l x.name (shortB s x.n) := by
  unfold doD
  rw [if_pos hc, h]
theorem doD_write {l : Fls} {x : ActD} (hc : x.cut = false) : doD l x false = putK l x.name (laidB (hasD l x.name) x.n x.data) := by
  unfold doD
  rw [if_neg (by rw [hc]; exact Bool.noConfusion)]
  rfl
set_option maxRecDepth 100000 in
set_option maxHeartbeats 6400000 in
theorem r15cut_any (a : Option Addr) (cap : Nat) (l : Fls) (x : ActD) (w : World) (hcut : x.cut = true) (hr : RisK l) (hl : l.length ≤ 1000000) (hs : ∀ y ∈ l, y.2.size ≤ 4202304) (ha : FlAt w a cap l) (hn : x.n ≤ 4194304) :
    Calls Tryz.prog 72 #[.slice a l.length cap, .agg #[.string x.name, .int .i64 x.at_, .string x.data, .int .i64 x.size_]] w (FlIs w a (doD l x false)) := by
  have hal := (Below.refl w.heap.size w).alloc (Nat.le_refl _) (.cells #[.string x.name, .int .i64 x.at_, .string x.data, .int .i64 x.size_] 117)
  have hV := VarAt.new w #[.string x.name, .int .i64 x.at_, .string x.data, .int .i64 x.size_] 117
  have HAt := Lib.hid (r15at_any a cap l x.name (w.alloc (.cells #[.string x.name, .int .i64 x.at_, .string x.data, .int .i64 x.size_] 117)) hl (ha.rows.keeps hal))
  have hsz : x.size_ = (x.n : Int) := by unfold ActD.size_; rw [if_pos hcut]
  have HA := Lib.hid ha
  have HS := Lib.hid hs
  have HV := Lib.hid hV
  have Hal := Lib.hid hal
  have Hcut := Lib.hid hcut
  have f0 := hV.2.2 0 _ rfl
  rw [hsz] at HV HAt Hal f0 ⊢
  clear ha hs hal hV hcut
  rcases is15 (p := x.name) hr with ⟨i1, i2⟩ | ⟨s, i1, i2, i3⟩
  · have HD := Lib.hid (doD_cut_none Hcut.out i2)
    rw [i1] at HAt
    clear i1 i2 hsz
    generalize doD l x false = R at *
    generalize x.at_ = xa at *
    go_enter Tryz.func72, Tryz.ntmps72
    go_wp2_with fail
    refine HAt.out.mono ?_
    rintro e w1 ⟨rfl, n1, hw1⟩
    have hb1 : Below w.heap.size w w1 := by rw [hw1]; exact belowDrew Hal.out n1
    have hV1 : VarAt w1 w.heap.size [.string x.name, .int .i64 xa, .string x.data, .int .i64 x.n] := by rw [hw1]; exact HV.out.keeps (belowDrew (Below.refl _ _) n1) HV.out.1
    have g3 := hV1.2.2 3 _ rfl
    have Hb1 := Lib.hid hb1
    clear hw1 hV1 hb1 f0 HAt HV Hal
    go_wp2_with fail
    go_ret
    rw [HD.out]
    exact ⟨a, cap, rfl, HA.out.keeps Hb1.out, Hb1.out, .inl rfl⟩
  · have HD := Lib.hid (doD_cut_some Hcut.out i2)
    rw [i1] at HAt
    have hkl := (List.getElem?_eq_some_iff.1 i3).1
    have hss := HS.out _ (List.mem_of_getElem? i3)
    have Hi3 := Lib.hid i3
    have Hput := Lib.hid (set15_put (p := x.name) (s := shortB s x.n) hr)
    have hsl : shortB s x.n = s.extract 0 (min s.size x.n) := rfl
    clear i1 i2 i3 hsz
    generalize doD l x false = R at *
    generalize x.at_ = xa at *
    generalize atN l x.name = k at *
    go_enter Tryz.func72, Tryz.ntmps72
    go_wp2_with fail
    refine HAt.out.mono ?_
    rintro e w1 ⟨rfl, n1, hw1⟩
    have hb1 : Below w.heap.size w w1 := by rw [hw1]; exact belowDrew Hal.out n1
    have hV1 : VarAt w1 w.heap.size [.string x.name, .int .i64 xa, .string x.data, .int .i64 x.n] := by rw [hw1]; exact HV.out.keeps (belowDrew (Below.refl _ _) n1) HV.out.1
    have g3 := hV1.2.2 3 _ rfl
    obtain ⟨b, off, hae, hbl, _, c1⟩ := fl_at (HA.out.rows.keeps hb1) Hi3.out
    subst hae
    have hki : (k : Int) < (l.length : Int) := by omega
    have Hb1 := Lib.hid hb1
    have HV1 := Lib.hid hV1
    clear hw1 hV1 hb1 f0 HAt HV Hal hbl
    have HSet := Lib.hid fun (d : ByteArray) W (hW : Below w1.heap.size w1 W) => r15set_any (some ⟨b, off, none⟩) cap l x.name d W hl HA.out.le HA.out.nil (HA.out.rows.keeps (Hb1.out.trans (hW.mono Hb1.out.size)))
    have HKS := Lib.hid fun W (hW : Below w1.heap.size w1 W) => (⟨hW, (HV1.out.keeps hW HV1.out.1).2.2 0 _ rfl, (HV1.out.keeps hW HV1.out.1).2.2 3 _ rfl⟩ : Below w1.heap.size w1 W ∧ W.cell? ⟨w.heap.size, 0, none⟩ = some (.string x.name) ∧ W.cell? ⟨w.heap.size, 3, none⟩ = some (.int .i64 x.n))
    have hm1 : (0 : Int) ≤ min (s.size : Int) (x.n : Int) := by omega
    have hm2 : min (s.size : Int) (x.n : Int) ≤ (s.size : Int) := by omega
    have hm3 : ¬ (min (s.size : Int) (x.n : Int) < 0) := by omega
    have hm4 : ¬ ((s.size : Int) < min (s.size : Int) (x.n : Int)) := by omega
    go_upto_region 8 with fail
    go_region_held3 (fun w' => Below w1.heap.size w1 w' ∧ w'.cell? ⟨w.heap.size, 0, none⟩ = some (.string x.name) ∧ w'.cell? ⟨w.heap.size, 3, none⟩ = some (.int .i64 x.n))
      (first | exact HKS.out _ (Below.refl _ _).drew | (go_split_ands; exact HKS.out _ (Below.trans (by assumption) (hb5.mono (Below.size (by assumption))))))
      (first | (go_at_call 105; go_split_ands; refine (HSet.out _ _ (by assumption)).mono ?_; rintro e w5 ⟨v, rfl, hown, hb5⟩))
    rename_i hH
    obtain ⟨hbz, -⟩ := hH
    rw [show (min (s.size : Int) (x.n : Int)).toNat = min s.size x.n by omega, ← hsl, Hput.out] at hown
    have Hown := Lib.hid (hown.lower (show w.heap.size ≤ _ from Hb1.out.size))
    have Hbz := Lib.hid (Hb1.out.trans (hbz.mono Hb1.out.size))
    clear hown hbz hb5 hsl hm1 hm2 hm3 hm4 g3 c1 HSet HKS
    go_wp2_with fail
    go_ret
    rw [HD.out]
    exact FlIs.made Hown.out Hbz.out
end Go.Proofs.YtgglheelhbfgiaaGreatDoor

namespace Go.Proofs.YtgglheelhbfgiaaGreatDoor
open Go Go.RowKit Go.Lib
theorem byteInfo15 : (Tryz.prog.info? 5).map (fun i => (i.zero, i.size, i.bytes)) = some (some (.int .u8 0), 1, 1) := by kernel_rfl
theorem made_zero (m : Nat) : (madeCells #[.int .u8 0] m).toList = flat byteLay (List.replicate m (0 : UInt8)) := by
  have h1 : ∀ k, flat byteLay (List.replicate k (0 : UInt8)) = List.replicate k (.int .u8 0) := fun k => by
    induction k with
    | zero => rfl
    | succ k ih =>
      show byteLay.cells 0 ++ flat byteLay (List.replicate k 0) = _
      rw [ih]
      rfl
  rw [h1]
  unfold madeCells
  apply List.ext_getElem
  · simp
  · intro i h1 h2
    simp [Nat.mod_one]
/-- A file's bytes, as long as the place. -/
theorem pad_is (s t : ByteArray) (n : Nat) (h : t.data.toList = padL s.data.toList n) (d : ByteArray) : laidB s n d = t.extract 0 n ++ d ++ t.extract (min t.size (n + d.size)) t.size := by
  have h1 := joined t d n
  unfold laidB laidL
  rw [← h, ← h1]
theorem pad_no {s : ByteArray} {n : Nat} (h : n ≤ s.size) : s.data.toList = padL s.data.toList n := by
  unfold padL
  rw [show n - s.data.toList.length = 0 from Nat.sub_eq_zero_of_le h]
  simp
theorem pad_yes {s : ByteArray} {n m : Nat} (h : n - s.size = m) : (s ++ ⟨(List.replicate m (0 : UInt8)).toArray⟩ : ByteArray).data.toList = padL s.data.toList n := by
  unfold padL
  rw [ByteArray.data_append, Array.toList_append, show n - s.data.toList.length = m from h]
set_option maxRecDepth 100000 in
set_option maxHeartbeats 6400000 in
theorem r15write_any (a : Option Addr) (cap : Nat) (l : Fls) (x : ActD) (w : World) (hcut : x.cut = false) (hr : RisK l) (hl : l.length ≤ 1000000) (hs : ∀ y ∈ l, y.2.size ≤ 4202304) (ha : FlAt w a cap l) (hn : x.n ≤ 4194304) (hd : x.data.size ≤ 8000) :
    Calls Tryz.prog 72 #[.slice a l.length cap, .agg #[.string x.name, .int .i64 x.at_, .string x.data, .int .i64 x.size_]] w (FlIs w a (doD l x false)) := by
  have hal := (Below.refl w.heap.size w).alloc (Nat.le_refl _) (.cells #[.string x.name, .int .i64 x.at_, .string x.data, .int .i64 x.size_] 117)
  have hV := VarAt.new w #[.string x.name, .int .i64 x.at_, .string x.data, .int .i64 x.size_] 117
  have HAt := Lib.hid (r15at_any a cap l x.name (w.alloc (.cells #[.string x.name, .int .i64 x.at_, .string x.data, .int .i64 x.size_] 117)) hl (ha.rows.keeps hal))
  have hsz : x.size_ = -1 := by unfold ActD.size_; rw [hcut]; rfl
  have haz : x.at_ = (x.n : Int) := by unfold ActD.at_; rw [hcut]; rfl
  have HA := Lib.hid ha
  have HV := Lib.hid hV
  have Hal := Lib.hid hal
  have HD := Lib.hid (doD_write (l := l) hcut)
  have f0 := hV.2.2 0 _ rfl
  have hfind := is15 (p := x.name) hr
  have Hput := Lib.hid fun d => set15_put (p := x.name) (s := d) hr
  have hhas : hasD l x.name = (findK l x.name).getD noB := rfl
  have hss : (hasD l x.name).size ≤ 4202304 := by
    rcases hfind with ⟨_, i2⟩ | ⟨s, _, i2, i3⟩
    · rw [hhas, i2]
      decide
    · rw [hhas, i2]
      exact hs _ (List.mem_of_getElem? i3)
  have Hhas := Lib.hid hhas
  have Hfind := Lib.hid hfind
  rw [hsz, haz] at HV HAt Hal f0 ⊢
  clear ha hs hal hV hcut hsz haz hhas hfind
  generalize hasD l x.name = s0 at *
  generalize doD l x false = R at *
  generalize atN l x.name = k at *
  generalize isN l x.name = bi at *
  go_enter Tryz.func72, Tryz.ntmps72
  go_wp2_with fail
  refine HAt.out.mono ?_
  rintro e w1 ⟨rfl, n1, hw1⟩
  have hb1 : Below w.heap.size w w1 := by rw [hw1]; exact belowDrew Hal.out n1
  have hV1 : VarAt w1 w.heap.size [.string x.name, .int .i64 x.n, .string x.data, .int .i64 (-1)] := by rw [hw1]; exact HV.out.keeps (belowDrew (Below.refl _ _) n1) HV.out.1
  have g1 := hV1.2.2 1 _ rfl
  have g3 := hV1.2.2 3 _ rfl
  have HV1 := Lib.hid hV1
  have Hb1 := Lib.hid hb1
  clear hw1 hV1 hb1 f0 HAt HV Hal
  go_upto_if 16 with fail
  go_cut [7] from 16 to 16 (fun v wx => v = .string s0 ∧ wx = w1)
  case first =>
    rcases Hfind.out with ⟨rfl, i2⟩ | ⟨s, rfl, i2, i3⟩
    · have h0 : s0 = ⟨#[]⟩ := by rw [Hhas.out, i2]; rfl
      clear i2
      go_wp2_with fail
      go_meet
      case rel => exact ⟨by rw [h0], rfl⟩
    · have h0 : s0 = s := by rw [Hhas.out, i2]; rfl
      obtain ⟨b, off, hae, hbl, _, c1⟩ := fl_at (HA.out.rows.keeps Hb1.out) i3
      have hkl := (List.getElem?_eq_some_iff.1 i3).1
      have hki : (k : Int) < (l.length : Int) := by omega
      have Hae := Lib.hid hae
      rw [← h0] at c1
      clear i2 i3 hbl h0
      subst hae
      go_wp2_with fail
      go_meet
      case rel => exact ⟨rfl, rfl⟩
  case rest =>
    obtain ⟨hcv, hwc⟩ := hcut
    subst hcv
    rw [hwc]
    clear hwc
    go_upto_if 44 with fail
    go_cut [7] from 44 to 44 (fun v wx => ∃ t : ByteArray, v = .string t ∧ Hid (t.data.toList = padL s0.data.toList x.n) ∧ x.n ≤ t.size ∧ t.size ≤ 4202304 ∧ Below w1.heap.size w1 wx)
    case first =>
      by_cases hlt : s0.size < x.n
      · have hlti : (s0.size : Int) < (x.n : Int) := by omega
        obtain ⟨m, hm⟩ : ∃ m : Nat, x.n - s0.size = m := ⟨_, rfl⟩
        have hmi : (x.n : Int) - (s0.size : Int) = (m : Int) := by omega
        have Hp := Lib.hid (pad_yes (s := s0) hm)
        have hmk : (Instr.makeSlice 156 (.int .i64 ((x.n : Int) - (s0.size : Int))) (.int .i64 ((x.n : Int) - (s0.size : Int)))).run Tryz.prog w1 = .ok (.slice (some ⟨w1.heap.size, 0, none⟩) m m) (w1.alloc (.cells (madeCells #[.int .u8 0] m) 5)) := by
          rw [hmi]
          exact run_make_row' 156 5 (.int .u8 0) 1 Tryz.underlying156 byteInfo15 rfl .i64 .i64 m (by omega) (by omega) w1
        have hcv := conv_bytes (rows_new byteLay w1 w1.heap.size (madeCells #[.int .u8 0] m) 5 (List.replicate m (0 : UInt8)) rfl (made_zero m)) m
        rw [List.length_replicate] at hcv
        have hzs : (⟨(List.replicate m (0 : UInt8)).toArray⟩ : ByteArray).size = m := by
          show (List.replicate m (0 : UInt8)).toArray.size = m
          simp
        have hts : (s0 ++ (⟨(List.replicate m (0 : UInt8)).toArray⟩ : ByteArray)).size = x.n := by
          rw [ByteArray.size_append, hzs]
          omega
        have hcat : ∀ W' : World, (Op.stringOp .add s0 ⟨(List.replicate m (0 : UInt8)).toArray⟩).run Tryz.prog W' = .ok (.string (s0 ++ ⟨(List.replicate m (0 : UInt8)).toArray⟩)) W' := fun W' => run_string_add W' _ _ (by omega) (by omega)
        have Hts := Lib.hid hts
        have hal2 := (Below.refl w1.heap.size w1).alloc (Nat.le_refl _) (.cells (madeCells #[.int .u8 0] m) 5)
        have Hal2 := Lib.hid hal2
        clear hm hzs hts hlt hal2 hmi
        generalize (⟨(List.replicate m (0 : UInt8)).toArray⟩ : ByteArray) = zs at *
        generalize s0 ++ zs = t at *
        go_wp2_with fail
        go_meet
        case rel => exact ⟨t, rfl, Hp, by rw [Hts.out]; exact Nat.le_refl _, by rw [Hts.out]; omega, Hal2.out⟩
      · have hlti : ¬ ((s0.size : Int) < (x.n : Int)) := by omega
        have hltd : decide ((s0.size : Int) < (x.n : Int)) = false := decide_eq_false hlti
        have hle : x.n ≤ s0.size := by omega
        have Hp := Lib.hid (pad_no (s := s0) hle)
        clear hlt
        go_wp2_with fail
        go_meet
        case rel => exact ⟨s0, rfl, Hp, hle, hss, Below.refl _ _⟩
    case rest =>
      obtain ⟨t, hcv, Hp, hnt, htz, hbc⟩ := hcut
      subst hcv
      have HV2 := Lib.hid (HV1.out.keeps hbc HV1.out.1)
      have g1 := HV2.out.2.2 1 _ rfl
      have g2 := HV2.out.2.2 2 _ rfl
      have Hb2 := Lib.hid (Hb1.out.trans (hbc.mono Hb1.out.size))
      have Hl := Lib.hid (pad_is s0 t x.n Hp.out x.data)
      obtain ⟨w2, hw2⟩ : ∃ w2 : World, w2 = wc := ⟨_, rfl⟩
      rw [← hw2] at HV2 g1 g2 Hb2 ⊢
      clear hw2 hbc HV1 Hb1 Hp
      go_upto_if 62 with fail
      go_cut [8] from 62 to 62 (fun v wx => v = .string (t.extract (min t.size (x.n + x.data.size)) t.size) ∧ wx = w2)
      case first =>
        by_cases hlt : x.n + x.data.size < t.size
        · have hlti : (x.n : Int) + (x.data.size : Int) < (t.size : Int) := by omega
          have Hmn := Lib.hid (show min t.size (x.n + x.data.size) = x.n + x.data.size by omega)
          go_wp2_with fail
          go_meet
          case rel => exact ⟨by rw [Hmn.out], rfl⟩
        · have hlti : ¬ ((x.n : Int) + (x.data.size : Int) < (t.size : Int)) := by omega
          have hltd : decide ((x.n : Int) + (x.data.size : Int) < (t.size : Int)) = false := decide_eq_false hlti
          have He := Lib.hid (show t.extract (min t.size (x.n + x.data.size)) t.size = ⟨#[]⟩ by
            rw [Nat.min_eq_left (by omega)]
            apply ByteArray.ext
            simp)
          clear hlt
          go_wp2_with fail
          go_meet
          case rel => exact ⟨by rw [He.out], rfl⟩
      case rest =>
        obtain ⟨hcv, hwc⟩ := hcut
        subst hcv
        rw [hwc]
        clear hwc
        obtain ⟨en, hen⟩ : ∃ en, t.extract (min t.size (x.n + x.data.size)) t.size = en := ⟨_, rfl⟩
        rw [hen] at Hl ⊢
        have hez : en.size ≤ t.size := by rw [← hen, ByteArray.size_extract]; omega
        clear hen
        have hx1 : (t.extract 0 x.n).size = x.n := by rw [ByteArray.size_extract]; omega
        have hx2 : (t.extract 0 x.n ++ x.data).size = x.n + x.data.size := by rw [ByteArray.size_append, hx1]
        have hcat1 : ∀ W' : World, (Op.stringOp .add (t.extract 0 x.n) x.data).run Tryz.prog W' = .ok (.string (t.extract 0 x.n ++ x.data)) W' := fun W' => run_string_add W' _ _ (by omega) (by omega)
        have hcat2 : ∀ W' : World, (Op.stringOp .add (t.extract 0 x.n ++ x.data) en).run Tryz.prog W' = .ok (.string (t.extract 0 x.n ++ x.data ++ en)) W' := fun W' => run_string_add W' _ _ (by omega) (by omega)
        clear hx1 hx2 hez
        have hnti : (x.n : Int) ≤ (t.size : Int) := by omega
        have HSet := Lib.hid fun (d : ByteArray) W (hW : Below w2.heap.size w2 W) => r15set_any a cap l x.name d W hl HA.out.le HA.out.nil (HA.out.rows.keeps (Hb2.out.trans (hW.mono Hb2.out.size)))
        have HKS := Lib.hid fun W (hW : Below w2.heap.size w2 W) => (⟨hW, (HV2.out.keeps hW HV2.out.1).2.2 0 _ rfl, (HV2.out.keeps hW HV2.out.1).2.2 1 _ rfl, (HV2.out.keeps hW HV2.out.1).2.2 2 _ rfl⟩ : Below w2.heap.size w2 W ∧ W.cell? ⟨w.heap.size, 0, none⟩ = some (.string x.name) ∧ W.cell? ⟨w.heap.size, 1, none⟩ = some (.int .i64 x.n) ∧ W.cell? ⟨w.heap.size, 2, none⟩ = some (.string x.data))
        clear g1 g2 g3
        go_upto_region 14 with fail
        go_region_held3 (fun w' => Below w2.heap.size w2 w' ∧ w'.cell? ⟨w.heap.size, 0, none⟩ = some (.string x.name) ∧ w'.cell? ⟨w.heap.size, 1, none⟩ = some (.int .i64 x.n) ∧ w'.cell? ⟨w.heap.size, 2, none⟩ = some (.string x.data))
          (first | exact HKS.out _ (Below.refl _ _).drew | (go_split_ands; exact HKS.out _ (Below.trans (by assumption) (hb5.mono (Below.size (by assumption))))))
          (first | (go_at_call 105; go_split_ands; refine (HSet.out _ _ (by assumption)).mono ?_; rintro e w5 ⟨v, rfl, hown, hb5⟩))
        rename_i hH
        obtain ⟨hbz, -⟩ := hH
        rw [← Hl.out, Hput.out] at hown
        have Hown := Lib.hid (hown.lower (show w.heap.size ≤ _ from Hb2.out.size))
        have Hbz := Lib.hid (Hb2.out.trans (hbz.mono Hb2.out.size))
        clear hown hbz hb5 HSet HKS
        go_wp2_with fail
        go_ret
        rw [HD.out]
        exact FlIs.made Hown.out Hbz.out
end Go.Proofs.YtgglheelhbfgiaaGreatDoor

namespace Go.Proofs.YtgglheelhbfgiaaGreatDoor
open Go Go.RowKit Go.Lib
theorem RowsAt.turnedK {α : Type} {L : Lay α} {W W' : World} {S : Nat → Prop} {a : Option Addr} {xs : List α} (h : RowsAt L W a xs) (ht : Turned S W.heap.size W W') (hS : ∀ ad, a = some ad → ad.block < W.heap.size → ¬ S ad.block) : RowsAt L W' a xs := by
  intro j x hj
  obtain ⟨b, off, e, hlt, hc⟩ := h j x hj
  exact ⟨b, off, e, Nat.lt_of_lt_of_le hlt ht.size, fun f v hf => by rw [cell_same (ht.block b hlt (hS _ e hlt))]; exact hc f v hf⟩
theorem act15_one (x : ActD) (v : Value) (hv : v ∈ actCells x) : v.oneCell' = true := by
  simp only [actCells, List.mem_cons, List.mem_nil_iff, or_false] at hv
  rcases hv with rfl | rfl | rfl | rfl <;> rfl
def act15Lay : Lay ActD := { sz := 4, cells := actCells, len := fun _ => rfl, one := act15_one }
/-- Where a list that is only read may lie. -/
def FarB (w : World) (rb : Nat) (Q : Nat → Prop) (v : Value) (a : Option Addr) : Prop := ∀ ad, a = some ad → ad.block ≠ rb ∧ v.ownBlock ≠ some ad.block ∧ Q ad.block ∧ ad.block < w.heap.size
/-- The reference's disk. -/
def RD (w : World) (rb : Nat) (Q : Nat → Prop) (v : Value) (d : Dk) : Prop :=
  ∃ na nc fa fc, VarAt w rb [.slice na d.now.length nc, .slice fa d.firm.length fc, v, .int .i64 d.limit, .int .i64 d.armed, .bool d.dead] ∧ FlAt w na nc d.now ∧ FlAt w fa fc d.firm ∧ OwnRows act15Lay w 0 117 v d.acts ∧ FarB w rb Q v na ∧ FarB w rb Q v fa ∧ v.ownBlock ≠ some rb ∧ Q rb ∧ ∀ k, v.ownBlock = some k → Q k
def RSD (rb : Nat) (v : Value) : Nat → Prop := fun k => k = rb ∨ v.ownBlock = some k
theorem FlAt.turned {w w' : World} {a : Option Addr} {cap : Nat} {l : Fls} {S : Nat → Prop} (h : FlAt w a cap l) (ht : Turned S w.heap.size w w') (hS : ∀ ad, a = some ad → ¬ S ad.block) : FlAt w' a cap l := ⟨h.rows.turnedK ht fun ad e _ => hS ad e, h.nil, h.le⟩
theorem FarB.later {w w' : World} {rb : Nat} {Q : Nat → Prop} {v : Value} {a : Option Addr} (h : FarB w rb Q v a) (hs : w.heap.size ≤ w'.heap.size) : FarB w' rb Q v a := fun ad e => ⟨(h ad e).1, (h ad e).2.1, (h ad e).2.2.1, Nat.lt_of_lt_of_le (h ad e).2.2.2 hs⟩
/-- What others do. -/
theorem RD.foreign {w w' : World} {rb : Nat} {Q : Nat → Prop} {v : Value} {d : Dk} {S : Nat → Prop} (h : RD w rb Q v d) (ht : Turned S w.heap.size w w') (hS : ∀ k, S k → ¬ Q k) : RD w' rb Q v d := by
  obtain ⟨na, nc, fa, fc, h1, h2, h3, h4, h5, h6, h7, h8, h9⟩ := h
  have hno : ∀ k, Q k → ¬ S k := fun k hk hs => hS k hs hk
  exact ⟨na, nc, fa, fc, h1.same (ht.block rb h1.1 (hno rb h8)) ht.size, h2.turned ht fun ad e => hno _ (h5 ad e).2.2.1, h3.turned ht fun ad e => hno _ (h6 ad e).2.2.1, h4.turnedOther ht fun k hk => hno _ (h9 k hk), h5.later ht.size, h6.later ht.size, h7, h8, h9⟩
theorem RD.lt {w : World} {rb : Nat} {Q : Nat → Prop} {v : Value} {d : Dk} (h : RD w rb Q v d) : rb < w.heap.size ∧ ∀ k, v.ownBlock = some k → k < w.heap.size := by
  obtain ⟨na, nc, fa, fc, h1, h2, h3, h4, h5, h6, h7, h8, h9⟩ := h
  exact ⟨h1.1, fun k hk => (h4.lt hk).2⟩
theorem RD.mono {w : World} {rb : Nat} {Q R : Nat → Prop} {v : Value} {d : Dk} (h : RD w rb Q v d) (hR : ∀ k, k < w.heap.size → Q k → R k) : RD w rb R v d := by
  obtain ⟨na, nc, fa, fc, h1, h2, h3, h4, h5, h6, h7, h8, h9⟩ := h
  exact ⟨na, nc, fa, fc, h1, h2, h3, h4, fun ad e => ⟨(h5 ad e).1, (h5 ad e).2.1, hR _ (h5 ad e).2.2.2 (h5 ad e).2.2.1, (h5 ad e).2.2.2⟩, fun ad e => ⟨(h6 ad e).1, (h6 ad e).2.1, hR _ (h6 ad e).2.2.2 (h6 ad e).2.2.1, (h6 ad e).2.2.2⟩, h7, hR _ h1.1 h8, fun k hk => hR _ (h4.lt hk).2 (h9 k hk)⟩
theorem RD.below {w w' : World} {rb : Nat} {Q : Nat → Prop} {v : Value} {d : Dk} (h : RD w rb Q v d) (hb : Below w.heap.size w w') : RD w' rb Q v d := h.foreign (S := fun _ => False) (Turned.of_below hb (Nat.le_refl _)) (fun _ h => h.elim)
set_option maxRecDepth 100000 in
theorem r15wrong_any (w : World) (rb : Nat) (Q : Nat → Prop) (v : Value) (d : Dk) (name : ByteArray) (n : Int) (h : RD w rb Q v d) : Calls Tryz.prog 69 #[.pointer (some ⟨rb, 0, none⟩), .string name, .int .i64 n] w fun e w' => e = .returned (.int .i64 (wrongD d name n)) ∧ w' = w := by
  obtain ⟨na, nc, fa, fc, hV, _⟩ := h
  have c5 : w.cell? ⟨rb, 5, none⟩ = some (.bool d.dead) := hV.2.2 5 _ rfl
  have c0 : w.cell? ⟨rb, 3, none⟩ = some (.int .i64 d.limit) := hV.2.2 3 _ rfl
  clear hV
  have Hr := Lib.hid (show wrongD d name n = if d.dead = true then 42 else if name.size = 0 ∨ 24 < name.size ∨ n < 0 ∨ (d.limit : Int) < n then 1 else 0 from rfl)
  generalize d.limit = lim at *
  generalize hd : d.dead = dead at *
  generalize hr : wrongD d name n = r at *
  clear hd hr
  cases dead with
  | true =>
    go_enter Tryz.func69, Tryz.ntmps69
    go_wp2_with fail
    go_ret
    exact ⟨by rw [Hr.out]; rfl, rfl⟩
  | false =>
    by_cases h1 : name.size = 0
    · have Hr2 := Lib.hid (Hr.out.trans ((if_neg (by decide)).trans (if_pos (.inl h1))))
      have e1 : (name.size : Int) < 1 := by omega
      clear h1
      go_enter Tryz.func69, Tryz.ntmps69
      go_wp2_with fail
      go_ret
      exact ⟨by rw [Hr2.out]; rfl, rfl⟩
    · have e1 : ¬ ((name.size : Int) < 1) := by omega
      have e2 : (1 : Int) ≤ (name.size : Int) := by omega
      by_cases h2 : 24 < name.size ∨ n < 0 ∨ (lim : Int) < n
      · have Hr2 := Lib.hid (Hr.out.trans ((if_neg (by decide)).trans (if_pos (.inr h2))))
        rcases h2 with h2 | h2 | h2
        · have q1 : decide ((name.size : Int) > 24) = true := decide_eq_true (by omega)
          have q2 : decide (24 < name.size) = true := decide_eq_true h2
          have q3 : decide ((24 : Int) < (name.size : Int)) = true := decide_eq_true (by omega)
          clear h1
          go_enter Tryz.func69, Tryz.ntmps69
          go_wp2_with fail
          go_ret
          exact ⟨by rw [Hr2.out]; rfl, rfl⟩
        · by_cases h3 : 24 < name.size
          all_goals
            clear h1
            go_enter Tryz.func69, Tryz.ntmps69
            go_wp2_with fail
            go_ret
            exact ⟨by rw [Hr2.out]; rfl, rfl⟩
        · have h4 : 0 ≤ n := by omega
          by_cases h3 : 24 < name.size
          · have h3i : (24 : Int) < (name.size : Int) := by omega
            clear h1
            go_enter Tryz.func69, Tryz.ntmps69
            go_wp2_with fail
            go_ret
            exact ⟨by rw [Hr2.out]; rfl, rfl⟩
          · have h3i : (name.size : Int) ≤ 24 := by omega
            have h3n : name.size ≤ 24 := by omega
            clear h1
            go_enter Tryz.func69, Tryz.ntmps69
            go_wp2_with fail
            go_ret
            exact ⟨by rw [Hr2.out]; rfl, rfl⟩
      · have Hr2 := Lib.hid (Hr.out.trans ((if_neg (by decide)).trans (if_neg (fun e => e.elim h1 h2))))
        have h3 : name.size ≤ 24 := by omega
        have h4 : 0 ≤ n := by omega
        have h5 : n ≤ (lim : Int) := by omega
        have h3i : (name.size : Int) ≤ 24 := by omega
        clear h1 h2
        go_enter Tryz.func69, Tryz.ntmps69
        go_wp2_with fail
        go_ret
        exact ⟨by rw [Hr2.out]; rfl, rfl⟩
/-- Cells 4 and 5 of a disk are written. -/
theorem RD.arms {w : World} {rb : Nat} {Q : Nat → Prop} {v : Value} {d : Dk} (h : RD w rb Q v d) (m : Int) (b : Bool) : RD ((w.setCell ⟨rb, 4, none⟩ (.int .i64 m)).setCell ⟨rb, 5, none⟩ (.bool b)) rb Q v { d with armed := m, dead := b } ∧ Turned (fun k => k = rb) w.heap.size w ((w.setCell ⟨rb, 4, none⟩ (.int .i64 m)).setCell ⟨rb, 5, none⟩ (.bool b)) := by
  obtain ⟨na, nc, fa, fc, h1, h2, h3, h4, h5, h6, h7, h8, h9⟩ := h
  have hT := ((Turned.refl (fun j => j = rb) w.heap.size w).set (b := rb) 4 (.int .i64 m) (fun _ => rfl)).set (b := rb) 5 (.bool b) (fun _ => rfl)
  have hV := (h1.set 4 (.int .i64 m) (by simp)).set 5 (.bool b) (by simp)
  exact ⟨⟨na, nc, fa, fc, by simpa using hV, h2.turned hT fun ad e => (h5 ad e).1, h3.turned hT fun ad e => (h6 ad e).1, h4.turnedOther hT fun k hk hh => h7 (by rw [hk, hh]), h5.later hT.size, h6.later hT.size, h7, h8, h9⟩, hT⟩
set_option maxRecDepth 100000 in
theorem r15act_any (w : World) (rb : Nat) (Q : Nat → Prop) (v : Value) (d : Dk) (h : RD w rb Q v d) : Calls Tryz.prog 100 #[.pointer (some ⟨rb, 0, none⟩)] w fun e w' => e = .returned (.bool (!(diesD d).dead)) ∧ RD w' rb Q v (diesD d) ∧ Turned (fun k => k = rb) w.heap.size w w' := by
  have HD := Lib.hid h
  obtain ⟨na, nc, fa, fc, hV, _⟩ := h
  have c5 : w.cell? ⟨rb, 5, none⟩ = some (.bool d.dead) := hV.2.2 5 _ rfl
  have c4 : w.cell? ⟨rb, 4, none⟩ = some (.int .i64 d.armed) := hV.2.2 4 _ rfl
  have f5 := hV.2.1 5
  have f4 := hV.2.1 4
  clear hV
  by_cases ha : 0 < d.armed
  · have Hr := Lib.hid (show diesD d = { d with armed := wrap64 (d.armed - 1), dead := wrap64 (d.armed - 1) == 0 } from if_pos ha)
    obtain ⟨m, hm⟩ : ∃ m, wrap64 (d.armed - 1) = m := ⟨_, rfl⟩
    have Hm := Lib.hid hm
    go_enter Tryz.func100, Tryz.ntmps100
    go_wp2_with fail
    go_ret
    rw [Hr.out, Hm.out]
    exact ⟨rfl, HD.out.arms m (m == 0)⟩
  · have Hr := Lib.hid (show diesD d = d from if_neg ha)
    go_enter Tryz.func100, Tryz.ntmps100
    go_wp2_with fail
    go_ret
    rw [Hr.out]
    exact ⟨rfl, HD.out, Turned.refl _ _ _⟩
end Go.Proofs.YtgglheelhbfgiaaGreatDoor

