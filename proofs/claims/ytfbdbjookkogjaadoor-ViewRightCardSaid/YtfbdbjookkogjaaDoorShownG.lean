/-
  What a filter shows of what operations make: plain laws. What a filter shows of what operations make: arbourlaw12.shown, and the law ProjectAll. The rule that has all shows all, and none nothing: the law. Operations that come in: one, or a slice of them. Operations that come in: with the reach of their numbers and the sizes of their names. Rules that came in.
-/
import Derived.Test.YtfbdbjookkogjaaDoorTreeG
import Derived.Test.YtfbdbjookkogjaaDoorViewRG
import Derived.Test.YtfbdbjookkogjaaDoorProjG
import Derived.Test.YtfbdbjookkogjaaDoorOpsW1
import Derived.Test.YtfbdbjookkogjaaDoorOpened2
import Derived.Test.YtfbdbjookkogjaaDoorViewW3
import Derived.Test.YtfbdbjookkogjaaDoorGlobPure
namespace Go.Proofs.YtfbdbjookkogjaaDoor
open Go Go.RowKit
/-! ### the nodes -/
def nameLe (m : Nat) (n : Nd) : Prop := n.name.size ≤ m
theorem doT_name {m : Nat} {l : List Nd} {x : Opr} (h : ∀ n ∈ l, nameLe m n) (hx : x.name.size ≤ m) : ∀ n ∈ doT l x, nameLe m n := by
  intro n hn
  unfold doT at hn
  split at hn
  · split at hn
    · rcases mem_grownT hn with rfl | hn
      · unfold madeT
        split <;> exact hx
      · exact h n hn
    · exact h n hn
  · rename_i hf
    have hm := h _ (findT_mem (c := x.nc) (q := x.nw) (l := l) (by simpa using hf)).1
    split at hn
    · exact h n hn
    · split at hn
      · rcases List.mem_or_eq_of_mem_set hn with hn | rfl
        · exact h n hn
        · unfold turnedT
          split
          · exact hx
          · split
            · exact hm
            · split <;> exact hm
      · exact h n hn
theorem foldFrom_name {m : Nat} : ∀ (ops : List Opr) (l : List Nd), (∀ n ∈ l, nameLe m n) → (∀ x ∈ ops, x.name.size ≤ m) → ∀ n ∈ ops.foldl doT l, nameLe m n
  | [], _, h, _ => h
  | x :: r, l, h, hx => foldFrom_name r (doT l x) (doT_name h (hx x List.mem_cons_self)) (fun y hy => hx y (List.mem_cons_of_mem _ hy))
def OpW (x : Opr) : Prop := OpR x ∧ x.name.size ≤ 140737488351232
theorem foldT_ok {ops : List Opr} (hl : ops.length ≤ 900) (hx : ∀ x ∈ ops, OpW x) : NdsOK (foldT ops) :=
  ⟨Nat.le_trans (foldT_len ops) (by omega), fun n hn => (foldT_R (fun x h => (hx x h).1) n hn).1, fun n hn => foldFrom_name ops [] (fun n hn => by simp at hn) (fun x h => (hx x h).2) n hn⟩
/-! ### the items -/
def GoodI (x : Itm) : Prop := x.ghost = false ∧ x.path.size ≤ 1000
theorem given_small {nodes : List Nd} {c w : Int} (h : uniqueN ((childF nodes c w).map (·.name)) = 0) : ∀ p ∈ given nodes c w, p.2.size ≤ 24 := fun _ hp => (given_len nodes c w h).2 _ (List.of_mem_zip hp).2
theorem addV_good (ahead : ByteArray) (full : Bool) (ha : ahead.size + 30 ≤ 1000) : ∀ (l : List (Nd × ByteArray)) (out : List Itm), (∀ p ∈ l, p.2.size ≤ 24) → (∀ x ∈ out, GoodI x) → ∀ x ∈ (addV ahead full l out).1, GoodI x
  | [], out, _, h => h
  | (n, g) :: r, out, hl, h => by
    unfold addV
    split
    · exact h
    · refine addV_good ahead full ha r _ (fun p hp => hl p (List.mem_cons_of_mem _ hp)) (fun x hx => ?_)
      rcases List.mem_append.1 hx with hx | hx
      · exact h x hx
      · rw [List.mem_singleton.1 hx]
        refine ⟨rfl, ?_⟩
        show (ahead ++ g).size ≤ 1000
        have := hl (n, g) List.mem_cons_self
        rw [ByteArray.size_append]
        dsimp only at this
        omega
theorem subV_good {down : Int → Int → ByteArray → List Itm → List Itm × Int} {m : Nat} (hd : ∀ c w a o, a.size ≤ m + 25 → (∀ x ∈ o, GoodI x) → ∀ x ∈ (down c w a o).1, GoodI x) (ahead : ByteArray) (ha : ahead.size ≤ m) : ∀ (l : List (Nd × ByteArray)) (out : List Itm), (∀ p ∈ l, p.2.size ≤ 24) → (∀ x ∈ out, GoodI x) → ∀ x ∈ (subV down ahead l out).1, GoodI x
  | [], out, _, h => h
  | (n, g) :: r, out, hl, h => by
    have hg := hl (n, g) List.mem_cons_self
    have hs : (ahead ++ g ++ slashB).size ≤ m + 25 := by
      rw [ByteArray.size_append, ByteArray.size_append]
      dsimp only at hg
      have : slashB.size = 1 := rfl
      omega
    have hr := fun p hp => hl p (List.mem_cons_of_mem (n, g) hp)
    unfold subV
    split
    · split
      · exact subV_good hd ahead ha r _ hr (hd _ _ _ _ hs h)
      · exact hd _ _ _ _ hs h
    · exact subV_good hd ahead ha r _ hr h
theorem downV_good (nodes : List Nd) : ∀ (f : Nat) (c w : Int) (ahead : ByteArray) (out : List Itm), ahead.size + 30 * (f + 1) ≤ 1000 → (∀ x ∈ out, GoodI x) → ∀ x ∈ (downV nodes f c w ahead out).1, GoodI x
  | 0, c, w, ahead, out, ha, h => by
    unfold downV
    split
    · exact h
    · rename_i hu
      exact addV_good _ _ (by omega) _ _ (given_small (Classical.not_not.1 hu)) h
  | f + 1, c, w, ahead, out, ha, h => by
    unfold downV
    split
    · exact h
    · rename_i hu
      have hg := given_small (Classical.not_not.1 hu)
      have h1 := addV_good ahead false (by omega) (given nodes c w) out hg h
      split
      · exact subV_good (m := ahead.size) (fun c w a o hz ho => downV_good nodes f c w a o (by omega) ho) ahead (Nat.le_refl _) _ _ hg h1
      · exact h1
theorem mem_sortFrom {x : Itm} : ∀ (l s : List Itm), x ∈ l.foldl (fun s x => insI x s) s ↔ x ∈ s ∨ x ∈ l
  | [], s => by simp
  | y :: l, s => by
    rw [List.foldl_cons, mem_sortFrom l, mem_insI, List.mem_cons]
    constructor
    · rintro ((h | h) | h)
      · exact .inr (.inl h)
      · exact .inl h
      · exact .inr (.inr h)
    · rintro (h | h | h)
      · exact .inl (.inr h)
      · exact .inl (.inl h)
      · exact .inr h
theorem mem_sortI {x : Itm} {l : List Itm} : x ∈ sortI l ↔ x ∈ l := by
  unfold sortI
  rw [mem_sortFrom]
  simp
theorem viewF_good (nodes : List Nd) : ∀ x ∈ (viewF nodes).1, GoodI x := by
  unfold viewF
  split
  · intro x hx
    exact downV_good nodes 16 0 0 ⟨#[]⟩ [] (by decide) (fun x hx => by simp at hx) x (mem_sortI.1 hx)
  · intro x hx
    simp at hx
/-! ### what is shown -/
def okOp (x : Opr) : Bool := (rightC x.nc x.nw == 0) && decide (x.man.size ≤ 1000)
def okOps (ops : List Opr) : Bool := decide (ops.length ≤ 60) && ops.all okOp
def shownF (ops : List Opr) (rules : List Rul) : List Itm × List Itm × Bool :=
  if okOps ops && fewP [] rules then ((viewF (foldT ops)).1, projG rules (viewF (foldT ops)).1 (viewF (foldT ops)).1.length, (viewF (foldT ops)).2 == 0) else ([], [], false)
theorem match_none (p : ByteArray) (d : Bool) : matchG [] p d = false := rfl
theorem proj_none (xs : List Itm) (k : Nat) : projG [] xs k = [] := by
  unfold projG
  rw [List.filterMap_eq_nil_iff]
  intro x _
  unfold showG inG overG inG
  simp [match_none]
def allR : List Rul := [⟨1, ⟨#[46]⟩⟩]
theorem match_all (p : ByteArray) (d : Bool) : matchG allR p d = true := by
  have h : bestG p allR allR.length = some ⟨1, ⟨#[46]⟩⟩ := by
    show bestG p allR 1 = _
    rw [bestG_step (k := 0) (x := ⟨1, ⟨#[46]⟩⟩) rfl, if_pos]
    have h1 : bestG p allR 0 = none := rfl
    rw [h1]
    simp [saysG, withinG, betterG]
  unfold matchG
  rw [h]
  simp [allR]
theorem proj_all {xs : List Itm} (h : ∀ x ∈ xs, GoodI x) : projG allR xs xs.length = xs := by
  unfold projG
  rw [List.take_length]
  have : ∀ x ∈ xs, showG allR xs x = some x := fun x hx => by
    unfold showG inG
    rw [if_pos (match_all _ _)]
    have := (h x hx).1
    obtain ⟨a, b, c, d, e, f⟩ := x
    dsimp only at this
    subst this
    rfl
  clear h
  have key : ∀ (l : List Itm), (∀ x ∈ l, showG allR xs x = some x) → l.filterMap (showG allR xs) = l := by
    intro l
    induction l with
    | nil => intro _; rfl
    | cons y r ih =>
      intro hl
      rw [List.filterMap_cons, hl y List.mem_cons_self, ih (fun x hx => hl x (List.mem_cons_of_mem _ hx))]
  exact key xs this
end Go.Proofs.YtfbdbjookkogjaaDoor

namespace Go.Proofs.YtfbdbjookkogjaaDoor
open Go Go.RowKit Go.Lib
set_option maxRecDepth 100000 in
set_option maxHeartbeats 6400000 in
theorem shown_any (a a' : Option Addr) (cap cap' : Nat) (ops : List Opr) (rules : List Rul) (w : World) (hl : ops.length ≤ 140737488351232) (ha : RowsAt oprLay w a ops) (hx : ∀ x ∈ ops, OpW x) (ha' : RowsAt rulLay w a' rules) (hT : Tab w) :
    Calls Tryd.prog 26 #[.slice a ops.length cap, .slice a' rules.length cap'] w fun e w' => ∃ a1 c1 a2 c2, e = .returned (.tuple #[.slice a1 (shownF ops rules).1.length c1, .slice a2 (shownF ops rules).2.1.length c2, .bool (shownF ops rules).2.2]) ∧ RowsAt itmLay w' a1 (shownF ops rules).1 ∧ RowsAt itmLay w' a2 (shownF ops rules).2.1 ∧ Below w.heap.size w w' := by
  have HD := Lib.hid (show shownF ops rules = if okOps ops && fewP [] rules then ((viewF (foldT ops)).1, projG rules (viewF (foldT ops)).1 (viewF (foldT ops)).1.length, (viewF (foldT ops)).2 == 0) else ([], [], false) from rfl)
  obtain ⟨R, hR⟩ : ∃ R, shownF ops rules = R := ⟨_, rfl⟩
  rw [hR] at HD ⊢
  clear hR
  have HNo := Lib.hid (show (okOps ops && fewP [] rules) = false → R = ([], [], false) from fun h => by rw [HD.out, h]; rfl)
  have HF := Lib.hid (few12_any none a' 0 cap' [] rules w (RowsAt.nil _ _ _) ha')
  have HA := Lib.hid fun W (h : Below w.heap.size w W) => ha.keeps h
  have HA' := Lib.hid fun W (h : Below w.heap.size w W) => ha'.keeps h
  have HT := Lib.hid fun W (h : Below w.heap.size w W) => tab_keeps hT h
  have HX := Lib.hid hx
  clear ha ha' hT hx
  by_cases h60 : 60 < ops.length
  · have hq : decide ((ops.length : Int) > 60) = true := decide_eq_true (by omega)
    have hq2 : decide (60 < ops.length) = true := decide_eq_true h60
    have HR := Lib.hid (HNo.out (by unfold okOps; rw [decide_eq_false (by omega)]; rfl))
    go_enter Tryd.func26, Tryd.ntmps26
    go_wp2_with fail
    go_ret3
    rw [HR.out]
    exact ⟨none, 0, none, 0, rfl, RowsAt.nil _ _ _, RowsAt.nil _ _ _, Below.refl _ _⟩
  · have hq : decide ((ops.length : Int) > 60) = false := decide_eq_false (by omega)
    have hq2 : decide (60 < ops.length) = false := decide_eq_false h60
    have hq3 : decide ((60 : Int) < (ops.length : Int)) = false := decide_eq_false (by omega)
    obtain ⟨fp, hfp⟩ : ∃ fp, fewP [] rules = fp := ⟨_, rfl⟩
    rw [hfp] at HF
    have Hfp := Lib.hid hfp
    clear hfp
    cases fp with
    | false =>
      have HR := Lib.hid (HNo.out (by rw [Hfp.out, Bool.and_false]))
      go_enter Tryd.func26, Tryd.ntmps26
      go_wp2_with fail
      refine HF.out.mono ?_
      rintro e w1 ⟨rfl, rfl⟩
      go_wp2_with fail
      go_ret3
      rw [HR.out]
      exact ⟨none, 0, none, 0, rfl, RowsAt.nil _ _ _, RowsAt.nil _ _ _, Below.refl _ _⟩
    | true =>
      have hrl : rules.length ≤ 30 ∧ ∀ x ∈ rules, x.text.size ≤ 500 := ⟨(fewP_parts Hfp.out).2.1, (fewP_parts Hfp.out).2.2.2⟩
      have Hrl := Lib.hid hrl
      clear hrl
      go_enter Tryd.func26, Tryd.ntmps26
      go_wp2_with fail
      refine HF.out.mono ?_
      rintro e w1 ⟨rfl, rfl⟩
      clear HF
      go_wp2_with fail
      go_loopw [7] (fun i wr => ∃ k : Nat, k ≤ ops.length ∧ i = .int .i64 k ∧ Hid (∀ j y, j < k → ops[j]? = some y → okOp y = true) ∧ Below w.heap.size w wr) (fun i _ => ops.length - (RowKit.intOf i).toNat)
      case atStart => exact ⟨0, Nat.zero_le _, rfl, Lib.hid (fun j _ hj => absurd hj (Nat.not_lt_zero _)), Below.refl _ _⟩
      case round =>
        obtain ⟨k, hk, rfl, Hk, hb⟩ := hrel
        by_cases hlt : k < ops.length
        · obtain ⟨x, hx⟩ := at_some hlt
          obtain ⟨b, off, hae, hbl, c0, c1, c2, c3, c4, c5, c6, c7, c8, c9, c10⟩ := opr_at (HA.out _ hb) hx
          subst hae
          have HC := Lib.hid (cright_any x.nc x.nw wr)
          have Hx := Lib.hid hx
          have hlti : (k : Int) < (ops.length : Int) := by omega
          have hlt0 : (0 : Int) ≤ (k : Int) := by omega
          have Hbad := Lib.hid (show okOp x = false → R = ([], [], false) from fun h => HNo.out (by
            have : ops.all okOp = false := by
              rw [List.all_eq_false]
              exact ⟨x, List.mem_of_getElem? Hx.out, by rw [h]; simp⟩
            unfold okOps
            rw [this, Bool.and_false]
            rfl))
          clear hx
          by_cases hr : rightC x.nc x.nw = 0
          · rw [hr] at HC
            have Hr := Lib.hid hr
            clear hr
            by_cases hm : 1000 < x.man.size
            · have HR := Lib.hid (Hbad.out (by unfold okOp; rw [decide_eq_false (by omega), Bool.and_false]))
              go_wp2_with fail
              refine HC.out.mono ?_
              rintro e w2 ⟨rfl, hb2⟩
              have d10 := (hb2.cell (p := ⟨b, off + k * 11 + 10, none⟩) hbl).trans c10
              have hbw := hb.trans (hb2.mono hb.size)
              go_wp2_with fail
              go_ret3
              rw [HR.out]
              exact ⟨none, 0, none, 0, rfl, RowsAt.nil _ _ _, RowsAt.nil _ _ _, hbw⟩
            · have Hok := Lib.hid (show okOp x = true by unfold okOp; rw [Hr.out, decide_eq_true (by omega)]; rfl)
              go_wp2_with fail
              refine HC.out.mono ?_
              rintro e w2 ⟨rfl, hb2⟩
              have d10 := (hb2.cell (p := ⟨b, off + k * 11 + 10, none⟩) hbl).trans c10
              have hbw := hb.trans (hb2.mono hb.size)
              go_wp2_with fail
              go_roundw
              case rel =>
                refine ⟨k + 1, by omega, by go_num, Lib.hid (fun j z hj hz => ?_), hbw⟩
                by_cases e : j = k
                · subst e
                  rw [Hx.out] at hz
                  cases hz
                  exact Hok.out
                · exact Hk.out j z (by omega) hz
              case measure => simp [RowKit.intOf]; omega
          · have hq4 : (rightC x.nc x.nw != 0) = true := bne_iff_ne.2 hr
            have HR := Lib.hid (Hbad.out (by unfold okOp; rw [beq_eq_false_iff_ne.2 hr, Bool.false_and]))
            generalize rightC x.nc x.nw = rc at *
            clear hr
            go_wp2_with fail
            refine HC.out.mono ?_
            rintro e w2 ⟨rfl, hb2⟩
            have hbw := hb.trans (hb2.mono hb.size)
            go_wp2_with fail
            go_ret3
            rw [HR.out]
            exact ⟨none, 0, none, 0, rfl, RowsAt.nil _ _ _, RowsAt.nil _ _ _, hbw⟩
        · obtain rfl : k = ops.length := by omega
          have hall : okOps ops = true := by
            unfold okOps
            rw [decide_eq_true (by omega), Bool.true_and, List.all_eq_true]
            intro y hy
            obtain ⟨j, hj, e⟩ := List.mem_iff_getElem.1 hy
            exact Hk.out j y hj (by rw [List.getElem?_eq_getElem hj, e])
          have HR := Lib.hid (show R = ((viewF (foldT ops)).1, projG rules (viewF (foldT ops)).1 (viewF (foldT ops)).1.length, (viewF (foldT ops)).2 == 0) by rw [HD.out, hall, Hfp.out]; rfl)
          have HFo := Lib.hid (fold_any a cap ops wr (by omega) (HA.out wr hb) (fun x h => (HX.out x h).1))
          have hok := foldT_ok (ops := ops) (by omega) HX.out
          have hvl := view_len (foldT ops)
          have hol := hok.len
          have Hgood := Lib.hid (viewF_good (foldT ops))
          obtain ⟨nodes, hn⟩ : ∃ nodes, foldT ops = nodes := ⟨_, rfl⟩
          rw [hn] at HR HFo hok hvl hol Hgood
          have Hok := Lib.hid hok
          clear hall hn hok HD HNo Hk
          go_wp2_with fail
          refine HFo.out.mono ?_
          rintro e w2 ⟨av, cv, rfl, hrn, _, hb2⟩
          have hbw2 := hb.trans (hb2.mono hb.size)
          have HV := Lib.hid (view_any av cv nodes w2 (HT.out w2 hbw2) hrn Hok.out)
          clear hrn HFo
          go_wp2_with fail
          refine HV.out.mono ?_
          rintro e w3 ⟨a3, c3, rfl, hr3, hb3, _⟩
          have hbw3 := hbw2.trans (hb3.mono hbw2.size)
          obtain ⟨vf, hvf⟩ : ∃ vf, viewF nodes = vf := ⟨_, rfl⟩
          rw [hvf] at hr3 hvl Hgood HR ⊢
          obtain ⟨xs, er⟩ := vf
          dsimp only at hr3 hvl Hgood HR
          have HP := Lib.hid (project_any a3 a' c3 cap' xs rules w3 (fun x h => by have := (Hgood.out x h).2; omega) (by omega) (fun x h => by have := Hrl.out.2 x h; omega) (by have := Hrl.out.1; omega) hr3 (HA'.out w3 hbw3))
          clear HV hvf
          go_wp2_with fail
          refine HP.out.mono ?_
          rintro e w4 ⟨v4, rfl, ho4, hb4⟩
          obtain ⟨a4, c4, rfl, hr4, _⟩ := ho4.read
          have hr34 := hr3.keeps hb4
          clear ho4 hr3
          go_wp2_with fail
          go_ret3
          rw [HR.out]
          exact ⟨a3, c3, a4, c4, by first | rfl | simp, hr34, hr4, hbw3.trans (hb4.mono hbw3.size)⟩
end Go.Proofs.YtfbdbjookkogjaaDoor

namespace Go.Proofs.YtfbdbjookkogjaaDoor
open Go Go.RowKit Go.Lib
theorem few_all : fewP [] allR = true := by decide
theorem few_none : fewP [] [] = true := by decide
theorem shown_all (ops : List Opr) : ∃ (xs : List Itm) (ok : Bool), shownF ops allR = (xs, xs, ok) ∧ (∃ ys, shownF ops [] = (ys, [], ok)) ∧ xs.length ≤ 140737488351232 := by
  unfold shownF
  rw [few_all, few_none, Bool.and_true]
  cases h : okOps ops with
  | false => exact ⟨[], false, rfl, ⟨[], rfl⟩, by simp⟩
  | true =>
    refine ⟨(viewF (foldT ops)).1, (viewF (foldT ops)).2 == 0, ?_, ⟨(viewF (foldT ops)).1, ?_⟩, ?_⟩
    · rw [if_pos rfl, proj_all (viewF_good _)]
    · rw [if_pos rfl, proj_none]
    · have h1 := view_len (foldT ops)
      have h2 := foldT_len ops
      unfold okOps at h
      rw [Bool.and_eq_true] at h
      have := of_decide_eq_true h.1
      omega
set_option maxRecDepth 100000 in
set_option maxHeartbeats 6400000 in
theorem law_projectAll (a : Option Addr) (cap : Nat) (ops : List Opr) (w : World) (hl : ops.length ≤ 140737488351232) (ha : RowsAt oprLay w a ops) (hx : ∀ x ∈ ops, OpW x) (hT : Tab w) :
    Calls Tryd.prog 8 #[.slice a ops.length cap] w fun e w' => e = .returned (.bool true) ∧ Below w.heap.size w w' := by
  have hb1 := (Below.refl w.heap.size w).alloc (Nat.le_refl _) (.cells #[.int .i64 1, .string ⟨#[46]⟩] 59)
  have h1 := shown_any a (some ⟨w.heap.size, 0, none⟩) cap 1 ops allR _ hl (ha.keeps hb1) hx (rows_new rulLay w w.heap.size #[.int .i64 1, .string ⟨#[46]⟩] 59 allR rfl rfl) (tab_keeps hT hb1)
  have h2 := fun W (h : Below w.heap.size w W) => shown_any a none cap 0 ops [] W hl (ha.keeps h) hx (RowsAt.nil _ _ _) (tab_keeps hT h)
  obtain ⟨xs, ok, hs1, ⟨ys, hs2⟩, hxl⟩ := shown_all ops
  rw [hs1] at h1
  rw [hs2] at h2
  replace h1 : Calls Tryd.prog 26 #[.slice a ops.length cap, .slice (some ⟨w.heap.size, 0, none⟩) 1 1] (w.alloc (.cells #[.int .i64 1, .string ⟨#[46]⟩] 59)) fun e w' => ∃ a1 c1 a2 c2, e = .returned (.tuple #[.slice a1 xs.length c1, .slice a2 xs.length c2, .bool ok]) ∧ RowsAt itmLay w' a1 xs ∧ RowsAt itmLay w' a2 xs ∧ Below (w.alloc (.cells #[.int .i64 1, .string ⟨#[46]⟩] 59)).heap.size (w.alloc (.cells #[.int .i64 1, .string ⟨#[46]⟩] 59)) w' := h1
  replace h2 : ∀ W, Below w.heap.size w W → Calls Tryd.prog 26 #[.slice a ops.length cap, .slice none 0 0] W fun e w' => ∃ a1 c1 a2 c2, e = .returned (.tuple #[.slice a1 ys.length c1, .slice a2 0 c2, .bool ok]) ∧ RowsAt itmLay w' a1 ys ∧ RowsAt itmLay w' a2 [] ∧ Below W.heap.size W w' := h2
  have H1 := Lib.hid h1
  have H2 := Lib.hid h2
  have Hb1 := Lib.hid hb1
  clear h1 h2 hb1 ha hx hT hs1 hs2
  go_enter Tryd.func8, Tryd.ntmps8
  go_wp2_with fail
  refine H1.out.mono ?_
  rintro e w2 ⟨a1, c1, a2, c2, rfl, hr1, hr2, hb2⟩
  have hbw := Hb1.out.trans (hb2.mono Hb1.out.size)
  clear hb2
  go_wp2_with fail
  refine (H2.out w2 hbw).mono ?_
  rintro e w3 ⟨a3, c3, a4, c4, rfl, _, _, hb3⟩
  have hbw3 := hbw.trans (hb3.mono hbw.size)
  have HAW := Lib.hid fun W => awake12_any W
  cases ok with
  | false =>
    go_wp2_with fail
    refine (HAW.out _).mono ?_
    rintro e w5 ⟨rfl, hb5⟩
    go_wp2_with fail
    go_ret
    exact ⟨rfl, hbw3.trans (hb5.mono hbw3.size)⟩
  | true =>
    have HS0 := items_any a1 a2 c1 c2 xs xs w3 hxl (hr1.keeps hb3) (hr2.keeps hb3)
    rw [show decide (xs = xs) = true from decide_eq_true rfl] at HS0
    have HS := Lib.hid HS0
    clear HS0 hr1 hr2 hb3
    go_wp2_with fail
    refine HS.out.mono ?_
    rintro e w4 ⟨rfl, n, rfl⟩
    have hb4 := belowDrew hbw3 n
    go_wp2_with fail
    refine (HAW.out _).mono ?_
    rintro e w5 ⟨rfl, hb5⟩
    go_wp2_with fail
    go_ret
    exact ⟨rfl, hb4.trans (hb5.mono hb4.size)⟩
end Go.Proofs.YtfbdbjookkogjaaDoor

namespace Go.Proofs.YtfbdbjookkogjaaDoor
open Go Go.RowKit Go.ChangeShapes Go.WideShapes Go.ChangeAt Go.Deep
section
variable {H : Type} {enc : TypeId × Value → H} {P : Program}
/-- A struct that came in by value: what each leaf reads as is the caller's to say (dec). -/
theorem arg_agg {α : Type} {L : Lay α} {W : World} {base : Nat} {t : TypeId} {fs : Array Field} {lv : List (Nat × TypeId)} {v : Value} {d : DataW H} {p : List MemPlace}
    (ht : P.underlying t = some (.struct fs)) (hlv : leaves P 4 t = lv) (hC : P.cellsOf t = L.sz)
    (dec : ∀ g : Nat → Value, (∀ q ∈ lv, ∃ n x, DataW.trod enc P W 0 (fun _ => true) true n q.2 [g q.1] = some x) → ∃ x, ∀ f v, (L.cells x)[f]? = some v → g f = v)
    (hv : Value.okWide P W .any base t v) (h : DataW.Trod enc P W 0 (fun _ => true) true t v d p) (hin : ∀ q ∈ lv, q.1 < L.sz) : ∃ x, v = .agg (L.cells x).toArray := by
  obtain ⟨cs, rfl, hcs⟩ := okWide_struct ht hv
  obtain ⟨fuel, hf⟩ := h
  have hlen : cs.toList.length = P.cellsOf t := by simpa using hcs
  obtain ⟨x, hx⟩ := dec (fun k => cs.toList.getD k default) (by
    intro q hq
    obtain ⟨n', y, hy⟩ := trod_leaf 4 t fuel cs.toList _ hlen hf q (by rw [hlv]; exact hq)
    have hq1 := hin q hq
    refine ⟨n', y, ?_⟩
    have e1 : (cs.toList.drop q.1).take 1 = [cs.toList.getD q.1 default] := by
      rw [List.drop_eq_getElem_cons (by omega)]
      rw [List.getD_eq_getElem?_getD, List.getElem?_eq_getElem (show q.1 < cs.toList.length by omega)]
      rfl
    rw [← e1]
    exact hy)
  refine ⟨x, ?_⟩
  congr 1
  apply Array.toList_inj.1
  apply List.ext_getElem?
  intro f
  by_cases hlt : f < L.sz
  · have h1 : (L.cells x)[f]? = some ((L.cells x)[f]'(by rw [L.len]; exact hlt)) := List.getElem?_eq_getElem _
    have h2 := hx f _ h1
    rw [List.getD_eq_getElem?_getD, List.getElem?_eq_getElem (by omega), Option.getD_some] at h2
    rw [List.getElem?_eq_getElem (by omega), h2]
    exact h1.symm
  · rw [List.getElem?_eq_none (by omega)]
    exact (List.getElem?_eq_none (by simp [L.len]; omega)).symm
theorem dec_op {W : World} {i b s : TypeId} (hus : P.underlying s = some .string) (hui : P.underlying i = some (.int .i64)) (hub : P.underlying b = some .bool)
    (g : Nat → Value) (hg : ∀ q ∈ [(0, i), (1, i), (2, i), (3, i), (4, i), (5, i), (6, b), (7, i), (8, i), (9, s), (10, s)], ∃ n x, DataW.trod enc P W 0 (fun _ => true) true n q.2 [g q.1] = some x) :
    ∃ x, ∀ f v, (oprLay.cells x)[f]? = some v → g f = v := by
  obtain ⟨n0, x0, h0⟩ := hg (0, i) (by simp)
  obtain ⟨n1, x1, h1⟩ := hg (1, i) (by simp)
  obtain ⟨n2, x2, h2⟩ := hg (2, i) (by simp)
  obtain ⟨n3, x3, h3⟩ := hg (3, i) (by simp)
  obtain ⟨n4, x4, h4⟩ := hg (4, i) (by simp)
  obtain ⟨n5, x5, h5⟩ := hg (5, i) (by simp)
  obtain ⟨n6, x6, h6⟩ := hg (6, b) (by simp)
  obtain ⟨n7, x7, h7⟩ := hg (7, i) (by simp)
  obtain ⟨n8, x8, h8⟩ := hg (8, i) (by simp)
  obtain ⟨n9, x9, h9⟩ := hg (9, s) (by simp)
  obtain ⟨n10, x10, h10⟩ := hg (10, s) (by simp)
  obtain ⟨v0, e0, _⟩ := DataW.trod_int hui h0
  obtain ⟨v1, e1, _⟩ := DataW.trod_int hui h1
  obtain ⟨v2, e2, _⟩ := DataW.trod_int hui h2
  obtain ⟨v3, e3, _⟩ := DataW.trod_int hui h3
  obtain ⟨v4, e4, _⟩ := DataW.trod_int hui h4
  obtain ⟨v5, e5, _⟩ := DataW.trod_int hui h5
  obtain ⟨v6, e6, _⟩ := DataW.trod_bool hub h6
  obtain ⟨v7, e7, _⟩ := DataW.trod_int hui h7
  obtain ⟨v8, e8, _⟩ := DataW.trod_int hui h8
  obtain ⟨v9, e9, _⟩ := DataW.trod_string hus h9
  obtain ⟨v10, e10, _⟩ := DataW.trod_string hus h10
  refine ⟨⟨v0, v1, v2, v3, v4, v5, v6, v7, v8, v9, v10⟩, fun f v hv => ?_⟩
  simp only [List.cons.injEq, and_true] at e0 e1 e2 e3 e4 e5 e6 e7 e8 e9 e10
  match f, hv with
  | 0, hv => rw [e0]; exact Option.some.inj hv
  | 1, hv => rw [e1]; exact Option.some.inj hv
  | 2, hv => rw [e2]; exact Option.some.inj hv
  | 3, hv => rw [e3]; exact Option.some.inj hv
  | 4, hv => rw [e4]; exact Option.some.inj hv
  | 5, hv => rw [e5]; exact Option.some.inj hv
  | 6, hv => rw [e6]; exact Option.some.inj hv
  | 7, hv => rw [e7]; exact Option.some.inj hv
  | 8, hv => rw [e8]; exact Option.some.inj hv
  | 9, hv => rw [e9]; exact Option.some.inj hv
  | 10, hv => rw [e10]; exact Option.some.inj hv
theorem arg_op {W : World} {base : Nat} {t i b s : TypeId} {fs : Array Field} {v : Value} {d : DataW H} {p : List MemPlace}
    (ht : P.underlying t = some (.struct fs)) (hlv : leaves P 4 t = [(0, i), (1, i), (2, i), (3, i), (4, i), (5, i), (6, b), (7, i), (8, i), (9, s), (10, s)]) (hC : P.cellsOf t = 11)
    (hus : P.underlying s = some .string) (hui : P.underlying i = some (.int .i64)) (hub : P.underlying b = some .bool)
    (hv : Value.okWide P W .any base t v) (h : DataW.Trod enc P W 0 (fun _ => true) true t v d p) : ∃ x : Opr, v = .agg (Opr.cells x).toArray :=
  arg_agg (L := oprLay) ht hlv hC (fun g hg => dec_op hus hui hub g hg) hv h (by simp [oprLay])
theorem arg_ops {W : World} {base : Nat} {ts : List TypeId} {ds : List (DataW H)} {j : Nat} {t e i b s : TypeId} {v : Value} {d : DataW H} {p : List MemPlace}
    (ht : P.underlying t = some (.slice e)) (hlv : leaves P 4 e = [(0, i), (1, i), (2, i), (3, i), (4, i), (5, i), (6, b), (7, i), (8, i), (9, s), (10, s)]) (hC : P.cellsOf e = 11)
    (hus : P.underlying s = some .string) (hui : P.underlying i = some (.int .i64)) (hub : P.underlying b = some .bool)
    (hv : Value.okWide P W .any base t v) (h : DataW.Trod enc P W 0 (fun _ => true) true t v d p) (hlt : ∀ x ∈ p, x.block < W.heap.size) (hsz : (DataW.weightsEach P ts ds).all (· ≤ reachBytes) = true) (h1 : ts[j]? = some t) (h2 : ds[j]? = some d) :
    ∃ (a : Option Addr) (cap : Nat) (xs : List Opr), v = .slice a xs.length cap ∧ RowsAt oprLay W a xs ∧ xs.length ≤ cap ∧ xs.length * P.bytesOf e ≤ 140737488351232 ∧ (a = none → cap = 0) :=
  arg_leaves (L := oprLay) (by decide) ht hlv hC (fun g hg => dec_op hus hui hub g hg) hv h hlt hsz h1 h2 (by simp [oprLay])
/-- Operations whose device's number is one of 64 bits. -/
def OprB := { x : Opr // -9223372036854775808 ≤ x.who ∧ x.who ≤ 9223372036854775807 }
def oprbLay : Lay OprB := { sz := 11, cells := fun x => Opr.cells x.1, len := fun _ => rfl, one := fun x v hv => oprLay.one x.1 v hv }
theorem arg_ops2 {W : World} {base : Nat} {ts : List TypeId} {ds : List (DataW H)} {j : Nat} {t e i b s : TypeId} {v : Value} {d : DataW H} {p : List MemPlace}
    (ht : P.underlying t = some (.slice e)) (hlv : leaves P 4 e = [(0, i), (1, i), (2, i), (3, i), (4, i), (5, i), (6, b), (7, i), (8, i), (9, s), (10, s)]) (hC : P.cellsOf e = 11) (hby : P.bytesOf e = 104)
    (hus : P.underlying s = some .string) (hui : P.underlying i = some (.int .i64)) (hub : P.underlying b = some .bool)
    (hv : Value.okWide P W .any base t v) (h : DataW.Trod enc P W 0 (fun _ => true) true t v d p) (hlt : ∀ x ∈ p, x.block < W.heap.size) (hsz : (DataW.weightsEach P ts ds).all (· ≤ reachBytes) = true) (h1 : ts[j]? = some t) (h2 : ds[j]? = some d) :
    ∃ (a : Option Addr) (cap : Nat) (xs : List Opr), v = .slice a xs.length cap ∧ RowsAt oprLay W a xs ∧ xs.length ≤ cap ∧ xs.length ≤ 140737488351232 ∧ (a = none → cap = 0) ∧ ∀ x ∈ xs, -9223372036854775808 ≤ x.who := by
  obtain ⟨a, cap, xs, rfl, hr, hc, hl, hn⟩ := arg_leaves (L := oprbLay) (by decide) ht hlv hC (fun g hg => by
    obtain ⟨x, hx⟩ := dec_op hus hui hub g hg
    obtain ⟨n1, y1, h1⟩ := hg (1, i) (by simp)
    obtain ⟨v1, e1, _, hwf⟩ := DataW.trod_int hui h1
    simp only [List.cons.injEq, and_true] at e1
    have h3 := hx 1 (.int .i64 x.who) rfl
    rw [e1] at h3
    cases h3
    have hb : -9223372036854775808 ≤ x.who ∧ x.who ≤ 9223372036854775807 := by
      simp [Lit.wf, IntKind.min, IntKind.max, IntKind.signed, IntKind.bits] at hwf
      omega
    exact ⟨⟨x, hb⟩, hx⟩) hv h hlt hsz h1 h2 (by simp [oprbLay])
  refine ⟨a, cap, xs.map (·.1), by rw [List.length_map], ?_, by rw [List.length_map]; exact hc, by rw [List.length_map]; rw [hby] at hl; omega, hn, ?_⟩
  · intro k x hk
    rw [List.getElem?_map, Option.map_eq_some_iff] at hk
    obtain ⟨y, hy, rfl⟩ := hk
    exact hr k y hy
  · intro x hx
    obtain ⟨y, _, rfl⟩ := List.mem_map.1 hx
    exact y.2.1
end
end Go.Proofs.YtfbdbjookkogjaaDoor

namespace Go.Proofs.YtfbdbjookkogjaaDoor
open Go Go.RowKit Go.ChangeShapes Go.WideShapes Go.ChangeAt Go.Deep
theorem weightsAll_memW {H : Type} {P : Program} {e : TypeId} : ∀ {l : List (DataW H)} {d : DataW H}, d ∈ l → ∀ n ∈ d.weights P e, n ∈ DataW.weightsAll P e l
  | d' :: r, d, hd, n, hn => by
    simp only [DataW.weightsAll, List.mem_append]
    rcases List.mem_cons.1 hd with rfl | h
    · exact .inl hn
    · exact .inr (weightsAll_memW h n hn)
section
variable {H : Type} {enc : TypeId × Value → H} {P : Program} {w : World} {base : Nat} {spare : Nat → Bool} {held : Bool}
theorem trod_leafW : ∀ (d : Nat) (t : TypeId) (fuel : Nat) (cs : List Value) (x : DataW H × List MemPlace), cs.length = P.cellsOf t → DataW.trod enc P w base spare held fuel t cs = some x →
    ∀ q ∈ leaves P d t, ∃ n y, DataW.trod enc P w base spare held n q.2 ((cs.drop q.1).take 1) = some y ∧ ∀ b ∈ y.1.weights P q.2, b ∈ x.1.weights P t := by
  intro d
  induction d with
  | zero => intro t fuel cs x _ _ q hq; simp [leaves] at hq
  | succ d ih =>
    intro t fuel cs x hlen h q hq
    unfold leaves at hq
    split at hq
    · rename_i fs hfs
      obtain ⟨ys, n, _, rfl, hl, hyl, hf⟩ := DataW.trod_struct hfs h
      simp only [List.mem_flatMap, List.mem_map, List.mem_filter, decide_eq_true_eq] at hq
      obtain ⟨f, hfm, q', ⟨hq', hlt, hfit⟩, rfl⟩ := hq
      obtain ⟨i, hi⟩ := List.getElem?_of_mem hfm
      have hi' : fs[i]? = some f := by simpa using hi
      have hil : i < ys.length := by rw [hyl]; exact (Array.getElem?_eq_some_iff.1 hi').1
      have h1 := hf i f hi'
      rw [List.getElem?_eq_getElem hil] at h1
      obtain ⟨n', y, hy, hyw⟩ := ih f.type n _ _ (by rw [List.length_take, List.length_drop]; omega) h1 q' hq'
      refine ⟨n', y, ?_, fun b hb => ?_⟩
      · rw [List.drop_take, List.take_take, List.drop_drop, Nat.min_eq_left (by omega)] at hy
        exact hy
      · simp only [DataW.weights, hfs]
        exact DataW.weights_mem_each (j := i) (by simp [hi]) (by rw [List.getElem?_map, List.getElem?_eq_getElem hil]; rfl) b (hyw b hb)
    · split at hq
      · rename_i h1
        simp only [List.mem_singleton] at hq
        subst hq
        refine ⟨fuel, x, ?_, fun b hb => hb⟩
        rw [h1] at hlen
        rw [List.drop_zero, List.take_of_length_le (by omega)]
        exact h
      · simp at hq

theorem arg_leavesW {α : Type} {L : Lay α} {W : World} {ts : List TypeId} {ds : List (DataW H)} {j : Nat} {t e : TypeId} {lv : List (Nat × TypeId)} {v : Value} {d : DataW H} {p : List MemPlace} (hL : 0 < L.sz)
    (ht : P.underlying t = some (.slice e)) (hlv : leaves P 4 e = lv) (hC : P.cellsOf e = L.sz)
    (dec : ∀ g : Nat → Value, (∀ q ∈ lv, ∃ n x, DataW.trod enc P W 0 (fun _ => true) true n q.2 [g q.1] = some x ∧ ∀ b ∈ x.1.weights P q.2, b ≤ 140737488351232) → ∃ x, ∀ f v, (L.cells x)[f]? = some v → g f = v)
    (hv : Value.okWide P W .any base t v) (h : DataW.Trod enc P W 0 (fun _ => true) true t v d p) (hlt : ∀ x ∈ p, x.block < W.heap.size) (hsz : (DataW.weightsEach P ts ds).all (· ≤ reachBytes) = true) (h1 : ts[j]? = some t) (h2 : ds[j]? = some d) (hin : ∀ q ∈ lv, q.1 < L.sz) :
    ∃ (a : Option Addr) (cap : Nat) (xs : List α), v = .slice a xs.length cap ∧ RowsAt L W a xs ∧ xs.length ≤ cap ∧ xs.length * P.bytesOf e ≤ 140737488351232 ∧ (a = none → cap = 0) := by
  obtain ⟨a0, len, cap, rfl⟩ := okWide_slice ht hv
  obtain ⟨fuel, hf⟩ := h
  rcases open_slice ht hf with ⟨hcs, hx⟩ | ⟨a, len', cap', m, n, D, Pl, hcs, _, hl, hm, hmm, hx, hi⟩
  · have hcs' : Value.slice a0 len cap = .slice none 0 0 := by simpa [Value.cells] using hcs
    cases hcs'
    exact ⟨none, 0, [], rfl, RowsAt.nil _ _ _, Nat.le_refl _, by simp, fun _ => rfl⟩
  · have hcs' : Value.slice a0 len cap = .slice (some a) len' cap' := by simpa [Value.cells] using hcs
    cases hcs'
    simp only [if_true] at hmm
    obtain rfl := hmm.symm
    obtain ⟨rfl, hp⟩ := Prod.mk.inj hx
    have hs := sized_slice hsz h1 h2 ht
    simp only [List.length_map, List.length_range, reachBytes] at hs
    rw [hC] at hp
    have hbd : ∀ i, i < len → ∀ b ∈ (D i).weights P e, b ≤ 140737488351232 := fun i hil b hb => by
      have h3 := List.all_eq_true.1 hsz b (DataW.weights_mem_each h1 h2 b (by
        simp only [DataW.weights, ht, List.mem_cons, List.mem_append]
        exact .inr (.inl (weightsAll_memW (List.mem_map.2 ⟨i, List.mem_range.2 hil, rfl⟩) b hb))))
      exact of_decide_eq_true h3
    obtain ⟨xs, hxl, hxs⟩ := list_of_choice (α := α) len (fun i x => ∀ f v, (L.cells x)[f]? = some v → W.cell? (a.add (i * L.sz + f)) = some v) (by
      intro i hil
      obtain ⟨cs', hc, htr⟩ := hi i (by omega)
      rw [hC] at hc
      obtain ⟨_, hcl, hat⟩ := World.cells?_some hc
      obtain ⟨x, hx⟩ := dec (fun k => cs'.getD k default) (by
        intro q hq
        obtain ⟨n', y, hy, hyw⟩ := trod_leafW 4 e n cs' _ (by rw [hcl, hC]) htr q (by rw [hlv]; exact hq)
        have hq1 := hin q hq
        refine ⟨n', y, ?_, fun b hb => hbd i hil b (hyw b hb)⟩
        have e1 : (cs'.drop q.1).take 1 = [cs'.getD q.1 default] := by
          rw [List.drop_eq_getElem_cons (by omega)]
          rw [List.getD_eq_getElem?_getD, List.getElem?_eq_getElem (show q.1 < cs'.length by omega)]
          rfl
        rw [← e1]
        exact hy)
      refine ⟨x, fun f v hv => ?_⟩
      have hfl : f < L.sz := by rw [← L.len x]; exact (List.getElem?_eq_some_iff.1 hv).1
      have hcell := hat f hfl
      have := hx f v hv
      rw [List.getD_eq_getElem?_getD, List.getElem?_eq_getElem (by omega), Option.getD_some] at this
      rw [← Go.Deep.add_add, hcell, List.getElem?_eq_getElem (by omega), this])
    refine ⟨some a, _, xs, by rw [hxl], ?_, by omega, ?_, fun h => by cases h⟩
    · intro k x hk
      have hkl := (List.getElem?_eq_some_iff.1 hk).1
      have h0 := hxs k x hk
      obtain ⟨x0, hx0⟩ : ∃ x0, xs[0]? = some x0 := ⟨_, List.getElem?_eq_getElem (by omega)⟩
      have hc0 : (L.cells x0)[0]? = some ((L.cells x0)[0]'(by rw [L.len]; omega)) := List.getElem?_eq_getElem (by rw [L.len]; omega)
      have hc0' := hxs 0 x0 hx0 0 _ hc0
      have hspot : a.spot = none := by
        cases hsp : a.spot with
        | none => rfl
        | some q =>
          exfalso
          have hq : (a.add (0 * L.sz + 0)).spot = some q := by unfold Addr.add; rw [if_pos (by omega)]; exact hsp
          generalize a.add (0 * L.sz + 0) = z at hc0' hq
          unfold World.cell? at hc0'
          rw [hq] at hc0'
          revert hc0'
          split <;> simp
      obtain ⟨b, off, sp⟩ := a
      simp only at hspot
      subst hspot
      refine ⟨b, off, rfl, ?_, fun f v hv => ?_⟩
      · have hin : MemPlace.cell b off ∈ p := by
          rw [hp]
          refine List.mem_append_left _ ?_
          simp only [MemPlace.row, List.mem_map, List.mem_range]
          refine ⟨0, ?_, by simp⟩
          exact Nat.mul_pos (by omega) hL
        exact hlt _ hin
      · have := h0 f v hv
        have e : ((⟨b, off, none⟩ : Addr).add (k * L.sz + f)) = ⟨b, off + k * L.sz + f, none⟩ := by
          unfold Addr.add
          split <;> simp_all <;> omega
        rwa [e] at this
    · rw [hxl]
      exact Nat.le_trans (Nat.mul_le_mul_right _ (Nat.le_add_right _ _)) hs
/-- Operations whose numbers are of 64 bits, whose names are no longer than a memory. -/
def OprW := { x : Opr // (idOK x.nc x.nw ∧ idOK x.pc x.pw) ∧ x.name.size ≤ 140737488351232 }
def oprwLay : Lay OprW := { sz := 11, cells := fun x => Opr.cells x.1, len := fun _ => rfl, one := fun x v hv => oprLay.one x.1 v hv }
theorem arg_opsW {W : World} {base : Nat} {ts : List TypeId} {ds : List (DataW H)} {j : Nat} {t e i b s : TypeId} {v : Value} {d : DataW H} {p : List MemPlace}
    (ht : P.underlying t = some (.slice e)) (hlv : leaves P 4 e = [(0, i), (1, i), (2, i), (3, i), (4, i), (5, i), (6, b), (7, i), (8, i), (9, s), (10, s)]) (hC : P.cellsOf e = 11) (hby : P.bytesOf e = 104)
    (hus : P.underlying s = some .string) (hui : P.underlying i = some (.int .i64)) (hub : P.underlying b = some .bool)
    (hv : Value.okWide P W .any base t v) (h : DataW.Trod enc P W 0 (fun _ => true) true t v d p) (hlt : ∀ x ∈ p, x.block < W.heap.size) (hsz : (DataW.weightsEach P ts ds).all (· ≤ reachBytes) = true) (h1 : ts[j]? = some t) (h2 : ds[j]? = some d) :
    ∃ (a : Option Addr) (cap : Nat) (xs : List Opr), v = .slice a xs.length cap ∧ RowsAt oprLay W a xs ∧ xs.length ≤ cap ∧ xs.length ≤ 140737488351232 ∧ (a = none → cap = 0) ∧ ∀ x ∈ xs, (idOK x.nc x.nw ∧ idOK x.pc x.pw) ∧ x.name.size ≤ 140737488351232 := by
  obtain ⟨a, cap, xs, rfl, hr, hc, hl, hn⟩ := arg_leavesW (L := oprwLay) (by decide) ht hlv hC (fun g hg => by
    obtain ⟨x, hx⟩ := dec_op hus hui hub g (fun q hq => by
      obtain ⟨n, y, hy, _⟩ := hg q hq
      exact ⟨n, y, hy⟩)
    have num : ∀ k : Nat, (k, i) ∈ [(0, i), (1, i), (2, i), (3, i), (4, i), (5, i), (6, b), (7, i), (8, i), (9, s), (10, s)] → ∀ z : Int, g k = .int .i64 z → -9223372036854775808 ≤ z ∧ z ≤ 9223372036854775807 := fun k hk z hz => by
      obtain ⟨n1, y1, h1, _⟩ := hg (k, i) hk
      obtain ⟨v1, e1, _, hwf⟩ := DataW.trod_int hui h1
      simp only [List.cons.injEq, and_true] at e1
      rw [hz] at e1
      cases e1
      simp [Lit.wf, IntKind.min, IntKind.max, IntKind.signed, IntKind.bits] at hwf
      omega
    have h4 := num 4 (by simp) _ (hx 4 _ rfl)
    have h5 := num 5 (by simp) _ (hx 5 _ rfl)
    have h7 := num 7 (by simp) _ (hx 7 _ rfl)
    have h8 := num 8 (by simp) _ (hx 8 _ rfl)
    obtain ⟨n9, y9, h9, hw9⟩ := hg (9, s) (by simp)
    obtain ⟨v9, e9, rfl, _⟩ := DataW.trod_string hus h9
    simp only [List.cons.injEq, and_true] at e9
    have h93 := hx 9 (.string x.name) rfl
    rw [e9] at h93
    cases h93
    have hs9 := hw9 x.name.data.toList.length (by simp [DataW.weights])
    rw [← Go.Lib.size_eq] at hs9
    exact ⟨⟨x, ⟨⟨h4, h5⟩, h7, h8⟩, hs9⟩, hx⟩) hv h hlt hsz h1 h2 (by simp [oprwLay])
  refine ⟨a, cap, xs.map (·.1), by rw [List.length_map], ?_, by rw [List.length_map]; exact hc, by rw [List.length_map]; rw [hby] at hl; omega, hn, ?_⟩
  · intro k x hk
    rw [List.getElem?_map, Option.map_eq_some_iff] at hk
    obtain ⟨y, hy, rfl⟩ := hk
    exact hr k y hy
  · intro x hx
    obtain ⟨y, _, rfl⟩ := List.mem_map.1 hx
    exact y.2
end
end Go.Proofs.YtfbdbjookkogjaaDoor

namespace Go.Proofs.YtfbdbjookkogjaaDoor
open Go Go.RowKit Go.ChangeShapes Go.WideShapes Go.ChangeAt
section
variable {H : Type} {enc : TypeId × Value → H} {P : Program}
theorem arg_rules {W : World} {base : Nat} {ts : List TypeId} {ds : List (DataW H)} {j : Nat} {t e s i : TypeId} {v : Value} {d : DataW H} {p : List MemPlace}
    (ht : P.underlying t = some (.slice e)) (hlv : leaves P 4 e = [(0, i), (1, s)]) (hC : P.cellsOf e = 2)
    (hus : P.underlying s = some .string) (hui : P.underlying i = some (.int .i64))
    (hv : Value.okWide P W .any base t v) (h : DataW.Trod enc P W 0 (fun _ => true) true t v d p) (hlt : ∀ x ∈ p, x.block < W.heap.size) (hsz : (DataW.weightsEach P ts ds).all (· ≤ reachBytes) = true) (h1 : ts[j]? = some t) (h2 : ds[j]? = some d) :
    ∃ (a : Option Addr) (cap : Nat) (xs : List Rul), v = .slice a xs.length cap ∧ RowsAt rulLay W a xs ∧ xs.length ≤ cap ∧ xs.length * P.bytesOf e ≤ 140737488351232 ∧ (a = none → cap = 0) := by
  refine arg_leaves (L := rulLay) (by decide) ht hlv hC ?_ hv h hlt hsz h1 h2 (by simp [rulLay])
  intro g hg
  obtain ⟨n0, x0, h0⟩ := hg (0, i) (by simp)
  obtain ⟨n1, x1, h1⟩ := hg (1, s) (by simp)
  obtain ⟨i0, e0, _⟩ := DataW.trod_int hui h0
  obtain ⟨s1, e1, _⟩ := DataW.trod_string hus h1
  refine ⟨⟨i0, s1⟩, fun f v hv => ?_⟩
  simp only [List.cons.injEq, and_true] at e0 e1
  match f, hv with
  | 0, hv => rw [e0]; exact Option.some.inj hv
  | 1, hv => rw [e1]; exact Option.some.inj hv
end
end Go.Proofs.YtfbdbjookkogjaaDoor

