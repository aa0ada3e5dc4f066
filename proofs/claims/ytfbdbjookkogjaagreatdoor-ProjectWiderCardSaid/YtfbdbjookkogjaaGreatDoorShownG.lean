/-
  What a filter shows of what operations make: plain laws. What a filter shows of what operations make: arbourlaw12.shown, and the law ProjectAll. The rule that has all shows all, and none nothing: the law.
-/
import Derived.Test.YtfbdbjookkogjaaGreatDoorTreeG
import Derived.Test.YtfbdbjookkogjaaGreatDoorViewR5
import Derived.Test.YtfbdbjookkogjaaGreatDoorProjG
namespace Go.Proofs.YtfbdbjookkogjaaGreatDoor
open Go Go.RowKit
/-! ### the nodes -/
def nameLe (m : Nat) (n : Nd) : Prop := n.name.size ≤ m
theorem doT_name {m : Nat} {l : List Nd} {x : Opr} (h : ∀ n ∈ l, nameLe m n) (hx : x.name.size ≤ m) : ∀ n ∈ doT l x, nameLe m n := by
  intro n hn
  unfold doT at hn
  split at hn
  · split at hn
    · rcases mem_grownT hn with rfl | hn
      · unfold madeT
        split <;> exact hx
      · exact h n hn
    · exact h n hn
  · rename_i hf
    have hm := h _ (findT_mem (c := x.nc) (q := x.nw) (l := l) (by simpa using hf)).1
    split at hn
    · exact h n hn
    · split at hn
      · rcases List.mem_or_eq_of_mem_set hn with hn | rfl
        · exact h n hn
        · unfold turnedT
          split
          · exact hx
          · split
            · exact hm
            · split <;> exact hm
      · exact h n hn
theorem foldFrom_name {m : Nat} : ∀ (ops : List Opr) (l : List Nd), (∀ n ∈ l, nameLe m n) → (∀ x ∈ ops, x.name.size ≤ m) → ∀ n ∈ ops.foldl doT l, nameLe m n
  | [], _, h, _ => h
  | x :: r, l, h, hx => foldFrom_name r (doT l x) (doT_name h (hx x List.mem_cons_self)) (fun y hy => hx y (List.mem_cons_of_mem _ hy))
def OpW (x : Opr) : Prop := OpR x ∧ x.name.size ≤ 140737488351232
theorem foldT_ok {ops : List Opr} (hl : ops.length ≤ 900) (hx : ∀ x ∈ ops, OpW x) : NdsOK (foldT ops) :=
  ⟨Nat.le_trans (foldT_len ops) (by omega), fun n hn => (foldT_R (fun x h => (hx x h).1) n hn).1, fun n hn => foldFrom_name ops [] (fun n hn => by simp at hn) (fun x h => (hx x h).2) n hn⟩
/-! ### the items -/
def GoodI (x : Itm) : Prop := x.ghost = false ∧ x.path.size ≤ 1000
theorem given_small {nodes : List Nd} {c w : Int} (h : uniqueN ((childF nodes c w).map (·.name)) = 0) : ∀ p ∈ given nodes c w, p.2.size ≤ 24 := fun _ hp => (given_len nodes c w h).2 _ (List.of_mem_zip hp).2
theorem addV_good (ahead : ByteArray) (full : Bool) (ha : ahead.size + 30 ≤ 1000) : ∀ (l : List (Nd × ByteArray)) (out : List Itm), (∀ p ∈ l, p.2.size ≤ 24) → (∀ x ∈ out, GoodI x) → ∀ x ∈ (addV ahead full l out).1, GoodI x
  | [], out, _, h => h
  | (n, g) :: r, out, hl, h => by
    unfold addV
    split
    · exact h
    · refine addV_good ahead full ha r _ (fun p hp => hl p (List.mem_cons_of_mem _ hp)) (fun x hx => ?_)
      rcases List.mem_append.1 hx with hx | hx
      · exact h x hx
      · rw [List.mem_singleton.1 hx]
        refine ⟨rfl, ?_⟩
        show (ahead ++ g).size ≤ 1000
        have := hl (n, g) List.mem_cons_self
        rw [ByteArray.size_append]
        dsimp only at this
        omega
theorem subV_good {down : Int → Int → ByteArray → List Itm → List Itm × Int} {m : Nat} (hd : ∀ c w a o, a.size ≤ m + 25 → (∀ x ∈ o, GoodI x) → ∀ x ∈ (down c w a o).1, GoodI x) (ahead : ByteArray) (ha : ahead.size ≤ m) : ∀ (l : List (Nd × ByteArray)) (out : List Itm), (∀ p ∈ l, p.2.size ≤ 24) → (∀ x ∈ out, GoodI x) → ∀ x ∈ (subV down ahead l out).1, GoodI x
  | [], out, _, h => h
  | (n, g) :: r, out, hl, h => by
    have hg := hl (n, g) List.mem_cons_self
    have hs : (ahead ++ g ++ slashB).size ≤ m + 25 := by
      rw [ByteArray.size_append, ByteArray.size_append]
      dsimp only at hg
      have : slashB.size = 1 := rfl
      omega
    have hr := fun p hp => hl p (List.mem_cons_of_mem (n, g) hp)
    unfold subV
    split
    · split
      · exact subV_good hd ahead ha r _ hr (hd _ _ _ _ hs h)
      · exact hd _ _ _ _ hs h
    · exact subV_good hd ahead ha r _ hr h
theorem downV_good (nodes : List Nd) : ∀ (f : Nat) (c w : Int) (ahead : ByteArray) (out : List Itm), ahead.size + 30 * (f + 1) ≤ 1000 → (∀ x ∈ out, GoodI x) → ∀ x ∈ (downV nodes f c w ahead out).1, GoodI x
  | 0, c, w, ahead, out, ha, h => by
    unfold downV
    split
    · exact h
    · rename_i hu
      exact addV_good _ _ (by omega) _ _ (given_small (Classical.not_not.1 hu)) h
  | f + 1, c, w, ahead, out, ha, h => by
    unfold downV
    split
    · exact h
    · rename_i hu
      have hg := given_small (Classical.not_not.1 hu)
      have h1 := addV_good ahead false (by omega) (given nodes c w) out hg h
      split
      · exact subV_good (m := ahead.size) (fun c w a o hz ho => downV_good nodes f c w a o (by omega) ho) ahead (Nat.le_refl _) _ _ hg h1
      · exact h1
theorem mem_sortFrom {x : Itm} : ∀ (l s : List Itm), x ∈ l.foldl (fun s x => insI x s) s ↔ x ∈ s ∨ x ∈ l
  | [], s => by simp
  | y :: l, s => by
    rw [List.foldl_cons, mem_sortFrom l, mem_insI, List.mem_cons]
    constructor
    · rintro ((h | h) | h)
      · exact .inr (.inl h)
      · exact .inl h
      · exact .inr (.inr h)
    · rintro (h | h | h)
      · exact .inl (.inr h)
      · exact .inl (.inl h)
      · exact .inr h
theorem mem_sortI {x : Itm} {l : List Itm} : x ∈ sortI l ↔ x ∈ l := by
  unfold sortI
  rw [mem_sortFrom]
  simp
theorem viewF_good (nodes : List Nd) : ∀ x ∈ (viewF nodes).1, GoodI x := by
  unfold viewF
  split
  · intro x hx
    exact downV_good nodes 16 0 0 ⟨#[]⟩ [] (by decide) (fun x hx => by simp at hx) x (mem_sortI.1 hx)
  · intro x hx
    simp at hx
/-! ### what is shown -/
def okOp (x : Opr) : Bool := (rightC x.nc x.nw == 0) && decide (x.man.size ≤ 1000)
def okOps (ops : List Opr) : Bool := decide (ops.length ≤ 60) && ops.all okOp
def shownF (ops : List Opr) (rules : List Rul) : List Itm × List Itm × Bool :=
  if okOps ops && fewP [] rules then ((viewF (foldT ops)).1, projG rules (viewF (foldT ops)).1 (viewF (foldT ops)).1.length, (viewF (foldT ops)).2 == 0) else ([], [], false)
theorem match_none (p : ByteArray) (d : Bool) : matchG [] p d = false := rfl
theorem proj_none (xs : List Itm) (k : Nat) : projG [] xs k = [] := by
  unfold projG
  rw [List.filterMap_eq_nil_iff]
  intro x _
  unfold showG inG overG inG
  simp [match_none]
def allR : List Rul := [⟨1, ⟨#[46]⟩⟩]
theorem match_all (p : ByteArray) (d : Bool) : matchG allR p d = true := by
  have h : bestG p allR allR.length = some ⟨1, ⟨#[46]⟩⟩ := by
    show bestG p allR 1 = _
    rw [bestG_step (k := 0) (x := ⟨1, ⟨#[46]⟩⟩) rfl, if_pos]
    have h1 : bestG p allR 0 = none := rfl
    rw [h1]
    simp [saysG, withinG, betterG]
  unfold matchG
  rw [h]
  simp [allR]
theorem proj_all {xs : List Itm} (h : ∀ x ∈ xs, GoodI x) : projG allR xs xs.length = xs := by
  unfold projG
  rw [List.take_length]
  have : ∀ x ∈ xs, showG allR xs x = some x := fun x hx => by
    unfold showG inG
    rw [if_pos (match_all _ _)]
    have := (h x hx).1
    obtain ⟨a, b, c, d, e, f⟩ := x
    dsimp only at this
    subst this
    rfl
  clear h
  have key : ∀ (l : List Itm), (∀ x ∈ l, showG allR xs x = some x) → l.filterMap (showG allR xs) = l := by
    intro l
    induction l with
    | nil => intro _; rfl
    | cons y r ih =>
      intro hl
      rw [List.filterMap_cons, hl y List.mem_cons_self, ih (fun x hx => hl x (List.mem_cons_of_mem _ hx))]
  exact key xs this
end Go.Proofs.YtfbdbjookkogjaaGreatDoor

namespace Go.Proofs.YtfbdbjookkogjaaGreatDoor
open Go Go.RowKit Go.Lib
set_option maxRecDepth 100000 in
set_option maxHeartbeats 6400000 in
theorem shown_any (a a' : Option Addr) (cap cap' : Nat) (ops : List Opr) (rules : List Rul) (w : World) (hl : ops.length ≤ 140737488351232) (ha : RowsAt oprLay w a ops) (hx : ∀ x ∈ ops, OpW x) (ha' : RowsAt rulLay w a' rules) (hT : Tab w) :
    Calls Tryz.prog 6 #[.slice a ops.length cap, .slice a' rules.length cap'] w fun e w' => ∃ a1 c1 a2 c2, e = .returned (.tuple #[.slice a1 (shownF ops rules).1.length c1, .slice a2 (shownF ops rules).2.1.length c2, .bool (shownF ops rules).2.2]) ∧ RowsAt itmLay w' a1 (shownF ops rules).1 ∧ RowsAt itmLay w' a2 (shownF ops rules).2.1 ∧ Below w.heap.size w w' := by
  have HD := Lib.hid (show shownF ops rules = if okOps ops && fewP [] rules then ((viewF (foldT ops)).1, projG rules (viewF (foldT ops)).1 (viewF (foldT ops)).1.length, (viewF (foldT ops)).2 == 0) else ([], [], false) from rfl)
  obtain ⟨R, hR⟩ : ∃ R, shownF ops rules = R := ⟨_, rfl⟩
  rw [hR] at HD ⊢
  clear hR
  have HNo := Lib.hid (show (okOps ops && fewP [] rules) = false → R = ([], [], false) from fun h => by rw [HD.out, h]; rfl)
  have HF := Lib.hid (few12_any none a' 0 cap' [] rules w (RowsAt.nil _ _ _) ha')
  have HA := Lib.hid fun W (h : Below w.heap.size w W) => ha.keeps h
  have HA' := Lib.hid fun W (h : Below w.heap.size w W) => ha'.keeps h
  have HT := Lib.hid fun W (h : Below w.heap.size w W) => tab_keeps hT h
  have HX := Lib.hid hx
  clear ha ha' hT hx
  by_cases h60 : 60 < ops.length
  · have hq : decide ((ops.length : Int) > 60) = true := decide_eq_true (by omega)
    have hq2 : decide (60 < ops.length) = true := decide_eq_true h60
    have HR := Lib.hid (HNo.out (by unfold okOps; rw [decide_eq_false (by omega)]; rfl))
    go_enter Tryz.func6, Tryz.ntmps6
    go_wp2_with fail
    go_ret3
    rw [HR.out]
    exact ⟨none, 0, none, 0, rfl, RowsAt.nil _ _ _, RowsAt.nil _ _ _, Below.refl _ _⟩
  · have hq : decide ((ops.length : Int) > 60) = false := decide_eq_false (by omega)
    have hq2 : decide (60 < ops.length) = false := decide_eq_false h60
    have hq3 : decide ((60 : Int) < (ops.length : Int)) = false := decide_eq_false (by omega)
    obtain ⟨fp, hfp⟩ : ∃ fp, fewP [] rules = fp := ⟨_, rfl⟩
    rw [hfp] at HF
    have Hfp := Lib.hid hfp
    clear hfp
    cases fp with
    | false =>
      have HR := Lib.hid (HNo.out (by rw [Hfp.out, Bool.and_false]))
      go_enter Tryz.func6, Tryz.ntmps6
      go_wp2_with fail
      refine HF.out.mono ?_
      rintro e w1 ⟨rfl, rfl⟩
      go_wp2_with fail
      go_ret3
      rw [HR.out]
      exact ⟨none, 0, none, 0, rfl, RowsAt.nil _ _ _, RowsAt.nil _ _ _, Below.refl _ _⟩
    | true =>
      have hrl : rules.length ≤ 30 ∧ ∀ x ∈ rules, x.text.size ≤ 500 := ⟨(fewP_parts Hfp.out).2.1, (fewP_parts Hfp.out).2.2.2⟩
      have Hrl := Lib.hid hrl
      clear hrl
      go_enter Tryz.func6, Tryz.ntmps6
      go_wp2_with fail
      refine HF.out.mono ?_
      rintro e w1 ⟨rfl, rfl⟩
      clear HF
      go_wp2_with fail
      go_loopw [7] (fun i wr => ∃ k : Nat, k ≤ ops.length ∧ i = .int .i64 k ∧ Hid (∀ j y, j < k → ops[j]? = some y → okOp y = true) ∧ Below w.heap.size w wr) (fun i _ => ops.length - (RowKit.intOf i).toNat)
      case atStart => exact ⟨0, Nat.zero_le _, rfl, Lib.hid (fun j _ hj => absurd hj (Nat.not_lt_zero _)), Below.refl _ _⟩
      case round =>
        obtain ⟨k, hk, rfl, Hk, hb⟩ := hrel
        by_cases hlt : k < ops.length
        · obtain ⟨x, hx⟩ := at_some hlt
          obtain ⟨b, off, hae, hbl, c0, c1, c2, c3, c4, c5, c6, c7, c8, c9, c10⟩ := opr_at (HA.out _ hb) hx
          subst hae
          have HC := Lib.hid (cright_any x.nc x.nw wr)
          have Hx := Lib.hid hx
          have hlti : (k : Int) < (ops.length : Int) := by omega
          have hlt0 : (0 : Int) ≤ (k : Int) := by omega
          have Hbad := Lib.hid (show okOp x = false → R = ([], [], false) from fun h => HNo.out (by
            have : ops.all okOp = false := by
              rw [List.all_eq_false]
              exact ⟨x, List.mem_of_getElem? Hx.out, by rw [h]; simp⟩
            unfold okOps
            rw [this, Bool.and_false]
            rfl))
          clear hx
          by_cases hr : rightC x.nc x.nw = 0
          · rw [hr] at HC
            have Hr := Lib.hid hr
            clear hr
            by_cases hm : 1000 < x.man.size
            · have HR := Lib.hid (Hbad.out (by unfold okOp; rw [decide_eq_false (by omega), Bool.and_false]))
              go_wp2_with fail
              refine HC.out.mono ?_
              rintro e w2 ⟨rfl, hb2⟩
              have d10 := (hb2.cell (p := ⟨b, off + k * 11 + 10, none⟩) hbl).trans c10
              have hbw := hb.trans (hb2.mono hb.size)
              go_wp2_with fail
              go_ret3
              rw [HR.out]
              exact ⟨none, 0, none, 0, rfl, RowsAt.nil _ _ _, RowsAt.nil _ _ _, hbw⟩
            · have Hok := Lib.hid (show okOp x = true by unfold okOp; rw [Hr.out, decide_eq_true (by omega)]; rfl)
              go_wp2_with fail
              refine HC.out.mono ?_
              rintro e w2 ⟨rfl, hb2⟩
              have d10 := (hb2.cell (p := ⟨b, off + k * 11 + 10, none⟩) hbl).trans c10
              have hbw := hb.trans (hb2.mono hb.size)
              go_wp2_with fail
              go_roundw
              case rel =>
                refine ⟨k + 1, by omega, by go_num, Lib.hid (fun j z hj hz => ?_), hbw⟩
                by_cases e : j = k
                · subst e
                  rw [Hx.out] at hz
                  cases hz
                  exact Hok.out
                · exact Hk.out j z (by omega) hz
              case measure => simp [RowKit.intOf]; omega
          · have hq4 : (rightC x.nc x.nw != 0) = true := bne_iff_ne.2 hr
            have HR := Lib.hid (Hbad.out (by unfold okOp; rw [beq_eq_false_iff_ne.2 hr, Bool.false_and]))
            generalize rightC x.nc x.nw = rc at *
            clear hr
            go_wp2_with fail
            refine HC.out.mono ?_
            rintro e w2 ⟨rfl, hb2⟩
            have hbw := hb.trans (hb2.mono hb.size)
            go_wp2_with fail
            go_ret3
            rw [HR.out]
            exact ⟨none, 0, none, 0, rfl, RowsAt.nil _ _ _, RowsAt.nil _ _ _, hbw⟩
        · obtain rfl : k = ops.length := by omega
          have hall : okOps ops = true := by
            unfold okOps
            rw [decide_eq_true (by omega), Bool.true_and, List.all_eq_true]
            intro y hy
            obtain ⟨j, hj, e⟩ := List.mem_iff_getElem.1 hy
            exact Hk.out j y hj (by rw [List.getElem?_eq_getElem hj, e])
          have HR := Lib.hid (show R = ((viewF (foldT ops)).1, projG rules (viewF (foldT ops)).1 (viewF (foldT ops)).1.length, (viewF (foldT ops)).2 == 0) by rw [HD.out, hall, Hfp.out]; rfl)
          have HFo := Lib.hid (fold_any a cap ops wr (by omega) (HA.out wr hb) (fun x h => (HX.out x h).1))
          have hok := foldT_ok (ops := ops) (by omega) HX.out
          have hvl := view_len (foldT ops)
          have hol := hok.len
          have Hgood := Lib.hid (viewF_good (foldT ops))
          obtain ⟨nodes, hn⟩ : ∃ nodes, foldT ops = nodes := ⟨_, rfl⟩
          rw [hn] at HR HFo hok hvl hol Hgood
          have Hok := Lib.hid hok
          clear hall hn hok HD HNo Hk
          go_wp2_with fail
          refine HFo.out.mono ?_
          rintro e w2 ⟨av, cv, rfl, hrn, _, hb2⟩
          have hbw2 := hb.trans (hb2.mono hb.size)
          have HV := Lib.hid (view_any av cv nodes w2 (HT.out w2 hbw2) hrn Hok.out)
          clear hrn HFo
          go_wp2_with fail
          refine HV.out.mono ?_
          rintro e w3 ⟨a3, c3, rfl, hr3, hb3, _⟩
          have hbw3 := hbw2.trans (hb3.mono hbw2.size)
          obtain ⟨vf, hvf⟩ : ∃ vf, viewF nodes = vf := ⟨_, rfl⟩
          rw [hvf] at hr3 hvl Hgood HR ⊢
          obtain ⟨xs, er⟩ := vf
          dsimp only at hr3 hvl Hgood HR
          have HP := Lib.hid (project_any a3 a' c3 cap' xs rules w3 (fun x h => by have := (Hgood.out x h).2; omega) (by omega) (fun x h => by have := Hrl.out.2 x h; omega) (by have := Hrl.out.1; omega) hr3 (HA'.out w3 hbw3))
          clear HV hvf
          go_wp2_with fail
          refine HP.out.mono ?_
          rintro e w4 ⟨v4, rfl, ho4, hb4⟩
          obtain ⟨a4, c4, rfl, hr4, _⟩ := ho4.read
          have hr34 := hr3.keeps hb4
          clear ho4 hr3
          go_wp2_with fail
          go_ret3
          rw [HR.out]
          exact ⟨a3, c3, a4, c4, by first | rfl | simp, hr34, hr4, hbw3.trans (hb4.mono hbw3.size)⟩
end Go.Proofs.YtfbdbjookkogjaaGreatDoor

namespace Go.Proofs.YtfbdbjookkogjaaGreatDoor
open Go Go.RowKit Go.Lib
theorem few_all : fewP [] allR = true := by decide
theorem few_none : fewP [] [] = true := by decide
theorem shown_all (ops : List Opr) : ∃ (xs : List Itm) (ok : Bool), shownF ops allR = (xs, xs, ok) ∧ (∃ ys, shownF ops [] = (ys, [], ok)) ∧ xs.length ≤ 140737488351232 := by
  unfold shownF
  rw [few_all, few_none, Bool.and_true]
  cases h : okOps ops with
  | false => exact ⟨[], false, rfl, ⟨[], rfl⟩, by simp⟩
  | true =>
    refine ⟨(viewF (foldT ops)).1, (viewF (foldT ops)).2 == 0, ?_, ⟨(viewF (foldT ops)).1, ?_⟩, ?_⟩
    · rw [if_pos rfl, proj_all (viewF_good _)]
    · rw [if_pos rfl, proj_none]
    · have h1 := view_len (foldT ops)
      have h2 := foldT_len ops
      unfold okOps at h
      rw [Bool.and_eq_true] at h
      have := of_decide_eq_true h.1
      omega
end Go.Proofs.YtfbdbjookkogjaaGreatDoor

