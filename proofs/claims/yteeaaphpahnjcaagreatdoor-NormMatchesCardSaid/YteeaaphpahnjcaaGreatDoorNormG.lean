/-
  Rules in their form: the plain laws of NormMatches and NormLeast. The order that a form's places and types are put in: norm.length, cmp.Or, norm.rising. The keys of a map, in the order of a form: slices.SortedFunc(maps.Keys(m), rising). The kind at the nearest place above another one: norm.above. Rules in their form: norm.Norm. Rules in their form: the chapter's example, what may be printed, and the law NormMatches. None of the rules of a form can be left out: the law NormLeast.
-/
import Derived.Test.YteeaaphpahnjcaaGreatDoorGlp16
import Derived.Test.YteeaaphpahnjcaaGreatDoorCmpStr
import Derived.Test.YteeaaphpahnjcaaGreatDoorShelf
import Derived.Test.YteeaaphpahnjcaaGreatDoorStructs
import Derived.Sort.EncStr
import Derived.Sort.Row
import Derived.Sort.Grow
import Derived.Sort.Statements
import Derived.Test.YteeaaphpahnjcaaGreatDoorStrMap
import Derived.Test.YteeaaphpahnjcaaGreatDoorKeys
import Derived.Sort.OwnSorted
import Derived.Shelf.SlIter.Keys
import Derived.Shelf.SlIter.Collect
import Derived.Shelf.SlSortCmp.NoneTotal
import Derived.Test.YteeaaphpahnjcaaGreatDoorGlobWG
import Derived.Test.YteeaaphpahnjcaaGreatDoorGlp8
import Derived.Test.YteeaaphpahnjcaaGreatDoorAppends
import Derived.Lib.QuietBelow
import Derived.BigQuiet
import Derived.StillTailTactics
import Derived.Test.YteeaaphpahnjcaaGreatDoorGlp10
import Derived.Test.YteeaaphpahnjcaaGreatDoorGlp11
import Derived.Test.YteeaaphpahnjcaaGreatDoorSliced
import Derived.IntWalk
namespace Go.Proofs.YteeaaphpahnjcaaGreatDoor
open Go Go.RowKit Go.Lib
def dotB : ByteArray := ⟨#[46]⟩
/-- The kind at a place; 0: there is none. -/
def kindN (l : List Rul) (t : ByteArray) : Int := if l.any (fun x => x.kind == 2 && decide (x.text = t)) then 2 else if l.any (fun x => x.kind == 1 && decide (x.text = t)) then 1 else 0
theorem kindN_two {l : List Rul} {t : ByteArray} : kindN l t = 2 ↔ ∃ x ∈ l, x.kind = 2 ∧ x.text = t := by
  unfold kindN
  constructor
  · intro h
    split at h
    · rename_i h1
      obtain ⟨x, hx, h2⟩ := List.any_eq_true.1 h1
      rw [Bool.and_eq_true, beq_iff_eq, decide_eq_true_eq] at h2
      exact ⟨x, hx, h2⟩
    · split at h <;> omega
  · rintro ⟨x, hx, h1, h2⟩
    rw [if_pos (List.any_eq_true.2 ⟨x, hx, by rw [Bool.and_eq_true, beq_iff_eq, decide_eq_true_eq]; exact ⟨h1, h2⟩⟩)]
theorem kindN_has {l : List Rul} {t : ByteArray} : kindN l t ≠ 0 ↔ ∃ x ∈ l, (x.kind = 1 ∨ x.kind = 2) ∧ x.text = t := by
  unfold kindN
  constructor
  · intro h
    split at h
    · rename_i h1
      obtain ⟨x, hx, h2⟩ := List.any_eq_true.1 h1
      rw [Bool.and_eq_true, beq_iff_eq, decide_eq_true_eq] at h2
      exact ⟨x, hx, .inr h2.1, h2.2⟩
    · split at h
      · rename_i h1
        obtain ⟨x, hx, h2⟩ := List.any_eq_true.1 h1
        rw [Bool.and_eq_true, beq_iff_eq, decide_eq_true_eq] at h2
        exact ⟨x, hx, .inl h2.1, h2.2⟩
      · exact absurd rfl h
  · rintro ⟨x, hx, h1, h2⟩
    split
    · omega
    · rename_i h3
      rcases h1 with h1 | h1
      · rw [if_pos (List.any_eq_true.2 ⟨x, hx, by rw [Bool.and_eq_true, beq_iff_eq, decide_eq_true_eq]; exact ⟨h1, h2⟩⟩)]
        omega
      · exact absurd (List.any_eq_true.2 ⟨x, hx, by rw [Bool.and_eq_true, beq_iff_eq, decide_eq_true_eq]; exact ⟨h1, h2⟩⟩) h3
theorem kindN_or (l : List Rul) (t : ByteArray) : kindN l t = 0 ∨ kindN l t = 1 ∨ kindN l t = 2 := by
  unfold kindN
  split
  · exact .inr (.inr rfl)
  · split
    · exact .inr (.inl rfl)
    · exact .inl rfl
def placeOK (t : ByteArray) : Prop := t = dotB ∨ pathG t.data.toList = true
theorem splitN_join (c : UInt8) (b : List UInt8) : ∀ a, splitL c (a ++ c :: b) = splitL c a ++ splitL c b
  | [] => by simp [splitL]
  | x :: a => by
    rw [List.cons_append, splitL, splitL, splitN_join c b a]
    split
    · rfl
    · cases hs : splitL c a with
      | nil => exact absurd hs (splitL_ne c a)
      | cons p ps => rfl
theorem path_noSlash (a : List UInt8) : pathG (a ++ [47]) = false := by
  unfold pathG
  have h : splitL 47 (a ++ [47]) = splitL 47 a ++ [[]] := splitN_join 47 [] a
  rw [h, List.map_append, List.any_append]
  have : (List.map ba [([] : List UInt8)]).any wrongP = true := by decide
  rw [this, Bool.or_true]
  simp
theorem size_list (b : ByteArray) : b.size = b.data.toList.length := size_eq b
theorem longG_ge (t : ByteArray) : -1 ≤ longG t := by
  unfold longG
  split <;> omega
theorem longG_dot {t : ByteArray} (h : longG t < 0) : t = dotB := by
  unfold longG at h
  split at h
  · rename_i h1
    exact h1
  · omega
theorem longG_size {t : ByteArray} (h : t ≠ dotB) : longG t = (t.size : Int) := if_neg h
theorem ba_same {a b : ByteArray} (h : a.data.toList = b.data.toList) : a = b := by
  obtain ⟨⟨a⟩⟩ := a
  obtain ⟨⟨b⟩⟩ := b
  have h2 : a = b := h
  rw [h2]
theorem chain {p t u : ByteArray} (hu : placeOK u) (h1 : withinG p t = true) (h2 : withinG p u = true) (hl : longG t ≤ longG u) : withinG u t = true := by
  by_cases ht : t = dotB
  · rw [ht]
    exact within_all u
  by_cases hud : u = dotB
  · have h3 : longG u = -1 := if_pos hud
    exact absurd (longG_dot (by omega)) ht
  have hu2 := hu.resolve_left hud
  rw [longG_size ht, longG_size hud, size_list, size_list] at hl
  rcases within_iff.1 h1 with h1' | h1' | ⟨r1, hr1, h1'⟩
  · exact absurd h1' ht
  · rcases within_iff.1 h2 with h2' | h2' | ⟨r2, hr2, h2'⟩
    · exact absurd h2' hud
    · rw [← h1', h2']
      exact within_self u
    · have := congrArg List.length h2'
      rw [h1', List.length_append, List.length_cons] at this
      omega
  · rcases within_iff.1 h2 with h2' | h2' | ⟨r2, hr2, h2'⟩
    · exact absurd h2' hud
    · rw [← h2']
      exact h1
    · rw [h1'] at h2'
      rcases List.append_eq_append_iff.1 h2' with ⟨s, e1, e2⟩ | ⟨s, e1, e2⟩
      · cases s with
        | nil =>
          rw [List.append_nil] at e1
          rw [ba_same e1]
          exact within_self t
        | cons z s =>
          rw [List.cons_append, List.cons.injEq] at e2
          rw [← e2.1] at e1
          refine within_iff.2 (.inr (.inr ⟨s, fun hs => ?_, e1⟩))
          rw [e1, hs, path_noSlash] at hu2
          cases hu2
      · have h3 := congrArg List.length e1
        rw [List.length_append] at h3
        have h4 : s = [] := List.length_eq_zero_iff.1 (by omega)
        rw [h4, List.append_nil] at e1
        rw [ba_same e1]
        exact within_self u
theorem within_long {a b : ByteArray} (h : withinG a b = true) (hne : b ≠ a) (ha : a ≠ dotB) : longG b < longG a := by
  rcases within_iff.1 h with h | h | ⟨r, hr, h⟩
  · have h1 : longG b = -1 := if_pos h
    rw [h1, longG_size ha]
    omega
  · exact absurd h.symm hne
  · by_cases hb : b = dotB
    · have h1 : longG b = -1 := if_pos hb
      rw [h1, longG_size ha]
      omega
    · rw [longG_size ha, longG_size hb, size_list, size_list, h, List.length_append, List.length_cons]
      omega
theorem chain_eq {p t u : ByteArray} (hu : placeOK u) (h1 : withinG p t = true) (h2 : withinG p u = true) (hl : longG t = longG u) : t = u := by
  by_cases hne : t = u
  · exact hne
  · by_cases hud : u = dotB
    · have h3 : longG u = -1 := if_pos hud
      rw [longG_dot (t := t) (by omega), hud]
    · have := within_long (chain hu h1 h2 (by omega)) hne hud
      omega
/-! ### the nearest place -/
def NearP (S : ByteArray → Prop) (t : ByteArray) : Prop := S t ∧ ∀ u, S u → longG u ≤ longG t
def KindIs (l : List Rul) (S : ByteArray → Prop) (k : Int) : Prop := (∃ t, NearP S t ∧ k = kindN l t) ∨ ((∀ t, ¬ S t) ∧ k = 2)
def overS (l : List Rul) (t u : ByteArray) : Prop := kindN l u ≠ 0 ∧ u ≠ t ∧ t ≠ dotB ∧ withinG t u = true
def hasS (l : List Rul) (p u : ByteArray) : Prop := kindN l u ≠ 0 ∧ withinG p u = true
theorem kindIs_same {l : List Rul} {S S' : ByteArray → Prop} {k : Int} (h : ∀ u, S u ↔ S' u) (hk : KindIs l S k) : KindIs l S' k := by
  rcases hk with ⟨t, ⟨h1, h2⟩, h3⟩ | ⟨h1, h2⟩
  · exact .inl ⟨t, ⟨(h t).1 h1, fun u hu => h2 u ((h u).2 hu)⟩, h3⟩
  · exact .inr ⟨fun t ht => h1 t ((h t).2 ht), h2⟩
/-- All places of the rules may be. -/
def RulesOK (l : List Rul) : Prop := ∀ t, kindN l t ≠ 0 → placeOK t
theorem kindIs_one {l : List Rul} {p : ByteArray} {S : ByteArray → Prop} {k k' : Int} (hS : ∀ u, S u → placeOK u ∧ withinG p u = true) (h : KindIs l S k) (h' : KindIs l S k') : k = k' := by
  rcases h with ⟨t, ⟨h1, h2⟩, h3⟩ | ⟨h1, h2⟩
  · rcases h' with ⟨u, ⟨g1, g2⟩, g3⟩ | ⟨g1, g2⟩
    · have e : t = u := chain_eq (hS u g1).1 (hS t h1).2 (hS u g1).2 (Int.le_antisymm (g2 t h1) (h2 u g1))
      rw [h3, g3, e]
    · exact absurd h1 (g1 t)
  · rcases h' with ⟨u, ⟨g1, g2⟩, g3⟩ | ⟨g1, g2⟩
    · exact absurd g1 (h1 u)
    · rw [h2, g2]
def nearStep (b : Option ByteArray) (u : ByteArray) : Option ByteArray := match b with
  | none => some u
  | some v => if longG v < longG u then some u else some v
def nearF (c : List ByteArray) : Option ByteArray := c.foldl nearStep none
theorem nearFrom_some : ∀ (c : List ByteArray) (v : ByteArray), ∃ t, c.foldl nearStep (some v) = some t ∧ (t = v ∨ t ∈ c) ∧ longG v ≤ longG t ∧ ∀ u ∈ c, longG u ≤ longG t
  | [], v => ⟨v, rfl, .inl rfl, Int.le_refl _, fun _ h => by cases h⟩
  | x :: r, v => by
    rw [List.foldl_cons]
    by_cases h : longG v < longG x
    · have e : nearStep (some v) x = some x := if_pos h
      obtain ⟨t, h1, h2, h3, h4⟩ := nearFrom_some r x
      rw [e]
      refine ⟨t, h1, .inr ?_, by omega, fun u hu => ?_⟩
      · rcases h2 with h2 | h2
        · rw [h2]
          exact List.mem_cons_self
        · exact List.mem_cons_of_mem _ h2
      · rcases List.mem_cons.1 hu with rfl | hu
        · exact h3
        · exact h4 u hu
    · have e : nearStep (some v) x = some v := if_neg h
      obtain ⟨t, h1, h2, h3, h4⟩ := nearFrom_some r v
      rw [e]
      refine ⟨t, h1, h2.imp id (List.mem_cons_of_mem _), h3, fun u hu => ?_⟩
      rcases List.mem_cons.1 hu with rfl | hu
      · omega
      · exact h4 u hu
theorem nearF_spec (c : List ByteArray) : (nearF c = none ∧ c = []) ∨ ∃ t, nearF c = some t ∧ t ∈ c ∧ ∀ u ∈ c, longG u ≤ longG t := by
  cases c with
  | nil => exact .inl ⟨rfl, rfl⟩
  | cons x r =>
    obtain ⟨t, h1, h2, h3, h4⟩ := nearFrom_some r x
    refine .inr ⟨t, h1, ?_, fun u hu => ?_⟩
    · rcases h2 with h2 | h2
      · rw [h2]
        exact List.mem_cons_self
      · exact List.mem_cons_of_mem _ h2
    · rcases List.mem_cons.1 hu with rfl | hu
      · exact h3
      · exact h4 u hu
def overB (l : List Rul) (t u : ByteArray) : Bool := !(kindN l u == 0) && !decide (u = t) && !decide (t = dotB) && withinG t u
theorem overB_iff {l : List Rul} {t u : ByteArray} : overB l t u = true ↔ overS l t u := by
  unfold overB overS
  simp [and_assoc]
/-- The kind at the nearest place above another one. -/
def aboveN (l : List Rul) (t : ByteArray) : Int := match nearF ((l.map (·.text)).filter (overB l t)) with
  | none => 2
  | some u => kindN l u
theorem mem_over {l : List Rul} {t u : ByteArray} : u ∈ (l.map (·.text)).filter (overB l t) ↔ overS l t u := by
  rw [List.mem_filter, overB_iff]
  constructor
  · exact fun h => h.2
  · intro h
    refine ⟨?_, h⟩
    obtain ⟨x, hx, _, e⟩ := kindN_has.1 h.1
    exact List.mem_map.2 ⟨x, hx, e⟩
theorem above_spec (l : List Rul) (t : ByteArray) : KindIs l (overS l t) (aboveN l t) := by
  unfold aboveN
  rcases nearF_spec ((l.map (·.text)).filter (overB l t)) with ⟨h1, h2⟩ | ⟨u, h1, h2, h3⟩
  · rw [h1]
    refine .inr ⟨fun u hu => ?_, rfl⟩
    have := mem_over.2 hu
    rw [h2] at this
    cases this
  · rw [h1]
    exact .inl ⟨u, ⟨mem_over.1 h2, fun v hv => h3 v (mem_over.2 hv)⟩, rfl⟩
theorem above_one {l : List Rul} (h : RulesOK l) {t : ByteArray} {k : Int} (hk : KindIs l (overS l t) k) : aboveN l t = k :=
  kindIs_one (p := t) (fun u hu => ⟨h u hu.1, hu.2.2.2⟩) (above_spec l t) hk
theorem above_or (l : List Rul) (t : ByteArray) : aboveN l t = 1 ∨ aboveN l t = 2 := by
  rcases above_spec l t with ⟨u, ⟨h1, _⟩, h2⟩ | ⟨_, h2⟩
  · rw [h2]
    rcases kindN_or l u with h | h | h
    · exact absurd h h1.1
    · exact .inl h
    · exact .inr h
  · exact .inr h2
/-! ### rules in their form -/
/-- R is l in its form, in whatever order. -/
structure NormOf (l R : List Rul) : Prop where
  nd : R.Nodup
  mem : ∀ x, x ∈ R ↔ (x.kind = kindN l x.text ∧ kindN l x.text ≠ 0 ∧ kindN l x.text ≠ aboveN l x.text) ∨ (x.kind = 3 ∧ ∃ y ∈ l, y.kind = 3 ∧ y.text = x.text)
theorem norm_kind {l R : List Rul} (h : NormOf l R) (t : ByteArray) : kindN R t = if kindN l t ≠ 0 ∧ kindN l t ≠ aboveN l t then kindN l t else 0 := by
  have hin : ∀ x ∈ R, (x.kind = 1 ∨ x.kind = 2) → x.kind = kindN l x.text ∧ kindN l x.text ≠ 0 ∧ kindN l x.text ≠ aboveN l x.text := fun x hx hk => by
    rcases (h.mem x).1 hx with h1 | ⟨h1, _⟩
    · exact h1
    · omega
  split
  · rename_i hc
    have hx : (⟨kindN l t, t⟩ : Rul) ∈ R := (h.mem _).2 (.inl ⟨rfl, hc⟩)
    rcases kindN_or l t with h1 | h1 | h1
    · exact absurd h1 hc.1
    · have h2 : kindN R t ≠ 0 := kindN_has.2 ⟨_, hx, .inl h1, rfl⟩
      rcases kindN_or R t with h3 | h3 | h3
      · exact absurd h3 h2
      · rw [h1, h3]
      · obtain ⟨y, hy, e1, e2⟩ := kindN_two.1 h3
        have := (hin y hy (.inr e1)).1
        rw [e2] at this
        omega
    · rw [h1]
      exact kindN_two.2 ⟨_, hx, h1, rfl⟩
  · rename_i hc
    refine Classical.byContradiction fun h2 => hc ?_
    obtain ⟨y, hy, e1, e2⟩ := kindN_has.1 h2
    have := (hin y hy e1).2
    rw [e2] at this
    exact this
theorem norm_ok {l R : List Rul} (h : NormOf l R) (hl : RulesOK l) : RulesOK R := fun t ht => by
  rw [norm_kind h] at ht
  split at ht
  · rename_i hc
    exact hl t hc.1
  · exact absurd rfl ht
theorem over_split {l : List Rul} (hl : RulesOK l) {t u v : ByteArray} (hu : NearP (overS l t) u) : overS l t v ↔ v = u ∨ overS l u v := by
  obtain ⟨⟨a1, a2, a3, a4⟩, hm⟩ := hu
  constructor
  · rintro ⟨b1, b2, b3, b4⟩
    by_cases e : v = u
    · exact .inl e
    · have hlt := hm v ⟨b1, b2, b3, b4⟩
      refine .inr ⟨b1, e, fun hd => ?_, chain (hl u a1) b4 a4 hlt⟩
      have h1 : longG u = -1 := if_pos hd
      exact e ((longG_dot (by omega)).trans hd.symm)
  · rintro (rfl | ⟨b1, b2, b3, b4⟩)
    · exact ⟨a1, a2, a3, a4⟩
    · refine ⟨b1, fun e => ?_, a3, within_trans b3 a4 b4⟩
      rw [e] at b4
      have h1 := within_long a4 a2 a3
      have h2 := within_long b4 (fun e => a2 e.symm) b3
      omega
theorem norm_above {l R : List Rul} (h : NormOf l R) (hl : RulesOK l) : ∀ (n : Nat) (t : ByteArray), (longG t + 1).toNat ≤ n → aboveN R t = aboveN l t := by
  intro n
  induction n with
  | zero =>
    intro t ht
    have h1 := longG_ge t
    have hd := longG_dot (t := t) (by omega)
    have e : ∀ m : List Rul, ∀ u, ¬ overS m t u := fun m u hu => hu.2.2.1 hd
    rcases above_spec R t with ⟨u, ⟨hu, _⟩, _⟩ | ⟨_, h2⟩
    · exact absurd hu (e R u)
    · rcases above_spec l t with ⟨u, ⟨hu, _⟩, _⟩ | ⟨_, h3⟩
      · exact absurd hu (e l u)
      · rw [h2, h3]
  | succ n ih =>
    intro t ht
    have hRok := norm_ok h hl
    have hsub : ∀ u v, overS R u v → overS l u v := fun u v hv => by
      refine ⟨?_, hv.2⟩
      have := hv.1
      rw [norm_kind h] at this
      split at this
      · rename_i hc
        exact hc.1
      · exact absurd rfl this
    rcases above_spec l t with ⟨u, hu, hk⟩ | ⟨hno, hk⟩
    · have a1 := hu.1.1
      by_cases hkeep : kindN l u ≠ aboveN l u
      · have hru : kindN R u = kindN l u := by rw [norm_kind h, if_pos ⟨a1, hkeep⟩]
        rw [hk]
        refine above_one hRok (.inl ⟨u, ⟨⟨by rw [hru]; exact a1, hu.1.2⟩, fun v hv => hu.2 v (hsub t v hv)⟩, hru.symm⟩)
      · have hdrop := Classical.not_not.1 hkeep
        have hru : kindN R u = 0 := by rw [norm_kind h, if_neg (fun hc => hc.2 hdrop)]
        have hlt := within_long hu.1.2.2.2 hu.1.2.1 hu.1.2.2.1
        have hih := ih u (by have := longG_ge u; omega)
        rw [hk, hdrop, ← hih]
        refine above_one hRok (kindIs_same (fun v => ?_) (above_spec R u))
        constructor
        · intro hv
          exact ⟨hv.1, ((over_split hl hu).2 (.inr (hsub u v hv))).2⟩
        · intro hv
          rcases (over_split hl hu).1 (hsub t v hv) with e | h2
          · rw [e] at hv
            exact absurd hru hv.1
          · exact ⟨hv.1, h2.2⟩
    · rw [hk]
      exact above_one hRok (.inr ⟨fun u hu => hno u (hsub t u hu), rfl⟩)
theorem match_kind {l : List Rul} {p : ByteArray} (hl : RulesOK l) {k : Int} (hk : KindIs l (hasS l p) k) (d : Bool) :
    matchG l p d = (k == 1 && (d || !l.any (fun x => x.kind == 3) || l.any fun x => x.kind == 3 && decide (x.text = endG p))) := by
  have hS : ∀ u, hasS l p u → placeOK u ∧ withinG p u = true := fun u hu => ⟨hl u hu.1, hu.2⟩
  have hb := best_all p l
  unfold matchG
  revert hb
  cases bestG p l l.length with
  | none =>
    intro hb
    have h2 : KindIs l (hasS l p) 2 := .inr ⟨fun u hu => by
      obtain ⟨x, hx, h1, e⟩ := kindN_has.1 hu.1
      have h3 := hb x hx
      unfold saysG at h3
      rw [e, hu.2] at h3
      rcases h1 with h1 | h1 <;> rw [h1] at h3 <;> simp at h3, rfl⟩
    rw [kindIs_one hS hk h2]
    rfl
  | some y =>
    rintro ⟨h1, h2, h3⟩
    have hyk := says_kind h2
    have hyw : withinG p y.text = true := by
      unfold saysG at h2
      rw [Bool.and_eq_true] at h2
      exact h2.2
    have hky : kindN l y.text = y.kind := by
      rcases hyk with hy | hy
      · have h4 : kindN l y.text ≠ 0 := kindN_has.2 ⟨y, h1, .inl hy, rfl⟩
        rcases kindN_or l y.text with h5 | h5 | h5
        · exact absurd h5 h4
        · rw [h5, hy]
        · obtain ⟨x, hx, e1, e2⟩ := kindN_two.1 h5
          have h6 := (h3 x hx (by unfold saysG; rw [e2, hyw, e1]; rfl)).2 (by rw [e2]) e1
          omega
      · rw [hy]
        exact kindN_two.2 ⟨y, h1, hy, rfl⟩
    have h4 : KindIs l (hasS l p) y.kind := .inl ⟨y.text, ⟨⟨kindN_has.2 ⟨y, h1, hyk, rfl⟩, hyw⟩, fun u hu => by
      obtain ⟨x, hx, e1, e2⟩ := kindN_has.1 hu.1
      rw [← e2]
      refine (h3 x hx ?_).1
      unfold saysG
      rw [e2, hu.2]
      rcases e1 with e1 | e1 <;> rw [e1] <;> rfl⟩, hky.symm⟩
    rw [kindIs_one hS hk h4]
theorem has_some (l : List Rul) (p : ByteArray) : ∃ k, KindIs l (hasS l p) k := by
  rcases nearF_spec ((l.map (·.text)).filter fun u => !(kindN l u == 0) && withinG p u) with ⟨_, h2⟩ | ⟨u, _, h2, h3⟩
  · refine ⟨2, .inr ⟨fun u hu => ?_, rfl⟩⟩
    have : u ∈ (l.map (·.text)).filter fun u => !(kindN l u == 0) && withinG p u := by
      obtain ⟨x, hx, _, e⟩ := kindN_has.1 hu.1
      rw [List.mem_filter]
      refine ⟨List.mem_map.2 ⟨x, hx, e⟩, ?_⟩
      rw [hu.2, beq_eq_false_iff_ne.2 hu.1]
      rfl
    rw [h2] at this
    cases this
  · refine ⟨kindN l u, .inl ⟨u, ⟨?_, fun v hv => h3 v ?_⟩, rfl⟩⟩
    · have := (List.mem_filter.1 h2).2
      unfold hasS
      simpa using this
    · obtain ⟨x, hx, _, e⟩ := kindN_has.1 hv.1
      rw [List.mem_filter]
      refine ⟨List.mem_map.2 ⟨x, hx, e⟩, ?_⟩
      rw [hv.2, beq_eq_false_iff_ne.2 hv.1]
      rfl
theorem has_split {l : List Rul} (hl : RulesOK l) {p u v : ByteArray} (hu : NearP (hasS l p) u) : hasS l p v ↔ v = u ∨ overS l u v := by
  obtain ⟨⟨a1, a2⟩, hm⟩ := hu
  constructor
  · rintro ⟨b1, b2⟩
    by_cases e : v = u
    · exact .inl e
    · have hlt := hm v ⟨b1, b2⟩
      refine .inr ⟨b1, e, fun hd => ?_, chain (hl u a1) b2 a2 hlt⟩
      have h1 : longG u = -1 := if_pos hd
      exact e ((longG_dot (by omega)).trans hd.symm)
  · rintro (rfl | ⟨b1, b2, b3, b4⟩)
    · exact ⟨a1, a2⟩
    · exact ⟨b1, within_trans b3 a2 b4⟩
theorem norm_dec {l R : List Rul} (h : NormOf l R) (hl : RulesOK l) {p : ByteArray} {k : Int} (hk : KindIs l (hasS l p) k) : KindIs R (hasS R p) k := by
  have hsub : ∀ v, kindN R v ≠ 0 → kindN l v ≠ 0 := fun v hv => by
    rw [norm_kind h] at hv
    split at hv
    · rename_i hc
      exact hc.1
    · exact absurd rfl hv
  rcases hk with ⟨u, hu, hk⟩ | ⟨hno, hk⟩
  · have a1 := hu.1.1
    by_cases hkeep : kindN l u ≠ aboveN l u
    · have hru : kindN R u = kindN l u := by rw [norm_kind h, if_pos ⟨a1, hkeep⟩]
      exact .inl ⟨u, ⟨⟨by rw [hru]; exact a1, hu.1.2⟩, fun v hv => hu.2 v ⟨hsub v hv.1, hv.2⟩⟩, by rw [hk, hru]⟩
    · have hdrop := Classical.not_not.1 hkeep
      have hru : kindN R u = 0 := by rw [norm_kind h, if_neg (fun hc => hc.2 hdrop)]
      rw [hk, hdrop, ← norm_above h hl _ u (Nat.le_refl _)]
      refine kindIs_same (fun v => ?_) (above_spec R u)
      constructor
      · intro hv
        exact ⟨hv.1, ((has_split hl hu).2 (.inr ⟨hsub v hv.1, hv.2⟩)).2⟩
      · intro hv
        rcases (has_split hl hu).1 ⟨hsub v hv.1, hv.2⟩ with e | h2
        · rw [e] at hv
          exact absurd hru hv.1
        · exact ⟨hv.1, h2.2⟩
  · exact .inr ⟨fun u hu => hno u ⟨hsub u hu.1, hu.2⟩, hk⟩
theorem norm_types {l R : List Rul} (h : NormOf l R) (f : ByteArray → Bool) : (R.any fun x => x.kind == 3 && f x.text) = l.any fun x => x.kind == 3 && f x.text := by
  rw [Bool.eq_iff_iff, List.any_eq_true, List.any_eq_true]
  constructor
  · rintro ⟨x, hx, hf⟩
    rw [Bool.and_eq_true, beq_iff_eq] at hf
    rcases (h.mem x).1 hx with h1 | ⟨_, y, hy, e1, e2⟩
    · rcases kindN_or l x.text with h2 | h2 | h2 <;> omega
    · exact ⟨y, hy, by rw [Bool.and_eq_true, beq_iff_eq, e2]; exact ⟨e1, hf.2⟩⟩
  · rintro ⟨y, hy, hf⟩
    rw [Bool.and_eq_true, beq_iff_eq] at hf
    exact ⟨⟨3, y.text⟩, (h.mem _).2 (.inr ⟨rfl, y, hy, hf.1, rfl⟩), by rw [Bool.and_eq_true, beq_iff_eq]; exact ⟨rfl, hf.2⟩⟩
/-- **Rules in their form match the same.** -/
theorem norm_match {l R : List Rul} (h : NormOf l R) (hl : RulesOK l) (p : ByteArray) (d : Bool) : matchG R p d = matchG l p d := by
  obtain ⟨k, hk⟩ := has_some l p
  rw [match_kind hl hk, match_kind (norm_ok h hl) (norm_dec h hl hk)]
  have e1 := norm_types h (fun _ => true)
  have e2 := norm_types h (fun s => decide (s = endG p))
  simp only [Bool.and_true] at e1
  rw [e1, e2]
/-- **None of them can be left out.** -/
theorem norm_least {l R : List Rul} (h : NormOf l R) (hl : RulesOK l) {n : Nat} {x : Rul} (hx : R[n]? = some x) (hk : x.kind ≠ 3) (hd : x.text ≠ dotB) : matchG R x.text true ≠ matchG (R.take n ++ R.drop (n + 1)) x.text true := by
  have hRok := norm_ok h hl
  have hxm := List.mem_of_getElem? hx
  obtain ⟨hlt, hxe⟩ := List.getElem?_eq_some_iff.1 hx
  have hsplit : R = R.take n ++ x :: R.drop (n + 1) := by
    conv => lhs; rw [← List.take_append_drop n R, List.drop_eq_getElem_cons hlt, hxe]
  obtain ⟨M, hM⟩ : ∃ M, R.take n ++ R.drop (n + 1) = M := ⟨_, rfl⟩
  have hmem : ∀ y, y ∈ R ↔ y = x ∨ y ∈ M := fun y => by
    rw [← hM]
    conv => lhs; rw [hsplit]
    rw [List.mem_append, List.mem_cons, List.mem_append]
    constructor
    · rintro (h1 | h1 | h1)
      · exact .inr (.inl h1)
      · exact .inl h1
      · exact .inr (.inr h1)
    · rintro (h1 | h1 | h1)
      · exact .inr (.inl h1)
      · exact .inl h1
      · exact .inr (.inr h1)
  have hxM : x ∉ M := by
    have h1 := h.nd
    rw [hsplit, List.nodup_append] at h1
    obtain ⟨_, h2, h3⟩ := h1
    rw [← hM, List.mem_append]
    rintro (h4 | h4)
    · exact h3 x h4 x List.mem_cons_self rfl
    · exact (List.nodup_cons.1 h2).1 h4
  rw [hM]
  have hx12 : x.kind = kindN l x.text ∧ kindN l x.text ≠ 0 ∧ kindN l x.text ≠ aboveN l x.text := by
    rcases (h.mem x).1 hxm with h1 | ⟨h1, _⟩
    · exact h1
    · exact absurd h1 hk
  have hkx : kindN R x.text = x.kind := by rw [norm_kind h, if_pos hx12.2, hx12.1]
  have hx2 : x.kind = 1 ∨ x.kind = 2 := by
    rcases kindN_or l x.text with h1 | h1 | h1 <;> omega
  -- the same text, another rule: none
  have hone : ∀ y ∈ M, (y.kind = 1 ∨ y.kind = 2) → y.text ≠ x.text := fun y hy hyk e => by
    have hyR := (hmem y).2 (.inr hy)
    rcases (h.mem y).1 hyR with ⟨h1, _⟩ | ⟨h1, _⟩
    · rw [e, ← hx12.1] at h1
      exact hxM (by rw [← Rul.ext' h1 e]; exact hy)
    · omega
  have hkM : ∀ u, kindN M u = if u = x.text then 0 else kindN R u := fun u => by
    split
    · rename_i e
      refine Classical.byContradiction fun h2 => ?_
      obtain ⟨y, hy, e1, e2⟩ := kindN_has.1 h2
      exact hone y hy e1 (e2.trans e)
    · rename_i e
      rcases kindN_or R u with h1 | h1 | h1
      · rw [h1]
        refine Classical.byContradiction fun h2 => ?_
        obtain ⟨y, hy, e1, e2⟩ := kindN_has.1 h2
        exact absurd h1 (kindN_has.2 ⟨y, (hmem y).2 (.inr hy), e1, e2⟩)
      · rw [h1]
        have h2 : kindN R u ≠ 0 := by omega
        obtain ⟨y, hy, e1, e2⟩ := kindN_has.1 h2
        have hyM : y ∈ M := ((hmem y).1 hy).resolve_left (fun e3 => e (by rw [← e2, e3]))
        have h3 : kindN M u ≠ 0 := kindN_has.2 ⟨y, hyM, e1, e2⟩
        rcases kindN_or M u with h4 | h4 | h4
        · exact absurd h4 h3
        · exact h4
        · obtain ⟨z, hz, e3, e4⟩ := kindN_two.1 h4
          have := kindN_two.2 ⟨z, (hmem z).2 (.inr hz), e3, e4⟩
          omega
      · rw [h1]
        obtain ⟨y, hy, e1, e2⟩ := kindN_two.1 h1
        have hyM : y ∈ M := ((hmem y).1 hy).resolve_left (fun e3 => e (by rw [← e2, e3]))
        exact kindN_two.2 ⟨y, hyM, e1, e2⟩
  have hMok : RulesOK M := fun u hu => by
    rw [hkM] at hu
    split at hu
    · exact absurd rfl hu
    · exact hRok u hu
  have k1 : KindIs R (hasS R x.text) x.kind := .inl ⟨x.text, ⟨⟨by rw [hkx]; omega, within_self _⟩, fun u hu => by
    by_cases e : u = x.text
    · rw [e]
      exact Int.le_refl _
    · have := within_long hu.2 e hd
      omega⟩, hkx.symm⟩
  have k2 : KindIs M (hasS M x.text) (aboveN l x.text) := by
    rw [← norm_above h hl _ x.text (Nat.le_refl _)]
    have hiff : ∀ u, overS R x.text u ↔ hasS M x.text u := fun u => by
      constructor
      · rintro ⟨b1, b2, _, b4⟩
        exact ⟨by rw [hkM, if_neg b2]; exact b1, b4⟩
      · rintro ⟨b1, b2⟩
        rw [hkM] at b1
        split at b1
        · exact absurd rfl b1
        · rename_i e
          exact ⟨b1, e, hd, b2⟩
    rcases above_spec R x.text with ⟨u, ⟨h1, h2⟩, h3⟩ | ⟨h1, h2⟩
    · refine .inl ⟨u, ⟨(hiff u).1 h1, fun v hv => h2 v ((hiff v).2 hv)⟩, ?_⟩
      rw [h3, hkM, if_neg h1.2.1]
    · exact .inr ⟨fun u hu => h1 u ((hiff u).2 hu), h2⟩
  rw [match_kind hRok k1, match_kind hMok k2]
  simp only [Bool.true_or, Bool.and_true]
  intro e
  have h5 := above_or l x.text
  rw [hx12.1] at e
  rcases hx2 with h6 | h6 <;> rw [hx12.1] at h6 <;> rcases h5 with h7 | h7 <;> rw [h6, h7] at e
  · exact hx12.2.2 (by rw [h6, h7])
  · exact absurd e (by decide)
  · exact absurd e (by decide)
  · exact hx12.2.2 (by rw [h6, h7])
end Go.Proofs.YteeaaphpahnjcaaGreatDoor

namespace Go.Proofs.YteeaaphpahnjcaaGreatDoor
open Go Go.RowKit Go.Lib
theorem nlength_any (s : ByteArray) (w : World) : Calls Tryz.prog 46 #[.string s] w fun e w' => e = .returned (.int .i64 (longG s)) ∧ w = w' := by
  by_cases h : s = ⟨#[46]⟩
  · have hq : (s.toList == [46]) = true := by rw [h, toList_data]; rfl
    have Hr := Lib.hid (show longG s = -1 from if_pos h)
    clear h
    go_enter Tryz.func46, Tryz.ntmps46
    go_wp2_with fail
    go_ret
    exact ⟨by rw [Hr.out]; rfl, rfl⟩
  · have hq : (s.toList == [46]) = false := beq_eq_false_iff_ne.2 (fun e => h (toList_inj.1 (e.trans (by rw [toList_data]))))
    have Hr := Lib.hid (show longG s = (s.size : Int) from if_neg h)
    clear h
    go_enter Tryz.func46, Tryz.ntmps46
    go_wp2_with fail
    go_ret
    exact ⟨by rw [Hr.out]; rfl, rfl⟩
/-- The first one that is not nought. -/
def orG (a b : Int) : Int := if a = 0 then b else a
theorem or_any (g : Nat) (a b : Int) (w : World) (h0 : w.cell? ⟨g, 0, none⟩ = some (.int .i64 a)) (h1 : w.cell? ⟨g, 1, none⟩ = some (.int .i64 b)) :
    Calls Tryz.prog 44 #[.slice (some ⟨g, 0, none⟩) 2 2] w fun e w' => e = .returned (.int .i64 (orG a b)) ∧ w = w' := by
  by_cases ha : a = 0
  · have Hr := Lib.hid (show orG a b = b from if_pos ha)
    have qa : (a != 0) = false := by rw [ha]; rfl
    subst ha
    by_cases hb : b = 0
    · have qb : (b != 0) = false := by rw [hb]; rfl
      have Hb := Lib.hid hb
      clear hb
      go_enter Tryz.func44, Tryz.ntmps44
      go_wp2_with fail
      refine wp_loop_rounds 3 ?_
      rw [rounds_succ]
      go_wp2_with fail
      rw [rounds_succ]
      go_wp2_with fail
      rw [rounds_succ]
      go_wp2_with fail
      go_ret
      exact ⟨by rw [Hr.out, Hb.out]; rfl, rfl⟩
    · have qb : (b != 0) = true := bne_iff_ne.2 hb
      clear hb
      go_enter Tryz.func44, Tryz.ntmps44
      go_wp2_with fail
      refine wp_loop_rounds 2 ?_
      rw [rounds_succ]
      go_wp2_with fail
      rw [rounds_succ]
      go_wp2_with fail
      go_ret
      exact ⟨by rw [Hr.out]; rfl, rfl⟩
  · have Hr := Lib.hid (show orG a b = a from if_neg ha)
    have qa : (a != 0) = true := bne_iff_ne.2 ha
    clear ha
    go_enter Tryz.func44, Tryz.ntmps44
    go_wp2_with fail
    refine wp_loop_rounds 1 ?_
    rw [rounds_succ]
    go_wp2_with fail
    go_ret
    exact ⟨by rw [Hr.out]; rfl, rfl⟩
/-! ### the order -/
def dotL (x : List UInt8) : Int := if x = [46] then -1 else 0
def cmpL (x y : List UInt8) : Int := if Op.bytesLess x y then -1 else if x == y then 0 else 1
def risL (x y : List UInt8) : Int := orG (Lib.compareInt (dotL x) (dotL y)) (cmpL x y)
theorem bytesL_lt : ∀ x y : List UInt8, Op.bytesLess x y = decide (x < y)
  | [], [] => by simp [Op.bytesLess]
  | _ :: _, [] => by simp [Op.bytesLess]
  | [], _ :: _ => by simp [Op.bytesLess]
  | a :: x, b :: y => by
    rw [Op.bytesLess, bytesL_lt x y]
    simp only [List.cons_lt_cons_iff]
    by_cases h1 : a < b <;> by_cases h2 : a = b <;> by_cases h3 : x < y <;> simp [h1, h2, h3]
theorem ris_lt (x y : List UInt8) : ltOf risL x y = decide (dotL x < dotL y ∨ (dotL x = dotL y ∧ x < y)) := by
  unfold ltOf risL orG Lib.compareInt cmpL
  rw [bytesL_lt]
  by_cases h1 : dotL x < dotL y
  · simp [h1]
  · by_cases h2 : dotL y < dotL x
    · have h3 : ¬ dotL x = dotL y := by omega
      simp [h1, h2, h3]
    · have h3 : dotL x = dotL y := by omega
      by_cases h4 : x < y
      · simp [h3, h4]
      · by_cases h5 : x = y
        · subst h5
          simp [List.lt_irrefl]
        · simp [h3, h4, h5]
theorem ris_swo : «Sort».SWO (ltOf risL) where
  irrefl x := by
    rw [ris_lt]
    simp [List.lt_irrefl]
  trans x y z h1 h2 := by
    rw [ris_lt, decide_eq_true_eq] at *
    rcases h1 with h1 | ⟨h1, h3⟩ <;> rcases h2 with h2 | ⟨h2, h4⟩
    · exact .inl (by omega)
    · exact .inl (by omega)
    · exact .inl (by omega)
    · exact .inr ⟨by omega, List.lt_trans h3 h4⟩
  ntrans x y z h1 h2 := by
    rw [ris_lt, decide_eq_false_iff_not] at *
    rintro (h | ⟨h, h3⟩)
    · exact (Int.lt_trichotomy (dotL x) (dotL y)).elim (fun a => h1 (.inl a)) (fun a => a.elim (fun a => h2 (.inl (by omega))) (fun a => h2 (.inl (by omega))))
    · have e1 : ¬ dotL x < dotL y := fun a => h1 (.inl a)
      have e2 : ¬ dotL y < dotL z := fun a => h2 (.inl a)
      have e3 : dotL x = dotL y := by omega
      have e4 : dotL y = dotL z := by omega
      have h4 : ¬ x < y := fun a => h1 (.inr ⟨e3, a⟩)
      have h5 : ¬ y < z := fun a => h2 (.inr ⟨e4, a⟩)
      rw [List.not_lt] at h4 h5
      exact absurd h3 (List.not_lt.2 (List.le_trans h5 h4))
theorem ris_total (x y : List UInt8) (h1 : ltOf risL x y = false) (h2 : ltOf risL y x = false) : x = y := by
  rw [ris_lt, decide_eq_false_iff_not] at *
  have e1 : ¬ dotL x < dotL y := fun a => h1 (.inl a)
  have e2 : ¬ dotL y < dotL x := fun a => h2 (.inl a)
  have e3 : dotL x = dotL y := by omega
  have h4 : ¬ x < y := fun a => h1 (.inr ⟨e3, a⟩)
  have h5 : ¬ y < x := fun a => h2 (.inr ⟨e3.symm, a⟩)
  rw [List.not_lt] at h4 h5
  exact List.le_antisymm h5 h4
theorem dot_min (s : ByteArray) : (if longG s < 0 then longG s else 0) = dotL s.data.toList := by
  unfold dotL longG
  by_cases h : s = ⟨#[46]⟩
  · subst h
    rfl
  · have h2 : ¬ s.data.toList = [46] := fun e => h (ba_same e)
    rw [if_neg h, if_neg h2, if_neg (by omega)]
theorem cmp_list (x y : ByteArray) : cmpB x y = cmpL x.data.toList y.data.toList := by
  unfold cmpB cmpL
  rw [toList_data, toList_data]
set_option maxHeartbeats 800000 in
theorem rising_any (x y : ByteArray) (W : World) : Calls Tryz.prog 26 #[.string x, .string y] W fun e w' => e = .returned (.int .i64 (risL x.data.toList y.data.toList)) ∧ ∃ q os', w' = «Sort».grow (W.drewN q) os' := by
  have H1 := Lib.hid fun W => nlength_any x W
  have H2 := Lib.hid fun W => nlength_any y W
  have H3 := Lib.hid fun a b W => Tryz.cmp_Compare_int a b W
  have H4 := Lib.hid fun W => compare_any x y W
  have m1 : min (longG x) 0 = dotL x.data.toList := by rw [← dot_min]; split <;> omega
  have m2 : min (longG y) 0 = dotL y.data.toList := by rw [← dot_min]; split <;> omega
  have HR := Lib.hid (show risL x.data.toList y.data.toList = orG (Lib.compareInt (dotL x.data.toList) (dotL y.data.toList)) (cmpL x.data.toList y.data.toList) from rfl)
  rw [cmp_list] at H4
  generalize dotL x.data.toList = a at *
  generalize dotL y.data.toList = b at *
  generalize cmpL x.data.toList y.data.toList = c at *
  have H3' := Lib.hid fun W => H3.out a b W
  generalize Lib.compareInt a b = d at *
  go_enter Tryz.func26, Tryz.ntmps26
  go_wp2_with fail
  refine (H1.out _).mono ?_
  rintro e w1 ⟨rfl, rfl⟩
  go_wp2_with fail
  refine (H2.out _).mono ?_
  rintro e w1 ⟨rfl, rfl⟩
  go_wp2_with fail
  refine (H3'.out _).mono ?_
  rintro e w1 ⟨rfl, rfl⟩
  go_wp2_with fail
  refine (H4.out _).mono ?_
  rintro e w2 ⟨rfl, rfl⟩
  go_wp2_with fail
  refine (or_any _ d c _ (cells_new _ _ _ 0 _ rfl) (cells_new _ _ _ 1 _ rfl)).mono ?_
  rintro e w2 ⟨rfl, rfl⟩
  go_wp2_with fail
  go_ret
  refine ⟨by rw [HR.out]; rfl, 0, #[.cells #[.int .i64 d, .int .i64 c] 3], ?_⟩
  rw [World.drewN_zero, «Sort».alloc_eq_grow]
end Go.Proofs.YteeaaphpahnjcaaGreatDoor

namespace Go.Proofs.YteeaaphpahnjcaaGreatDoor
open Go Go.RowKit Go.Lib Go.Sort Go.Shelf
theorem ris_lays (blk off size : Nat) (w : World) : CmpLays1 Tryz.prog 26 #[] encStr risL blk off size w := fun m os dk _ x y =>
  rising_any ⟨x.toArray⟩ ⟨y.toArray⟩ (sortWorld encStr w blk off m dk os)
theorem encStr_one : OneCell encStr := fun _ => rfl
/-- slices.SortFunc at a slice of the call's own. -/
theorem nsort_any (base : Nat) (v : Value) (ss : List (List UInt8)) (W : World) (h : W.ownsRow base 9 1 v ss.length (ss.map encStr)) (hl : ss.length ≤ 100000) (hB : base ≤ W.heap.size) :
    Calls Tryz.prog 42 #[v, .func (.func 26) #[] #[]] W fun e w' => e = .returned (.tuple #[]) ∧ ∃ ts : List (List UInt8), ts.Perm ss ∧ w'.ownsRow base 9 1 v ts.length (ts.map encStr) ∧ Below base W w' := by
  rcases h.2 with ⟨rfl, hz⟩ | ⟨gb, cap, cur, rfl, hbase, hgb, r1, r2, r3, r4⟩
  · have hss : ss = [] := List.eq_nil_of_length_eq_zero hz
    subst hss
    refine (AnyF.slices_SortFunc_none { Tryz.sortA with } none 0 (.func (.func 26) #[] #[]) W).mono ?_
    rintro e w' ⟨rfl, rfl⟩
    exact ⟨rfl, [], List.Perm.refl _, h, Below.refl _ _⟩
  · have hH : Holds encStr W gb 0 ss.toArray := holds_of_block hgb (by simpa using r4)
    have hgl : gb < W.heap.size := (Array.getElem?_eq_some_iff.1 hgb).1
    have hsz : ss.toArray.size < 4611686018427387904 := by simp; omega
    have hcon := Any.slices_SortFunc_total Tryz.sortA encStr encStr_one risL ris_swo 26 #[] gb 0 cap ss.toArray W (enters_of Tryz.func26 (by kernel_rfl) rfl) (ris_lays _ _ _ _) hH hgl hsz ris_total
    change Calls Tryz.prog 42 _ _ _ at hcon
    have hsize : ss.toArray.size = ss.length := by simp
    rw [hsize] at hcon
    refine hcon.mono ?_
    rintro e w' ⟨rfl, n, os, rfl⟩
    have hp := List.mergeSort_perm ss (fun x y => !ltOf risL y x)
    refine ⟨rfl, ss.mergeSort fun x y => !ltOf risL y x, hp, ?_, (Below.refl _ _).grown (grownBy_sorted _) hB (fun j hj => by cases hj; exact hbase)⟩
    rw [hp.length_eq]
    exact ownsRow_sorted (by rw [hp.length_eq]) hbase hgb r1 r2 r3
theorem nkeysA (mb : Nat) (W : World) : Calls Tryz.prog 25 #[.map (some mb)] W fun e w' => e = .returned (.func (.func 43) #[] #[.pointer (some ⟨W.heap.size, 0, none⟩)]) ∧ W.alloc (.cells #[.map (some mb)] 46) = w' :=
  ((callsIn_wide (n := 5)).1 (AnyZ.keys_in Tryz.keysA Fence.wide 5 trivial rfl (some mb) W)).mono fun _ _ h => ⟨h.1, h.2.symm⟩
set_option maxHeartbeats 1000000 in
theorem ncollA (mb : Nat) (es : List (ByteArray × Int)) (W : World) (h : MapK intV Tryz.prog 9 W mb es) (hl : es.length ≤ 1000) :
    Calls Tryz.prog 41 #[.func (.func 43) #[] #[.pointer (some ⟨W.heap.size, 0, none⟩)]] (W.alloc (.cells #[.map (some mb)] 46)) fun e w' => ∃ (v : Value) (ss : List (List UInt8)), e = .returned v ∧ ss.Perm (es.map pK) ∧ w'.ownsRow (W.alloc (.cells #[.map (some mb)] 46)).heap.size 9 1 v ss.length (ss.map encStr) ∧ Below (W.alloc (.cells #[.map (some mb)] 46)).heap.size (W.alloc (.cells #[.map (some mb)] 46)) w' := by
  have hown : W.ownsMap Tryz.prog 9 intV.row mb es.length (datK intV es) := h
  have hbl := h.lt
  have hsz := datK_size intV es
  have hseq : SeqGives Fence.wide 3 Tryz.prog 43 #[.pointer (some ⟨W.heap.size, 0, none⟩)] encStr (fun ss => ss.Perm (strKeys (datK intV es))) (Go.Maps.size (datK intV es)) (W.alloc (.cells #[.map (some mb)] 46)) :=
    AnyZ.keys_gives (ρ := Tryz.keysA_ren) { Tryz.keysA with } Fence.wide _ trivial rfl (by omega) W.heap.size mb es.length (datK intV es) _ (by simp) (by simp) (by
      obtain ⟨es', clock, hb, Ft, hs, hD⟩ := hown
      exact ⟨es', clock, (Below.heap_alloc _ _ mb hbl).trans hb, Ft, hs, hD⟩)
  have cS := AnyZ.collect_in Tryz.collA Fence.wide 5 trivial trivial rfl (by omega) 43 #[.pointer (some ⟨W.heap.size, 0, none⟩)] trivial (enters_of Tryz.func43 (by kernel_rfl) rfl) (fun ss => ss.Perm (strKeys (datK intV es))) (Go.Maps.size (datK intV es)) (by unfold maxLen; omega) (by omega) (W.alloc (.cells #[.map (some mb)] 46)) hseq
  change CallsIn _ _ Tryz.prog 41 _ _ _ at cS
  refine ((callsIn_wide (n := 5)).1 cS).mono ?_
  rintro e w' ⟨v, ss, rfl, hS, hrow, hnil, hb⟩
  rw [datK_keys] at hS
  exact ⟨v, ss, rfl, hS, hrow, hb⟩
set_option maxHeartbeats 1000000 in
/-- The keys, in order. -/
theorem nsortedA (mb : Nat) (es : List (ByteArray × Int)) (W : World) (h : MapK intV Tryz.prog 9 W mb es) (hl : es.length ≤ 1000) :
    Calls Tryz.prog 24 #[.func (.func 43) #[] #[.pointer (some ⟨W.heap.size, 0, none⟩)], .func (.func 26) #[] #[]] (W.alloc (.cells #[.map (some mb)] 46)) fun e w' => ∃ (v : Value) (ps : List ByteArray), e = .returned v ∧ ps.Perm (es.map (·.1)) ∧ OwnRows strLay w' W.heap.size 9 v ps ∧ Below W.heap.size W w' := by
  have HC := Lib.hid (ncollA mb es W h hl)
  have HS := Lib.hid fun v ss W' B h1 h2 h3 => nsort_any B v ss W' h1 h2 h3
  have hbA := (Below.refl W.heap.size W).alloc (Nat.le_refl _) (.cells #[.map (some mb)] 46)
  clear h
  go_enter Tryz.func24, Tryz.ntmps24
  go_wp2_with fail
  refine HC.out.mono ?_
  rintro e w1 ⟨v, ss, rfl, hp, hrow, hb1⟩
  have hlen : ss.length ≤ 1000 := by rw [hp.length_eq, List.length_map]; exact hl
  have HS1 := Lib.hid (HS.out v ss w1 _ hrow (by omega) hb1.size)
  clear hrow
  go_wp2_with fail
  refine HS1.out.mono ?_
  rintro e w2 ⟨rfl, ts, hts, hrow2, hb2⟩
  go_wp2_with fail
  go_ret
  refine ⟨v, ts.map (fun s => (⟨s.toArray⟩ : ByteArray)), rfl, keys_back (hts.trans hp), ?_, hbA.trans ((hb1.trans hb2).mono (by simp))⟩
  have h2 : OwnRows strLay w2 (W.alloc (.cells #[.map (some mb)] 46)).heap.size 9 v (ts.map (fun s => (⟨s.toArray⟩ : ByteArray))) := by
    unfold OwnRows
    rw [flat_strs, List.map_map, List.length_map]
    exact hrow2
  exact h2.lower (by simp)
theorem nkeysB (mb : Nat) (W : World) : Calls Tryz.prog 28 #[.map (some mb)] W fun e w' => e = .returned (.func (.func 48) #[] #[.pointer (some ⟨W.heap.size, 0, none⟩)]) ∧ W.alloc (.cells #[.map (some mb)] 47) = w' :=
  ((callsIn_wide (n := 5)).1 (AnyZ.keys_in Tryz.keysB Fence.wide 5 trivial rfl (some mb) W)).mono fun _ _ h => ⟨h.1, h.2.symm⟩
set_option maxHeartbeats 1000000 in
theorem ncollB (mb : Nat) (es : List (ByteArray × Bool)) (W : World) (h : MapK boolV Tryz.prog 9 W mb es) (hl : es.length ≤ 1000) :
    Calls Tryz.prog 41 #[.func (.func 48) #[] #[.pointer (some ⟨W.heap.size, 0, none⟩)]] (W.alloc (.cells #[.map (some mb)] 47)) fun e w' => ∃ (v : Value) (ss : List (List UInt8)), e = .returned v ∧ ss.Perm (es.map pK) ∧ w'.ownsRow (W.alloc (.cells #[.map (some mb)] 47)).heap.size 9 1 v ss.length (ss.map encStr) ∧ Below (W.alloc (.cells #[.map (some mb)] 47)).heap.size (W.alloc (.cells #[.map (some mb)] 47)) w' := by
  have hown : W.ownsMap Tryz.prog 9 boolV.row mb es.length (datK boolV es) := h
  have hbl := h.lt
  have hsz := datK_size boolV es
  have hseq : SeqGives Fence.wide 3 Tryz.prog 48 #[.pointer (some ⟨W.heap.size, 0, none⟩)] encStr (fun ss => ss.Perm (strKeys (datK boolV es))) (Go.Maps.size (datK boolV es)) (W.alloc (.cells #[.map (some mb)] 47)) :=
    AnyZ.keys_gives (ρ := Tryz.keysB_ren) { Tryz.keysB with } Fence.wide _ trivial rfl (by omega) W.heap.size mb es.length (datK boolV es) _ (by simp) (by simp) (by
      obtain ⟨es', clock, hb, Ft, hs, hD⟩ := hown
      exact ⟨es', clock, (Below.heap_alloc _ _ mb hbl).trans hb, Ft, hs, hD⟩)
  have cS := AnyZ.collect_in Tryz.collA Fence.wide 5 trivial trivial rfl (by omega) 48 #[.pointer (some ⟨W.heap.size, 0, none⟩)] trivial (enters_of Tryz.func48 (by kernel_rfl) rfl) (fun ss => ss.Perm (strKeys (datK boolV es))) (Go.Maps.size (datK boolV es)) (by unfold maxLen; omega) (by omega) (W.alloc (.cells #[.map (some mb)] 47)) hseq
  change CallsIn _ _ Tryz.prog 41 _ _ _ at cS
  refine ((callsIn_wide (n := 5)).1 cS).mono ?_
  rintro e w' ⟨v, ss, rfl, hS, hrow, hnil, hb⟩
  rw [datK_keys] at hS
  exact ⟨v, ss, rfl, hS, hrow, hb⟩
set_option maxHeartbeats 1000000 in
/-- The keys, in order. -/
theorem nsortedB (mb : Nat) (es : List (ByteArray × Bool)) (W : World) (h : MapK boolV Tryz.prog 9 W mb es) (hl : es.length ≤ 1000) :
    Calls Tryz.prog 24 #[.func (.func 48) #[] #[.pointer (some ⟨W.heap.size, 0, none⟩)], .func (.func 26) #[] #[]] (W.alloc (.cells #[.map (some mb)] 47)) fun e w' => ∃ (v : Value) (ps : List ByteArray), e = .returned v ∧ ps.Perm (es.map (·.1)) ∧ OwnRows strLay w' W.heap.size 9 v ps ∧ Below W.heap.size W w' := by
  have HC := Lib.hid (ncollB mb es W h hl)
  have HS := Lib.hid fun v ss W' B h1 h2 h3 => nsort_any B v ss W' h1 h2 h3
  have hbA := (Below.refl W.heap.size W).alloc (Nat.le_refl _) (.cells #[.map (some mb)] 47)
  clear h
  go_enter Tryz.func24, Tryz.ntmps24
  go_wp2_with fail
  refine HC.out.mono ?_
  rintro e w1 ⟨v, ss, rfl, hp, hrow, hb1⟩
  have hlen : ss.length ≤ 1000 := by rw [hp.length_eq, List.length_map]; exact hl
  have HS1 := Lib.hid (HS.out v ss w1 _ hrow (by omega) hb1.size)
  clear hrow
  go_wp2_with fail
  refine HS1.out.mono ?_
  rintro e w2 ⟨rfl, ts, hts, hrow2, hb2⟩
  go_wp2_with fail
  go_ret
  refine ⟨v, ts.map (fun s => (⟨s.toArray⟩ : ByteArray)), rfl, keys_back (hts.trans hp), ?_, hbA.trans ((hb1.trans hb2).mono (by simp))⟩
  have h2 : OwnRows strLay w2 (W.alloc (.cells #[.map (some mb)] 47)).heap.size 9 v (ts.map (fun s => (⟨s.toArray⟩ : ByteArray))) := by
    unfold OwnRows
    rw [flat_strs, List.map_map, List.length_map]
    exact hrow2
  exact h2.lower (by simp)
end Go.Proofs.YteeaaphpahnjcaaGreatDoor

namespace Go.Proofs.YteeaaphpahnjcaaGreatDoor
open Go Go.RowKit Go.Lib
theorem nkeyL : Go.Maps.Keyed Tryz.prog 9 := Go.Maps.string_keyed Tryz.underlying9
/-- What a map of kinds holds of rules. -/
def KindsAt (es : List (ByteArray × Int)) (l : List Rul) : Prop := ∀ u, findK es u = if kindN l u = 0 then none else some (kindN l u)
def overT (t u : ByteArray) : Bool := !decide (u = t) && !decide (t = dotB) && withinG t u
def nearK (t : ByteArray) (all : List (List UInt8)) : Option ByteArray := nearF ((all.map ba).filter (overT t))
theorem nearK_snoc (t : ByteArray) (all : List (List UInt8)) (x : List UInt8) : nearK t (all ++ [x]) = if overT t (ba x) then nearStep (nearK t all) (ba x) else nearK t all := by
  unfold nearK nearF
  rw [List.map_append, List.filter_append, List.foldl_append]
  cases h : overT t (ba x) with
  | true => simp [h]
  | false => simp [h]
theorem nkey_in {es : List (ByteArray × Int)} {x : List UInt8} {y : DataW Unit} (h : ∀ zd, (datK intV es).atKey (.string x) zd = y) : (findK es (ba x)).isSome = true := by
  have h1 := h (.lit (.bool true))
  have h2 := h (.lit (.bool false))
  rw [show (Lit.string x) = .string (ba x).data.toList from rfl, datK_at] at h1 h2
  cases hf : findK es (ba x) with
  | some e => rfl
  | none =>
    rw [hf] at h1 h2
    rw [← h2] at h1
    cases h1
/-- What is found is the nearest place's. -/
theorem near_above {es : List (ByteArray × Int)} {l : List Rul} (hk : KindsAt es l) (hl : RulesOK l) {t : ByteArray} {all : List (List UInt8)} (hp : all.Perm (es.map pK)) :
    match nearK t all with
    | none => aboveN l t = 2
    | some u => findK es u = some (aboveN l t) := by
  have hm : ∀ u, u ∈ (all.map ba).filter (overT t) ↔ overS l t u := fun u => by
    have h1 : u ∈ all.map ba ↔ kindN l u ≠ 0 := by
      have h0 : (all.map ba).Perm (es.map (·.1)) := keys_back hp
      rw [h0.mem_iff, mem_keysK, hk u]
      split
      · rename_i h
        simp [h]
      · rename_i h
        simp [h]
    rw [List.mem_filter, h1]
    unfold overT overS
    simp [and_assoc]
  unfold nearK
  rcases nearF_spec ((all.map ba).filter (overT t)) with ⟨h1, h2⟩ | ⟨u, h1, h2, h3⟩
  · rw [h1]
    refine above_one hl (.inr ⟨fun u hu => ?_, rfl⟩)
    have := (hm u).2 hu
    rw [h2] at this
    cases this
  · rw [h1]
    have h4 := (hm u).1 h2
    have h5 : aboveN l t = kindN l u := above_one hl (.inl ⟨u, ⟨h4, fun v hv => h3 v ((hm v).2 hv)⟩, rfl⟩)
    show findK es u = _
    rw [hk u, if_neg h4.1, h5]
set_option maxRecDepth 100000 in
set_option maxHeartbeats 3200000 in
theorem nabove_any (mb : Nat) (es : List (ByteArray × Int)) (l : List Rul) (t : ByteArray) (w : World) (h : MapK intV Tryz.prog 9 w mb es) (hk : KindsAt es l) (hok : RulesOK l) (hz : ∀ u, (findK es u).isSome = true → u.size ≤ 100000) :
    Calls Tryz.prog 27 #[.map (some mb), .string t] w fun e w' => e = .returned (.int .i64 (aboveN l t)) ∧ Below w.heap.size w w' := by
  have hown : w.ownsMap Tryz.prog 9 intV.row mb es.length (datK intV es) := h
  have hbl := h.lt
  have hdsz := datK_size intV es
  have HM := Lib.hid h
  have HZ := Lib.hid hz
  have HN := Lib.hid fun (all : List (List UInt8)) (hp : all.Perm (es.map pK)) => near_above (t := t) hk hok hp
  have HW := Lib.hid fun (u : ByteArray) (hu : u.size ≤ 100000) W => within_any t u W (by omega)
  have HL := Lib.hid fun u W => nlength_any u W
  clear hk hok hz
  go_enter Tryz.func27, Tryz.ntmps27
  go_wp2_with (at_range; refine wpList_range_own _ rfl _ 46 rfl 9 3 nkeyL Tryz.underlying46 _ mb _ _ rfl hown ?_; intro w0 hrg0 hg0 hs0)
  go_frame
  go_loopw [5, 6] (fun bs fd wr => ∃ (left : Lit → Bool) (cnt : Nat) (all : List (List UInt8)), wr.ranges Tryz.prog 9 intV.row mb w.heap.size es.length (datK intV es) left cnt ∧ all.length + cnt ≤ Go.Maps.size (datK intV es) ∧
      bs = .string ((nearK t all).getD ⟨#[]⟩) ∧ fd = .bool (nearK t all).isSome ∧ Hid (Collected (datK intV es) left all) ∧ Below w.heap.size w wr)
    (fun _ _ wr => wr.rangeLeft mb w.heap.size)
  case atStart =>
    exact ⟨_, _, [], hrg0, by simp, rfl, rfl, Lib.hid (Collected.start _), (Below.refl _ _).grown hg0 (Nat.le_refl _) (fun j hj => by cases hj)⟩
  case round =>
    obtain ⟨left, cnt, all, hrg, hcs, rfl, rfl, HC, hnx⟩ := hrel
    go_wp2_with (at_next; refine wpList_next_ranges _ rfl _ rfl 9 nkeyL intV.row Value.string (Value.int .i64) (fun key kl hk => by obtain ⟨x, hx, _⟩ := Go.Maps.keyOf_str Tryz.underlying9 hk; exact ⟨ba x, hx⟩) (fun v y hv => by obtain ⟨c, rfl, _⟩ := rowInt_inv _ _ hv; exact ⟨c, rfl⟩) mb w.heap.size es.length _ _ _ rfl hrg ?_ ?_)
    · intro hc0 hl0
      have hperm : all.Perm (es.map pK) := by
        rw [← datK_keys intV]
        exact HC.out.perm hown nkeyL Tryz.underlying9 hl0
      have hne := HN.out all hperm
      clear hperm
      obtain ⟨r, hr⟩ : ∃ r, nearK t all = r := ⟨_, rfl⟩
      rw [hr] at hne ⊢
      clear hr
      have hM9 := HM.out.keeps hnx hbl
      cases r with
      | none =>
        have Hne := Lib.hid (show aboveN l t = 2 from hne)
        clear hne
        simp only [Option.isSome_none, Option.getD_none]
        go_wp2_with fail
        go_ret
        exact ⟨by rw [Hne.out]; rfl, hnx⟩
      | some u =>
        have hne2 : findK es u = some (aboveN l t) := hne
        have hus := HZ.out u (by rw [hne2]; rfl)
        have hlk := MapK.look1 (t := 46) hM9 nkeyL Tryz.underlying9 Tryz.underlying46 (zeroInt wr) (p := u) (by unfold maxLen; omega)
        rw [hne2] at hlk
        replace hlk : (Instr.lookup 46 (.map (some mb)) (.string u) false).run Tryz.prog wr = .ok (.int .i64 (aboveN l t)) wr := hlk
        clear hne hne2
        simp only [Option.isSome_some, Option.getD_some]
        go_wp2_with fail
        go_ret
        exact ⟨rfl, hnx⟩
    · intro q0 c kl yd yp w2 cnt2 hkey hlk hv hat hrg2 hlt hg2 hs2 hen
      obtain ⟨x, ex, rfl, _⟩ := Go.Maps.keyOf_str Tryz.underlying9 hkey
      obtain rfl : q0 = ba x := Value.string.inj ex
      have hqs := HZ.out (ba x) (nkey_in hat)
      have HC2 := Lib.hid (HC.out.step hlk hat)
      have hnx2 := hnx.grown hg2 hnx.size (fun j hj => by cases hj; exact Nat.le_refl _)
      have hen2 : (Instr.entry (.pointer (some ⟨w.heap.size, 0, none⟩))).run Tryz.prog w2 = .ok (.tuple #[.string (ba x), .int .i64 c]) w2 := hen
      have Hsn := Lib.hid (nearK_snoc t all x)
      have Hcs2 := Lib.hid (show (all ++ [x]).length + cnt2 ≤ Go.Maps.size (datK intV es) by rw [List.length_append]; simp only [List.length_cons, List.length_nil]; omega)
      clear hs2 hkey ex hen hat hv
      obtain ⟨q, hq⟩ : ∃ q, ba x = q := ⟨_, rfl⟩
      rw [hq] at hen2 hqs Hsn
      rw [hq]
      clear hq
      obtain ⟨r, hr⟩ : ∃ r, nearK t all = r := ⟨_, rfl⟩
      rw [hr] at Hsn ⊢
      clear hr
      have hov : overT t q = (!decide (q = t) && !decide (t = dotB) && withinG t q) := rfl
      by_cases h1 : q = t
      · have e1 := str_eq h1
        have Ho := Lib.hid (show nearK t (all ++ [x]) = r by rw [Hsn.out, hov, decide_eq_true h1]; rfl)
        clear h1 hov Hsn
        go_wp2_with fail
        go_roundw
        case rel => exact ⟨_, cnt2, all ++ [x], hrg2, Hcs2.out, by rw [Ho.out], by rw [Ho.out], HC2, hnx2⟩
        case measure => rw [hrg2.left_eq, hrg.left_eq]; exact hlt
      · have e1 := str_ne h1
        rw [decide_eq_false h1] at hov
        clear h1
        by_cases h2 : t = dotB
        · have e2 : (t.toList == [46]) = true := by rw [h2, dotB, toList_data]; rfl
          have Ho := Lib.hid (show nearK t (all ++ [x]) = r by rw [Hsn.out, hov, decide_eq_true h2]; rfl)
          clear h2 hov Hsn
          go_wp2_with fail
          go_roundw
          case rel => exact ⟨_, cnt2, all ++ [x], hrg2, Hcs2.out, by rw [Ho.out], by rw [Ho.out], HC2, hnx2⟩
          case measure => rw [hrg2.left_eq, hrg.left_eq]; exact hlt
        · have e2 : (t.toList == [46]) = false := beq_eq_false_iff_ne.2 (fun e => h2 (toList_inj.1 (e.trans (by rw [dotB, toList_data]))))
          rw [decide_eq_false h2] at hov
          clear h2
          have HW2 := Lib.hid fun W => HW.out q hqs W
          obtain ⟨wv, hwv⟩ : ∃ wv, withinG t q = wv := ⟨_, rfl⟩
          rw [hwv] at HW2 hov
          clear hwv
          cases wv with
          | false =>
            have Ho := Lib.hid (show nearK t (all ++ [x]) = r by rw [Hsn.out, hov]; rfl)
            clear hov Hsn
            go_wp2_with fail
            refine (HW2.out _).mono ?_
            rintro e w9 ⟨rfl, rfl⟩
            go_wp2_with fail
            go_roundw
            case rel => exact ⟨_, cnt2, all ++ [x], hrg2, Hcs2.out, by rw [Ho.out], by rw [Ho.out], HC2, hnx2⟩
            case measure => rw [hrg2.left_eq, hrg.left_eq]; exact hlt
          | true =>
            have Ho := Lib.hid (show nearK t (all ++ [x]) = nearStep r q by rw [Hsn.out, hov]; rfl)
            clear hov Hsn
            cases r with
            | none =>
              have Ho2 := Lib.hid (show nearK t (all ++ [x]) = some q from Ho.out)
              simp only [Option.isSome_none, Option.getD_none]
              go_wp2_with fail
              refine (HW2.out _).mono ?_
              rintro e w9 ⟨rfl, rfl⟩
              go_wp2_with fail
              go_roundw
              case rel => exact ⟨_, cnt2, all ++ [x], hrg2, Hcs2.out, by rw [Ho2.out]; rfl, by rw [Ho2.out]; rfl, HC2, hnx2⟩
              case measure => rw [hrg2.left_eq, hrg.left_eq]; exact hlt
            | some v =>
              have HLq := Lib.hid fun W => nlength_any q W
              have HLv := Lib.hid fun W => nlength_any v W
              simp only [Option.isSome_some, Option.getD_some]
              by_cases hlv : longG v < longG q
              · have g1 : decide (longG q > longG v) = true := decide_eq_true hlv
                have g2 : decide (longG v < longG q) = true := decide_eq_true hlv
                have Ho2 := Lib.hid (show nearK t (all ++ [x]) = some q by rw [Ho.out]; exact if_pos hlv)
                clear hlv
                go_wp2_with fail
                refine (HW2.out _).mono ?_
                rintro e w9 ⟨rfl, rfl⟩
                go_wp2_with fail
                refine (HLq.out _).mono ?_
                rintro e w9 ⟨rfl, rfl⟩
                go_wp2_with fail
                refine (HLv.out _).mono ?_
                rintro e w9 ⟨rfl, rfl⟩
                go_wp2_with fail
                go_roundw
                case rel => exact ⟨_, cnt2, all ++ [x], hrg2, Hcs2.out, by rw [Ho2.out]; rfl, by rw [Ho2.out]; rfl, HC2, hnx2⟩
                case measure => rw [hrg2.left_eq, hrg.left_eq]; exact hlt
              · have g1 : decide (longG q > longG v) = false := decide_eq_false hlv
                have g2 : decide (longG v < longG q) = false := decide_eq_false hlv
                have Ho2 := Lib.hid (show nearK t (all ++ [x]) = some v by rw [Ho.out]; exact if_neg hlv)
                clear hlv
                go_wp2_with fail
                refine (HW2.out _).mono ?_
                rintro e w9 ⟨rfl, rfl⟩
                go_wp2_with fail
                refine (HLq.out _).mono ?_
                rintro e w9 ⟨rfl, rfl⟩
                go_wp2_with fail
                refine (HLv.out _).mono ?_
                rintro e w9 ⟨rfl, rfl⟩
                go_wp2_with fail
                go_roundw
                case rel => exact ⟨_, cnt2, all ++ [x], hrg2, Hcs2.out, by rw [Ho2.out]; rfl, by rw [Ho2.out]; rfl, HC2, hnx2⟩
                case measure => rw [hrg2.left_eq, hrg.left_eq]; exact hlt
end Go.Proofs.YteeaaphpahnjcaaGreatDoor

namespace Go.Proofs.YteeaaphpahnjcaaGreatDoor
open Go Go.RowKit Go.Lib
section
variable {P : Program}
theorem wpK_update_run {ops : Array Oper} {rest : List Oper} {o : Oper} {a : Act} {w : World} {Q : Exit → Act → World → Prop} (hg : o.guard = none) (m x v : Operand) (t : TypeId) (hop : o.op = Op.mapUpdate t m x v)
    (mv kv vv : Value) (hm : a.eval m = mv) (hx : a.eval x = kv) (hv : a.eval v = vv) {w' : World} (hr : (Instr.mapUpdate t mv kv vv).run P w = .ok () w') (hK : wpList P ops Q rest (a.put o.dst undef) w') :
    wpList P ops Q (o :: rest) a w := by
  refine wpList_plain hg fun K' hK' => ?_
  unfold Oper.wp
  simp [execOp, hop, hm, hx, hv, hr, Result.andThen]
  exact hK' _ _ hK
end
theorem kindN_nil (u : ByteArray) : kindN [] u = 0 := rfl
theorem kindN_snoc (l : List Rul) (x : Rul) (u : ByteArray) : kindN (l ++ [x]) u = if (x.kind = 1 ∨ x.kind = 2) ∧ x.text = u then max (kindN l u) x.kind else kindN l u := by
  have h2 : kindN (l ++ [x]) u = 2 ↔ kindN l u = 2 ∨ (x.kind = 2 ∧ x.text = u) := by
    rw [kindN_two, kindN_two]
    constructor
    · rintro ⟨y, hy, e⟩
      rcases List.mem_append.1 hy with hy | hy
      · exact .inl ⟨y, hy, e⟩
      · rw [List.mem_singleton.1 hy] at e
        exact .inr e
    · rintro (⟨y, hy, e⟩ | e)
      · exact ⟨y, List.mem_append_left _ hy, e⟩
      · exact ⟨x, by simp, e⟩
  have h0 : kindN (l ++ [x]) u ≠ 0 ↔ kindN l u ≠ 0 ∨ ((x.kind = 1 ∨ x.kind = 2) ∧ x.text = u) := by
    rw [kindN_has, kindN_has]
    constructor
    · rintro ⟨y, hy, e⟩
      rcases List.mem_append.1 hy with hy | hy
      · exact .inl ⟨y, hy, e⟩
      · rw [List.mem_singleton.1 hy] at e
        exact .inr e
    · rintro (⟨y, hy, e⟩ | e)
      · exact ⟨y, List.mem_append_left _ hy, e⟩
      · exact ⟨x, by simp, e⟩
  have k1 := kindN_or l u
  have k2 := kindN_or (l ++ [x]) u
  split
  · rename_i h
    have a1 := h0.2 (.inr h)
    rcases h.1 with hx | hx
    · rw [hx]
      by_cases hl : kindN l u = 2
      · rw [h2.2 (.inl hl), hl]
        rfl
      · have : ¬ kindN (l ++ [x]) u = 2 := fun e => by
          rcases h2.1 e with e | e
          · exact hl e
          · omega
        omega
    · rw [hx, h2.2 (.inr ⟨hx, h.2⟩)]
      omega
  · rename_i h
    by_cases hl : kindN l u = 2
    · rw [h2.2 (.inl hl), hl]
    · have a1 : ¬ kindN (l ++ [x]) u = 2 := fun e => by
        rcases h2.1 e with e | e
        · exact hl e
        · exact h ⟨.inr e.1, e.2⟩
      by_cases hl0 : kindN l u = 0
      · have : ¬ kindN (l ++ [x]) u ≠ 0 := fun e => by
          rcases h0.1 e with e | e
          · exact e hl0
          · exact h e
        omega
      · have := h0.2 (.inl hl0)
        omega
/-- Which types a map holds. -/
def hasType (l : List Rul) (u : ByteArray) : Bool := l.any fun x => x.kind == 3 && decide (x.text = u)
def TypesAt (es : List (ByteArray × Bool)) (l : List Rul) : Prop := ∀ u, (findK es u).isSome = hasType l u
theorem hasType_snoc (l : List Rul) (x : Rul) (u : ByteArray) : hasType (l ++ [x]) u = (hasType l u || (x.kind == 3 && decide (x.text = u))) := by
  unfold hasType
  rw [List.any_append]
  simp
theorem hasType_iff {l : List Rul} {u : ByteArray} : hasType l u = true ↔ ∃ y ∈ l, y.kind = 3 ∧ y.text = u := by
  unfold hasType
  rw [List.any_eq_true]
  simp
theorem kinds_step {es : List (ByteArray × Int)} {l : List Rul} {x : Rul} (h : KindsAt es l) (hn : (es.map (·.1)).Nodup) (hx : x.kind = 1 ∨ x.kind = 2) : KindsAt (putK es x.text (max (kindN l x.text) x.kind)) (l ++ [x]) := by
  intro u
  have e1 := kindN_snoc l x u
  have k1 := kindN_or l x.text
  rw [findK_put hn]
  by_cases e : u = x.text
  · subst e
    rw [if_pos ⟨hx, rfl⟩] at e1
    rw [if_pos rfl, e1, if_neg (by omega)]
  · rw [if_neg (fun h2 => e h2.2.symm)] at e1
    rw [if_neg e, e1]
    exact h u
theorem kinds_stay {es : List (ByteArray × Int)} {l : List Rul} {x : Rul} (h : KindsAt es l) (hx : ¬ (x.kind = 1 ∨ x.kind = 2)) : KindsAt es (l ++ [x]) := by
  intro u
  have e1 := kindN_snoc l x u
  rw [if_neg (fun h2 => hx h2.1)] at e1
  rw [e1]
  exact h u
theorem types_step {es : List (ByteArray × Bool)} {l : List Rul} {x : Rul} (h : TypesAt es l) (hn : (es.map (·.1)).Nodup) (hx : x.kind = 3) : TypesAt (putK es x.text true) (l ++ [x]) := by
  intro u
  rw [findK_put hn, hasType_snoc, hx]
  by_cases e : u = x.text
  · subst e
    rw [if_pos rfl]
    simp
  · rw [if_neg e, h u, decide_eq_false (fun e2 => e e2.symm)]
    simp
theorem types_stay {es : List (ByteArray × Bool)} {l : List Rul} {x : Rul} (h : TypesAt es l) (hx : ¬ x.kind = 3) : TypesAt es (l ++ [x]) := by
  intro u
  rw [hasType_snoc, beq_eq_false_iff_ne.2 hx, Bool.false_and, Bool.or_false]
  exact h u
/-! ### what is handed back -/
def keepB (l : List Rul) (u : ByteArray) : Bool := !(kindN l u == aboveN l u)
def outK (l : List Rul) (ps : List ByteArray) : List Rul := (ps.filter (keepB l)).map fun u => ⟨kindN l u, u⟩
def outT (qs : List ByteArray) : List Rul := qs.map fun u => ⟨3, u⟩
theorem outK_step {l : List Rul} {ps : List ByteArray} {k : Nat} {p : ByteArray} (h : ps[k]? = some p) : outK l (ps.take (k + 1)) = outK l (ps.take k) ++ if keepB l p then [⟨kindN l p, p⟩] else [] := by
  unfold outK
  rw [List.take_add_one, h, Option.toList_some, List.filter_append, List.map_append]
  cases hk : keepB l p <;> simp [hk]
theorem outT_step {qs : List ByteArray} {k : Nat} {q : ByteArray} (h : qs[k]? = some q) : outT (qs.take (k + 1)) = outT (qs.take k) ++ [⟨3, q⟩] := by
  unfold outT
  rw [List.take_add_one, h, Option.toList_some, List.map_append]
  rfl
theorem form_of {l : List Rul} {es : List (ByteArray × Int)} {ts : List (ByteArray × Bool)} (hk : KindsAt es l) (ht : TypesAt ts l) (hn : (es.map (·.1)).Nodup) (hm : (ts.map (·.1)).Nodup) {ps qs : List ByteArray} (hp : ps.Perm (es.map (·.1))) (hq : qs.Perm (ts.map (·.1))) :
    NormOf l (outK l ps ++ outT qs) := by
  have hps : ps.Nodup := hp.nodup_iff.2 hn
  have hqs : qs.Nodup := hq.nodup_iff.2 hm
  have hmp : ∀ u, u ∈ ps ↔ kindN l u ≠ 0 := fun u => by
    rw [hp.mem_iff, mem_keysK, hk u]
    split
    · rename_i h
      simp [h]
    · rename_i h
      simp [h]
  have hmq : ∀ u, u ∈ qs ↔ hasType l u = true := fun u => by rw [hq.mem_iff, mem_keysK, ht u]
  constructor
  · rw [List.nodup_append]
    refine ⟨?_, ?_, ?_⟩
    · unfold outK List.Nodup
      rw [List.pairwise_map]
      exact (List.Pairwise.filter _ hps).imp fun h e => h (Rul.mk.inj e).2
    · unfold outT List.Nodup
      rw [List.pairwise_map]
      exact hqs.imp fun h e => h (Rul.mk.inj e).2
    · intro a ha b hb e
      unfold outK at ha
      unfold outT at hb
      obtain ⟨u, _, rfl⟩ := List.mem_map.1 ha
      obtain ⟨v, _, rfl⟩ := List.mem_map.1 hb
      have h1 := (Rul.mk.inj e).1
      have h2 := kindN_or l u
      omega
  · intro x
    rw [List.mem_append]
    unfold outK outT
    constructor
    · rintro (h | h)
      · obtain ⟨u, hu, rfl⟩ := List.mem_map.1 h
        obtain ⟨h1, h2⟩ := List.mem_filter.1 hu
        refine .inl ⟨rfl, (hmp u).1 h1, ?_⟩
        unfold keepB at h2
        simpa using h2
      · obtain ⟨u, hu, rfl⟩ := List.mem_map.1 h
        exact .inr ⟨rfl, hasType_iff.1 ((hmq u).1 hu)⟩
    · rintro (⟨h1, h2, h3⟩ | ⟨h1, h2⟩)
      · refine .inl (List.mem_map.2 ⟨x.text, List.mem_filter.2 ⟨(hmp _).2 h2, ?_⟩, Rul.ext' h1.symm rfl⟩)
        unfold keepB
        simpa using h3
      · exact .inr (List.mem_map.2 ⟨x.text, (hmq _).2 (hasType_iff.2 h2), Rul.ext' h1.symm rfl⟩)
set_option maxRecDepth 100000 in
set_option maxHeartbeats 6400000 in
theorem norm_any (a : Option Addr) (cap : Nat) (l : List Rul) (w : World) (hl : l.length ≤ 1000) (ha : RowsAt rulLay w a l) (hok : RulesOK l) (hsz : ∀ x ∈ l, x.text.size ≤ 100000) :
    Calls Tryz.prog 10 #[.slice a l.length cap] w fun e w' => ∃ (v : Value) (R : List Rul), e = .returned v ∧ OwnRows rulLay w' w.heap.size 29 v R ∧ NormOf l R ∧ R.length ≤ 2 * l.length ∧ (∀ x ∈ R, x.text.size ≤ 100000) ∧ Below w.heap.size w w' := by
  have hmm := @run_makeMap Tryz.prog
  obtain ⟨i0, hi, hz0, hz1, hz2⟩ := info_parts rulInfo
  have Hi := Lib.hid hi
  have Hz0 := Lib.hid hz0
  have Hz1 := Lib.hid hz1
  have Hz2 := Lib.hid hz2
  have HA := Lib.hid fun W (h : Below w.heap.size w W) => ha.keeps h
  have Hok := Lib.hid hok
  have Hsz := Lib.hid hsz
  have hK0 : MapK intV Tryz.prog 9 (w.alloc (.map #[] 0)) w.heap.size [] := MapK.made w
  have hT0 : MapK boolV Tryz.prog 9 ((w.alloc (.map #[] 0)).alloc (.map #[] 0)) (w.alloc (.map #[] 0)).heap.size [] := MapK.made _
  have hK1 := hK0.keeps ((Below.refl _ _).alloc (Nat.le_refl _) (.map #[] 0)) hK0.lt
  have hb0 := ((Below.refl w.heap.size w).alloc (Nat.le_refl _) (.map #[] 0)).alloc (by simp) (.map #[] 0)
  rw [show (w.alloc (.map #[] 0)).heap.size = w.heap.size + 1 by simp] at hT0
  clear hi hz0 hz1 hz2 ha hok hsz hK0
  go_enter Tryz.func10, Tryz.ntmps10
  go_wp2_with fail
  go_loopw [16] (fun i wr => ∃ (k : Nat) (es : List (ByteArray × Int)) (ts : List (ByteArray × Bool)), k ≤ l.length ∧ i = .int .i64 k ∧ MapK intV Tryz.prog 9 wr w.heap.size es ∧ MapK boolV Tryz.prog 9 wr (w.heap.size + 1) ts ∧ Hid (KindsAt es (l.take k) ∧ TypesAt ts (l.take k) ∧ (es.map (·.1)).Nodup ∧ (ts.map (·.1)).Nodup) ∧ es.length ≤ k ∧ ts.length ≤ k ∧ Below w.heap.size w wr) (fun i _ => l.length - (RowKit.intOf i).toNat)
  case atStart => exact ⟨0, [], [], Nat.zero_le _, rfl, hK1, hT0, Lib.hid ⟨fun u => rfl, fun u => rfl, List.nodup_nil, List.nodup_nil⟩, Nat.le_refl _, Nat.le_refl _, hb0⟩
  case round =>
    obtain ⟨k, es, ts, hk, rfl, hK, hT, HC, hle, hlt', hb⟩ := hrel
    by_cases hlt : k < l.length
    · obtain ⟨x, hx⟩ := at_some hlt
      obtain ⟨b, off, hae, hbl, c0, c1⟩ := rul_at (HA.out wr hb) hx
      subst hae
      have hlti : (k : Int) < (l.length : Int) := by omega
      have hlt0 : (0 : Int) ≤ (k : Int) := by omega
      have hxs := Hsz.out x (List.mem_of_getElem? hx)
      have htk : l.take (k + 1) = l.take k ++ [x] := by rw [List.take_add_one, hx, Option.toList_some]
      have Htk := Lib.hid htk
      have hg1 := World.grownBy_alloc wr (.cells #[.int .i64 x.kind, .string x.text] 29) none
      have hK1 := hK.grown hg1 (by simp)
      have hT1 := hT.grown hg1 (by simp)
      have hbA := hb.alloc hb.size (.cells #[.int .i64 x.kind, .string x.text] 29)
      have hb1 : w.heap.size + 1 < wr.heap.size := hT.lt
      clear hx htk
      by_cases h12 : x.kind = 1 ∨ x.kind = 2
      · have hkb : (x.kind == 1) = true ∨ ((x.kind == 1) = false ∧ (x.kind == 2) = true) := by
          rcases h12 with h | h <;> simp [h]
        have h3b : (x.kind == 3) = false := beq_eq_false_iff_ne.2 (by omega)
        have hlk := MapK.look1 (t := 46) hK1 nkeyL Tryz.underlying9 Tryz.underlying46 (zeroInt _) (p := x.text) (by unfold maxLen; omega)
        have hfk : (findK es x.text).getD 0 = kindN (l.take k) x.text := by
          rw [HC.out.1 x.text]
          split
          · rename_i h
            rw [h]
            rfl
          · rfl
        rw [hfk] at hlk
        have Hst := Lib.hid (kinds_step HC.out.1 HC.out.2.2.1 h12)
        obtain ⟨k0, hk0⟩ : ∃ k0, kindN (l.take k) x.text = k0 := ⟨_, rfl⟩
        rw [hk0] at hlk Hst
        replace hlk : (Instr.lookup 46 (.map (some w.heap.size)) (.string x.text) false).run Tryz.prog (wr.alloc (.cells #[.int .i64 x.kind, .string x.text] 29)) = .ok (.int .i64 k0) (wr.alloc (.cells #[.int .i64 x.kind, .string x.text] 29)) := hlk
        obtain ⟨w2, hrun, hK2, hg2⟩ := MapK.put (t := 46) hK1 nkeyL Tryz.underlying9 Tryz.underlying46 x.text (max k0 x.kind) (by unfold maxLen; omega) (by unfold maxLen; omega)
        have hT2 := hT1.grown hg2 (by simp)
        have hb2 := hbA.grown hg2 (by simp; omega) (fun j e => by cases e; exact Nat.le_refl _)
        have Hnt := Lib.hid (types_stay (x := x) HC.out.2.1 (by omega))
        have hlp := lenK_put es x.text (max k0 x.kind)
        have Hnd := Lib.hid (keysK_put es x.text (max k0 x.kind) HC.out.2.2.1)
        clear h12 hfk hk0 hg1 hg2 hT1
        rcases hkb with hkb | ⟨hkb, hkb2⟩
        all_goals
          go_wp2_with (at_mapUpdate; refine wpK_update_run rfl _ _ _ 46 rfl _ _ _ rfl rfl rfl hrun ?_)
          go_roundw
          case rel => exact ⟨k + 1, _, ts, by omega, by go_num, hK2, hT2, Lib.hid (by rw [Htk.out]; exact ⟨Hst.out, Hnt.out, Hnd.out, HC.out.2.2.2⟩), by omega, by omega, hb2⟩
          case measure => simp [RowKit.intOf]; omega
      · have hkb : (x.kind == 1) = false := beq_eq_false_iff_ne.2 (by omega)
        have hkb2 : (x.kind == 2) = false := beq_eq_false_iff_ne.2 (by omega)
        have Hst := Lib.hid (kinds_stay (x := x) HC.out.1 h12)
        by_cases h3 : x.kind = 3
        · have h3b : (x.kind == 3) = true := beq_iff_eq.2 h3
          obtain ⟨w2, hrun, hT2, hg2⟩ := MapK.put (t := 47) hT1 nkeyL Tryz.underlying9 Tryz.underlying47 x.text true (by unfold maxLen; omega) (by unfold maxLen; omega)
          have hK2 := hK1.grown hg2 (by simp)
          have hb2 := hbA.grown hg2 (by simp; omega) (fun j e => by cases e; omega)
          have Hnt := Lib.hid (types_step HC.out.2.1 HC.out.2.2.2 h3)
          have hlp := lenK_put ts x.text true
          have Hnd := Lib.hid (keysK_put ts x.text true HC.out.2.2.2)
          clear h12 h3 hg1 hg2 hK1
          go_wp2_with (at_mapUpdate; refine wpK_update_run rfl _ _ _ 47 rfl _ _ _ rfl rfl rfl hrun ?_)
          go_roundw
          case rel => exact ⟨k + 1, es, _, by omega, by go_num, hK2, hT2, Lib.hid (by rw [Htk.out]; exact ⟨Hst.out, Hnt.out, HC.out.2.2.1, Hnd.out⟩), by omega, by omega, hb2⟩
          case measure => simp [RowKit.intOf]; omega
        · have h3b : (x.kind == 3) = false := beq_eq_false_iff_ne.2 h3
          have Hnt := Lib.hid (types_stay (x := x) HC.out.2.1 h3)
          clear h12 h3 hg1
          go_wp2_with fail
          go_roundw
          case rel => exact ⟨k + 1, es, ts, by omega, by go_num, hK1, hT1, Lib.hid (by rw [Htk.out]; exact ⟨Hst.out, Hnt.out, HC.out.2.2.1, HC.out.2.2.2⟩), by omega, by omega, hbA⟩
          case measure => simp [RowKit.intOf]; omega
    · obtain rfl : k = l.length := by omega
      rw [List.take_length] at HC
      obtain ⟨wo, hwo⟩ : ∃ wo, wo = wr := ⟨_, rfl⟩
      subst hwo
      have HKY := Lib.hid (nkeysA w.heap.size wo)
      have HSO := Lib.hid (nsortedA w.heap.size es wo hK (by omega))
      have hbk := hK.lt
      have hbt := hT.lt
      have HKm := Lib.hid fun W (h : Below wo.heap.size wo W) => hK.keeps h hbk
      have HTm := Lib.hid fun W (h : Below wo.heap.size wo W) => hT.keeps h hbt
      clear hK hT hK1 hT0
      go_wp2_with fail
      refine HKY.out.mono ?_
      rintro e w2 ⟨rfl, rfl⟩
      go_wp2_with fail
      refine HSO.out.mono ?_
      rintro e w2 ⟨v1, ps, rfl, hps, hop, hb2⟩
      obtain ⟨pa, pc, rfl, hrp, _⟩ := hop.read
      have hpl : ps.length ≤ l.length := by rw [hps.length_eq, List.length_map]; omega
      have hpz : ∀ p ∈ ps, p.size ≤ 100000 ∧ findK es p = some (kindN l p) := fun p hp => by
        have h1 : (findK es p).isSome = true := by rw [← mem_keysK]; exact hps.mem_iff.1 hp
        have h2 := HC.out.1 p
        by_cases h0 : kindN l p = 0
        · rw [h2, if_pos h0] at h1
          cases h1
        · rw [if_neg h0] at h2
          obtain ⟨y, hy, _, e⟩ := kindN_has.1 h0
          refine ⟨?_, h2⟩
          rw [← e]
          exact Hsz.out y hy
      have Hpz := Lib.hid hpz
      have HP := Lib.hid fun W (h : Below w2.heap.size w2 W) => hrp.keeps h
      have Hps := Lib.hid hps
      have hzs : ∀ u, (findK es u).isSome = true → u.size ≤ 100000 := fun u hu => by
        rw [← mem_keysK, ← hps.mem_iff] at hu
        exact (hpz u hu).1
      have HAb := Lib.hid fun W (h : Below wo.heap.size wo W) (p : ByteArray) => nabove_any w.heap.size es l p W (HKm.out W h) HC.out.1 Hok.out hzs
      clear hps hpz hop hrp hzs HSO HKY
      go_wp2_with fail
      go_loopw [7, 45] (fun o i wq => ∃ j : Nat, j ≤ ps.length ∧ i = .int .i64 j ∧ OwnRows rulLay wq w2.heap.size 29 o (outK l (ps.take j)) ∧ Below w2.heap.size w2 wq) (fun _ i _ => ps.length - (RowKit.intOf i).toNat)
      case atStart => exact ⟨0, Nat.zero_le _, rfl, OwnRows.nil _ _ _ _, Below.refl _ _⟩
      case round =>
        obtain ⟨j, hj, rfl, ho, hb3⟩ := hrel
        have hb23 := hb2.trans (hb3.mono hb2.size)
        by_cases hjt : j < ps.length
        · obtain ⟨p, hp⟩ := at_some hjt
          obtain ⟨b, off, hae, hbl, c0⟩ := str_at (HP.out wr hb3) hp
          cases hae
          have hjti : (j : Int) < (ps.length : Int) := by omega
          have hjt0 : (0 : Int) ≤ (j : Int) := by omega
          obtain ⟨hpz, hfp⟩ := Hpz.out p (List.mem_of_getElem? hp)
          have hst := outK_step (l := l) hp
          have hlk : ∀ (dq : Nat) (osq : Array Obj), (Instr.lookup 46 (.map (some w.heap.size)) (.string p) false).run Tryz.prog («Sort».grow (redrawn wr dq) osq) = .ok (.int .i64 (kindN l p)) («Sort».grow (redrawn wr dq) osq) := fun dq osq => by
            have h := MapK.look1 (t := 46) (HKm.out _ (hb23.trans ((below_regrown wr dq osq).mono hb23.size))) nkeyL Tryz.underlying9 Tryz.underlying46 (zeroInt _) (p := p) (by unfold maxLen; omega)
            rw [hfp] at h
            exact h
          have HAq := Lib.hid fun (dq : Nat) (osq : Array Obj) => HAb.out («Sort».grow (redrawn wr dq) osq) (hb23.trans ((below_regrown wr dq osq).mono hb23.size)) p
          have hol : (outK l (ps.take j)).length ≤ 1000 := by
            unfold outK
            rw [List.length_map]
            have h1 := List.length_filter_le (keepB l) (ps.take j)
            rw [List.length_take] at h1
            omega
          have hkb : keepB l p = !(kindN l p == aboveN l p) := rfl
          obtain ⟨kp, hkp⟩ : ∃ kp, kindN l p = kp := ⟨_, rfl⟩
          obtain ⟨ap, hap⟩ : ∃ ap, aboveN l p = ap := ⟨_, rfl⟩
          rw [hkp, hap] at hkb
          rw [hkp] at hlk hst
          rw [hap] at HAq
          rw [hkb] at hst
          have Hst := Lib.hid hst
          clear hp hfp hst hkb hkp hap
          by_cases hka : kp = ap
          · have g1 : (kp == ap) = true := beq_iff_eq.2 hka
            have g2 : (kp != ap) = false := by rw [bne, g1]; rfl
            have Hs2 := Lib.hid (show outK l (ps.take (j + 1)) = outK l (ps.take j) by rw [Hst.out, g1]; simp)
            clear hka
            go_wp2_with fail
            refine wp_region_quiet_below (by kernel_rfl) (by kernel_rfl) ?_
            repeat (go_big_quiet_step (exact Calls.regrown_of (HAq.out _ _)))
            refine wpQuiet_nil ?_
            intro _ hw'
            obtain ⟨⟨dq, osq⟩, hw''⟩ := hw'
            subst hw''
            have hbq := below_regrown wr dq osq
            go_wp2_with fail
            go_roundw
            case rel => exact ⟨j + 1, by omega, by go_num, by rw [Hs2.out]; exact ho.below hbq, hb3.trans (hbq.mono hb3.size)⟩
            case measure => simp [RowKit.intOf]; omega
          · have g1 : (kp == ap) = false := beq_eq_false_iff_ne.2 hka
            have g2 : (kp != ap) = true := by rw [bne, g1]; rfl
            have Hs2 := Lib.hid (show outK l (ps.take (j + 1)) = outK l (ps.take j) ++ [⟨kp, p⟩] by rw [Hst.out, g1]; simp)
            clear hka
            go_wp2_with fail
            refine wp_region_quiet_below (by kernel_rfl) (by kernel_rfl) ?_
            repeat (go_big_quiet_step (exact Calls.regrown_of (HAq.out _ _)))
            refine wpQuiet_nil ?_
            intro _ hw'
            obtain ⟨⟨dq, osq⟩, hw''⟩ := hw'
            subst hw''
            have hbq := below_regrown wr dq osq
            have hlk1 := hlk dq osq
            clear hlk
            obtain ⟨wv, hwv⟩ : ∃ wv, wv = «Sort».grow (redrawn wr dq) osq := ⟨_, rfl⟩
            rw [← hwv] at hbq hlk1 ⊢
            clear hwv
            have ho4 := ho.below hbq
            have hb34 := hb3.trans (hbq.mono hb3.size)
            go_wp2_with (at_builtin; refine wpList_append_rows _ rfl _ _ 22 rfl rulLay w2.heap.size 29 i0 _ 24 Tryz.underlying22 Hi.out Hz0.out Hz1.out Hz2.out rfl (by decide) _ _ rfl (ho4.alloc _) ⟨wv.heap.size, 0, none⟩ 1 ⟨kp, p⟩ rfl (cells_new_at wv wv.heap.size #[.int .i64 kp, .string p] 29 rfl) (by unfold maxLen; omega) (by omega) (by have := hb34.size; simp; omega) ?_)
            intro va w5 ho5 hg5 _
            have hb5 := (hb34.alloc hb34.size (.cells #[.int .i64 kp, .string p] 29)).grown hg5 (by have := hb34.size; simp; omega) (fun j ej => (ho4.lt ej).1)
            clear hg5 ho4 ho
            go_wp2_with fail
            go_roundw
            case rel => exact ⟨j + 1, by omega, by go_num, by rw [Hs2.out]; exact ho5, hb5⟩
            case measure => simp [RowKit.intOf]; omega
        · obtain rfl : j = ps.length := by omega
          rw [List.take_length] at ho
          obtain ⟨wx, hwx⟩ : ∃ wx, wx = wr := ⟨_, rfl⟩
          subst hwx
          have HKY := Lib.hid (nkeysB (w.heap.size + 1) wx)
          have HSO := Lib.hid (nsortedB (w.heap.size + 1) ts wx (HTm.out wx hb23) (by omega))
          go_wp2_with fail
          refine HKY.out.mono ?_
          rintro e w6 ⟨rfl, rfl⟩
          go_wp2_with fail
          refine HSO.out.mono ?_
          rintro e w6 ⟨v2, qs, rfl, hqs, hoq, hb6⟩
          have hne : v2.ownBlock = none ∨ v2.ownBlock ≠ u7.ownBlock := by
            cases h2 : v2.ownBlock with
            | none => exact .inl rfl
            | some g =>
              refine .inr fun e => ?_
              have h3 := hoq.lt h2
              have h4 := ho.lt e.symm
              omega
          have ho6 := ho.below hb6
          have hb36 := hb3.trans (hb6.mono hb3.size)
          have hql : qs.length ≤ l.length := by rw [hqs.length_eq, List.length_map]; omega
          have hqz : ∀ q ∈ qs, q.size ≤ 100000 := fun q hq => by
            have h1 : (findK ts q).isSome = true := by rw [← mem_keysK]; exact hqs.mem_iff.1 hq
            rw [HC.out.2.1 q, hasType_iff] at h1
            obtain ⟨y, hy, _, e⟩ := h1
            rw [← e]
            exact Hsz.out y hy
          have Hqz := Lib.hid hqz
          have HF := Lib.hid (form_of HC.out.1 HC.out.2.1 HC.out.2.2.1 HC.out.2.2.2 Hps.out hqs)
          obtain ⟨qa, qc, hv2, hrq, _⟩ := hoq.read
          subst hv2
          have hol : (outK l ps).length ≤ l.length := by
            unfold outK
            rw [List.length_map]
            have h1 := List.length_filter_le (keepB l) ps
            omega
          have Hoz := Lib.hid (show ∀ x ∈ outK l ps ++ outT qs, x.text.size ≤ 100000 from fun x hx => by
            rcases List.mem_append.1 hx with hx | hx
            · unfold outK at hx
              obtain ⟨u, hu, rfl⟩ := List.mem_map.1 hx
              exact (Hpz.out u (List.mem_filter.1 hu).1).1
            · unfold outT at hx
              obtain ⟨u, hu, rfl⟩ := List.mem_map.1 hx
              exact hqz u hu)
          clear hqs hqz HSO HKY hrq ho
          go_wp2_with fail
          go_loopw [7, 69] (fun o i wq => ∃ j : Nat, j ≤ qs.length ∧ i = .int .i64 j ∧ OwnRows rulLay wq w2.heap.size 29 o (outK l ps ++ outT (qs.take j)) ∧ OwnRows strLay wq wx.heap.size 9 (.slice qa qs.length qc) qs ∧ ((Value.slice qa qs.length qc).ownBlock = none ∨ (Value.slice qa qs.length qc).ownBlock ≠ o.ownBlock) ∧ Below w2.heap.size w2 wq) (fun _ i _ => qs.length - (RowKit.intOf i).toNat)
          case atStart => exact ⟨0, Nat.zero_le _, rfl, by rw [show outK l ps ++ outT (qs.take 0) = outK l ps by simp [outT]]; exact ho6, hoq, hne, hb36⟩
          case round =>
            obtain ⟨j, hj, rfl, ho, hoq, hne, hb7⟩ := hrel
            by_cases hjt : j < qs.length
            · obtain ⟨q, hq⟩ := at_some hjt
              obtain ⟨qa', qc', e7, hrq, _⟩ := hoq.read
              cases e7
              obtain ⟨b, off, hae, hbl, c0⟩ := str_at hrq hq
              subst hae
              have hjti : (j : Int) < (qs.length : Int) := by omega
              have hjt0 : (0 : Int) ≤ (j : Int) := by omega
              have Hst := Lib.hid (outT_step hq)
              have hln : (outK l ps ++ outT (qs.take j)).length ≤ 2000 := by
                unfold outT
                rw [List.length_append, List.length_map, List.length_take]
                omega
              clear hq
              go_wp2_with (at_builtin; refine wpList_append_rows _ rfl _ _ 22 rfl rulLay w2.heap.size 29 i0 _ 24 Tryz.underlying22 Hi.out Hz0.out Hz1.out Hz2.out rfl (by decide) _ _ rfl (ho.alloc _) ⟨wr.heap.size, 0, none⟩ 1 ⟨3, q⟩ rfl (cells_new_at wr wr.heap.size #[.int .i64 3, .string q] 29 rfl) (by unfold maxLen; omega) (by omega) (by have := hb7.size; simp; omega) ?_)
              intro va w8 ho8 hg8 hnw
              have hb8 := (hb7.alloc hb7.size (.cells #[.int .i64 3, .string q] 29)).grown hg8 (by have := hb7.size; simp; omega) (fun j ej => (ho.lt ej).1)
              have hoq8 := (hoq.alloc (.cells #[.int .i64 3, .string q] 29)).kept hg8 hne
              have hne8 : (Value.slice (some ⟨b, off, none⟩) qs.length qc).ownBlock = none ∨ (Value.slice (some ⟨b, off, none⟩) qs.length qc).ownBlock ≠ va.ownBlock := by
                rcases hnw with e | e
                · rw [e]
                  exact hne
                · refine .inr fun e2 => ?_
                  have h3 := (hoq.lt (e2.trans e)).2
                  have h4 : wr.heap.size < (wr.alloc (.cells #[.int .i64 3, .string q] 29)).heap.size := by simp
                  omega
              clear hg8 ho hoq
              go_wp2_with fail
              go_roundw
              case rel => exact ⟨j + 1, by omega, by go_num, by rw [Hst.out]; exact ho8, hoq8, hne8, hb8⟩
              case measure => simp [RowKit.intOf]; omega
            · obtain rfl : j = qs.length := by omega
              rw [List.take_length] at ho
              have hbw := hb.trans ((hb2.trans (hb7.mono hb2.size)).mono hb.size)
              go_wp2_with fail
              go_ret
              refine ⟨_, _, rfl, ho.lower ?_, HF.out, ?_, Hoz.out, hbw⟩
              · have := hb.size
                have := hb2.size
                omega
              · rw [List.length_append]
                unfold outT
                rw [List.length_map]
                omega
end Go.Proofs.YteeaaphpahnjcaaGreatDoor

namespace Go.Proofs.YteeaaphpahnjcaaGreatDoor
open Go Go.RowKit Go.Lib
theorem rule_any (k : Int) (s : ByteArray) (w : World) : Calls Tryz.prog 16 #[.int .i64 k, .string s] w fun e w' => e = .returned (.agg #[.int .i64 k, .string s]) ∧ Below w.heap.size w w' := by
  have hb := (Below.refl w.heap.size w).alloc (Nat.le_refl _) (.cells #[.int .i64 k, .string s] 29)
  go_enter Tryz.func16, Tryz.ntmps16
  go_wp2_with fail
  refine bodyPost_ret (v := .agg #[.int .i64 k, .string s]) (by simp [results, Tryz.results16, go_sem]) rfl ⟨rfl, hb⟩
def ex1 : List Rul := [⟨1, ⟨#[97]⟩⟩, ⟨1, ⟨#[97, 47, 98]⟩⟩, ⟨2, ⟨#[99]⟩⟩]
def ex2 : List Rul := [⟨1, ⟨#[97]⟩⟩, ⟨2, ⟨#[97]⟩⟩]
theorem rules_ok {l : List Rul} (h : ∀ x ∈ l, ruleG x = true) : RulesOK l := fun t ht => by
  obtain ⟨x, hx, hk, e⟩ := kindN_has.1 ht
  have h1 := h x hx
  obtain ⟨xk, xt⟩ := x
  have e2 : xt = t := e
  subst e2
  rw [ruleG_path hk, Bool.or_eq_true, decide_eq_true_eq] at h1
  exact h1
theorem ex1_ok : RulesOK ex1 := rules_ok (by decide +kernel)
theorem ex2_ok : RulesOK ex2 := rules_ok (by decide +kernel)
theorem kept_texts (l : List Rul) {x : Rul} (h : (x.kind = kindN l x.text ∧ kindN l x.text ≠ 0 ∧ kindN l x.text ≠ aboveN l x.text) ∨ (x.kind = 3 ∧ ∃ y ∈ l, y.kind = 3 ∧ y.text = x.text)) : x ∈ ((l.map (·.text)).filter fun u => !(kindN l u == 0) && !(kindN l u == aboveN l u)).map (fun u => (⟨kindN l u, u⟩ : Rul)) ∨ ∃ y ∈ l, y.kind = 3 := by
  rcases h with ⟨h1, h2, h3⟩ | ⟨_, y, hy, h2, _⟩
  · refine .inl (List.mem_map.2 ⟨x.text, List.mem_filter.2 ⟨?_, ?_⟩, Rul.ext' h1.symm rfl⟩)
    · obtain ⟨y, hy, _, e⟩ := kindN_has.1 h2
      exact List.mem_map.2 ⟨y, hy, e⟩
    · rw [beq_eq_false_iff_ne.2 h2, beq_eq_false_iff_ne.2 h3]
      rfl
  · exact .inr ⟨y, hy, h2⟩
theorem ex1_norm {R : List Rul} (h : NormOf ex1 R) : R = [⟨1, ⟨#[97]⟩⟩] := by
  have hm : ∀ x, x ∈ R ↔ x = ⟨1, ⟨#[97]⟩⟩ := fun x => by
    rw [h.mem x]
    constructor
    · intro h1
      rcases kept_texts ex1 h1 with h2 | ⟨y, hy, h3⟩
      · rw [show ((ex1.map (·.text)).filter fun u => !(kindN ex1 u == 0) && !(kindN ex1 u == aboveN ex1 u)).map (fun u => (⟨kindN ex1 u, u⟩ : Rul)) = [⟨1, ⟨#[97]⟩⟩] by decide +kernel] at h2
        exact List.mem_singleton.1 h2
      · exact absurd h3 (by revert y; decide +kernel)
    · rintro rfl
      exact .inl (by decide +kernel)
  have hp : R.Perm [⟨1, ⟨#[97]⟩⟩] := (List.perm_ext_iff_of_nodup h.nd (by simp)).2 (fun x => by rw [hm x]; simp)
  exact List.perm_singleton.1 hp
theorem ex2_norm {R : List Rul} (h : NormOf ex2 R) : R = [] := by
  rw [List.eq_nil_iff_forall_not_mem]
  intro x hx
  rcases kept_texts ex2 ((h.mem x).1 hx) with h2 | ⟨y, hy, h3⟩
  · rw [show ((ex2.map (·.text)).filter fun u => !(kindN ex2 u == 0) && !(kindN ex2 u == aboveN ex2 u)).map (fun u => (⟨kindN ex2 u, u⟩ : Rul)) = [] by decide +kernel] at h2
    cases h2
  · exact absurd h3 (by revert y; decide +kernel)
set_option maxRecDepth 100000 in
set_option maxHeartbeats 1600000 in
theorem awake10_any (w : World) : Calls Tryz.prog 8 #[] w fun e w' => e = .returned (.bool true) ∧ Below w.heap.size w w' := by
  have HRu := Lib.hid fun k s W => rule_any k s W
  have HN1 := Lib.hid fun W => norm_any (some ⟨W.heap.size, 0, none⟩) 3 ex1 (W.alloc (.cells #[.int .i64 1, .string ⟨#[97]⟩, .int .i64 1, .string ⟨#[97, 47, 98]⟩, .int .i64 2, .string ⟨#[99]⟩] 29)) (by decide) (rows_new rulLay W W.heap.size #[.int .i64 1, .string ⟨#[97]⟩, .int .i64 1, .string ⟨#[97, 47, 98]⟩, .int .i64 2, .string ⟨#[99]⟩] 29 ex1 rfl rfl) ex1_ok (by decide +kernel)
  have HN2 := Lib.hid fun W => norm_any (some ⟨W.heap.size, 0, none⟩) 2 ex2 (W.alloc (.cells #[.int .i64 1, .string ⟨#[97]⟩, .int .i64 2, .string ⟨#[97]⟩] 29)) (by decide) (rows_new rulLay W W.heap.size #[.int .i64 1, .string ⟨#[97]⟩, .int .i64 2, .string ⟨#[97]⟩] 29 ex2 rfl rfl) ex2_ok (by decide +kernel)
  go_enter Tryz.func8, Tryz.ntmps8
  go_wp2_with fail
  refine (HRu.out 1 ⟨#[97]⟩ _).mono ?_
  rintro e w1 ⟨rfl, h1⟩
  go_wp2_with fail
  refine (HRu.out 1 ⟨#[97, 47, 98]⟩ _).mono ?_
  rintro e w2 ⟨rfl, h2⟩
  go_wp2_with fail
  refine (HRu.out 2 ⟨#[99]⟩ _).mono ?_
  rintro e w3 ⟨rfl, h3⟩
  have hb3 := (h1.trans (h2.mono h1.size)).trans (h3.mono (h1.trans (h2.mono h1.size)).size)
  have hA3 := hb3.alloc hb3.size (.cells #[.int .i64 1, .string ⟨#[97]⟩, .int .i64 1, .string ⟨#[97, 47, 98]⟩, .int .i64 2, .string ⟨#[99]⟩] 29)
  clear h1 h2 h3
  go_wp2_with fail
  refine (HN1.out _).mono ?_
  rintro e w4 ⟨v, R, rfl, ho, hR, _, _, hb4⟩
  rw [ex1_norm hR] at ho
  obtain ⟨a4, c4, rfl, hr4, _⟩ := ho.read
  have hb34 := hA3.trans (hb4.mono hA3.size)
  clear hb4 hA3 hb3 ho hR
  go_wp2_with fail
  refine (HRu.out 1 ⟨#[97]⟩ _).mono ?_
  rintro e w5 ⟨rfl, h5⟩
  have hb5 := hb34.trans (h5.mono hb34.size)
  have hA5 := hb5.alloc hb5.size (.cells #[.int .i64 1, .string ⟨#[97]⟩] 29)
  have hr5 := (hr4.keeps h5).keeps ((Below.refl w5.heap.size w5).alloc (Nat.le_refl _) (.cells #[.int .i64 1, .string ⟨#[97]⟩] 29))
  have HS0 := rsame_any a4 (some ⟨w5.heap.size, 0, none⟩) c4 1 [⟨1, ⟨#[97]⟩⟩] [⟨1, ⟨#[97]⟩⟩] _ (by decide) hr5 (rows_new rulLay w5 w5.heap.size #[.int .i64 1, .string ⟨#[97]⟩] 29 [⟨1, ⟨#[97]⟩⟩] rfl rfl)
  rw [decide_eq_true rfl] at HS0
  have HS := Lib.hid HS0
  clear h5 hr4 hr5 HS0 hb5
  go_wp2_with fail
  refine HS.out.mono ?_
  rintro e w6 ⟨rfl, n6, rfl⟩
  have hb6 := belowDrew hA5 n6
  go_wp2_with fail
  refine (HRu.out 1 ⟨#[97]⟩ _).mono ?_
  rintro e w7 ⟨rfl, h7⟩
  go_wp2_with fail
  refine (HRu.out 2 ⟨#[97]⟩ _).mono ?_
  rintro e w8 ⟨rfl, h8⟩
  have hb8 := (hb6.trans (h7.mono hb6.size)).trans (h8.mono (hb6.trans (h7.mono hb6.size)).size)
  have hA8 := hb8.alloc hb8.size (.cells #[.int .i64 1, .string ⟨#[97]⟩, .int .i64 2, .string ⟨#[97]⟩] 29)
  clear h7 h8
  go_wp2_with fail
  refine (HN2.out _).mono ?_
  rintro e w9 ⟨v, R, rfl, ho, hR, _, _, hb9⟩
  rw [ex2_norm hR] at ho
  obtain ⟨a9, c9, rfl, hr9, _⟩ := ho.read
  have hb89 := hA8.trans (hb9.mono hA8.size)
  clear hb9 hA8 hb8 ho hR
  go_wp2_with fail
  go_ret
  exact ⟨rfl, hb89⟩
theorem print_one (x : Rul) : ((printG [x]).2 = 0 ↔ ruleG x = true) ∧ (ruleG x = false → (printG [x]).2 = 30) := by
  unfold printG
  rw [if_neg (by simp)]
  cases h : ruleG x <;> simp [h]
set_option maxRecDepth 100000 in
set_option maxHeartbeats 1600000 in
theorem right10_any (a : Option Addr) (cap : Nat) (l : List Rul) (w : World) (hl : l.length ≤ 1000) (hsz : ∀ x ∈ l, x.text.size ≤ 100000) (ha : RowsAt rulLay w a l) (hm : MaxAt w) :
    Calls Tryz.prog 6 #[.slice a l.length cap] w fun e w' => e = .returned (.bool (l.all ruleG)) ∧ Below w.heap.size w w' := by
  have HA := Lib.hid fun W (h : Below w.heap.size w W) => ha.keeps h
  have HM := Lib.hid fun W (h : Below w.heap.size w W) => hm.keeps h
  have Hsz := Lib.hid hsz
  have Hr := Lib.hid (show ∀ b, l.all ruleG = b → Ending.returned (.bool b) = .returned (.bool (l.all ruleG)) from fun b h => by rw [h])
  clear ha hm hsz
  go_enter Tryz.func6, Tryz.ntmps6
  go_wp2_with fail
  go_loopw [3] (fun i wr => ∃ k : Nat, k ≤ l.length ∧ i = .int .i64 k ∧ Hid (∀ j y, j < k → l[j]? = some y → ruleG y = true) ∧ Below w.heap.size w wr) (fun i _ => l.length - (RowKit.intOf i).toNat)
  case atStart => exact ⟨0, Nat.zero_le _, rfl, Lib.hid (fun j _ hj => absurd hj (Nat.not_lt_zero _)), Below.refl _ _⟩
  case round =>
    obtain ⟨k, hk, rfl, Hk, hb⟩ := hrel
    by_cases hlt : k < l.length
    · obtain ⟨x, hx⟩ := at_some hlt
      obtain ⟨b, off, hae, hbl, c0, c1⟩ := rul_at (HA.out _ hb) hx
      subst hae
      have hlti : (k : Int) < (l.length : Int) := by omega
      have hlt0 : (0 : Int) ≤ (k : Int) := by omega
      have hxs := Hsz.out x (List.mem_of_getElem? hx)
      have hbA := hb.alloc hb.size (.cells #[.int .i64 x.kind, .string x.text] 29)
      have hP := print_any (some ⟨wr.heap.size, 0, none⟩) 1 [x] (wr.alloc (.cells #[.int .i64 x.kind, .string x.text] 29)) (by simp) (fun y hy => by rw [List.mem_singleton.1 hy]; exact hxs) (rows_new rulLay wr wr.heap.size #[.int .i64 x.kind, .string x.text] 29 [x] rfl rfl) (HM.out _ hbA)
      obtain ⟨p1, p2⟩ := print_one x
      obtain ⟨pr, hpr⟩ : ∃ pr, printG [x] = pr := ⟨_, rfl⟩
      rw [hpr] at hP p1 p2
      obtain ⟨pb, pe⟩ := pr
      dsimp only at hP p1 p2
      have HP := Lib.hid hP
      have Hx := Lib.hid hx
      clear hx hP hpr
      cases hr : ruleG x with
      | true =>
        have he : pe = 0 := p1.2 hr
        subst he
        have Hrx := Lib.hid hr
        clear p1 p2 hr
        go_wp2_with fail
        refine HP.out.mono ?_
        rintro e w2 ⟨rfl, hb2⟩
        go_wp2_with fail
        go_roundw
        case rel =>
          refine ⟨k + 1, by omega, by go_num, Lib.hid (fun j z hj hz => ?_), hbA.trans (hb2.mono hbA.size)⟩
          by_cases e : j = k
          · subst e
            rw [Hx.out] at hz
            cases hz
            exact Hrx.out
          · exact Hk.out j z (by omega) hz
        case measure => simp [RowKit.intOf]; omega
      | false =>
        have he : pe = 30 := p2 hr
        subst he
        have Hf := Lib.hid (Hr.out false (by
          rw [List.all_eq_false]
          exact ⟨x, List.mem_of_getElem? Hx.out, by rw [hr]; simp⟩))
        clear p1 p2 hr
        go_wp2_with fail
        refine HP.out.mono ?_
        rintro e w2 ⟨rfl, hb2⟩
        go_wp2_with fail
        go_ret
        exact ⟨Hf.out, hbA.trans (hb2.mono hbA.size)⟩
    · obtain rfl : k = l.length := by omega
      have Hf := Lib.hid (Hr.out true (by
        rw [List.all_eq_true]
        intro y hy
        obtain ⟨j, hj, e⟩ := List.mem_iff_getElem.1 hy
        exact Hk.out j y hj (by rw [List.getElem?_eq_getElem hj, e])))
      go_wp2_with fail
      go_ret
      exact ⟨Hf.out, hb⟩
set_option maxRecDepth 100000 in
set_option maxHeartbeats 1600000 in
theorem law_normMatches (a : Option Addr) (cap : Nat) (l : List Rul) (p : ByteArray) (d : Bool) (w : World) (hl : l.length ≤ 140737488351232) (ha : RowsAt rulLay w a l) (hm : MaxAt w) : Calls Tryz.prog 3 #[.slice a l.length cap, .string p, .bool d] w fun e w' => e = .returned (.bool true) ∧ Below w.heap.size w w' := by
  have HAW := Lib.hid fun W => awake10_any W
  have HF := Lib.hid (few10_any a cap l w hl ha)
  cases hf : fewR 60 500 l with
  | false =>
    rw [hf] at HF
    go_enter Tryz.func3, Tryz.ntmps3
    go_wp2_with fail
    refine HF.out.mono ?_
    rintro e w1 ⟨rfl, rfl⟩
    go_wp2_with fail
    refine (HAW.out _).mono ?_
    rintro e w9 ⟨rfl, hb9⟩
    go_wp2_with fail
    go_ret
    exact ⟨rfl, hb9⟩
  | true =>
    rw [hf] at HF
    obtain ⟨hl1, hsz⟩ := fewR_parts hf
    have HG := Lib.hid (right10_any a cap l w (by omega) (fun x hx => by have := hsz x hx; omega) ha hm)
    cases hr : l.all ruleG with
    | false =>
      rw [hr] at HG
      go_enter Tryz.func3, Tryz.ntmps3
      go_wp2_with fail
      refine HF.out.mono ?_
      rintro e w1 ⟨rfl, rfl⟩
      go_wp2_with fail
      refine HG.out.mono ?_
      rintro e w2 ⟨rfl, hb2⟩
      go_wp2_with fail
      refine (HAW.out _).mono ?_
      rintro e w9 ⟨rfl, hb9⟩
      go_wp2_with fail
      go_ret
      exact ⟨rfl, hb2.trans (hb9.mono hb2.size)⟩
    | true =>
      rw [hr] at HG
      have hok : RulesOK l := rules_ok (List.all_eq_true.1 hr)
      by_cases h5 : 500 < p.size
      · have g1 : decide ((p.size : Int) > 500) = true := decide_eq_true (by omega)
        have g2 : decide (500 < p.size) = true := decide_eq_true h5
        have g3 : decide ((500 : Int) < (p.size : Int)) = true := decide_eq_true (by omega)
        go_enter Tryz.func3, Tryz.ntmps3
        go_wp2_with fail
        refine HF.out.mono ?_
        rintro e w1 ⟨rfl, rfl⟩
        go_wp2_with fail
        refine HG.out.mono ?_
        rintro e w2 ⟨rfl, hb2⟩
        go_wp2_with fail
        refine (HAW.out _).mono ?_
        rintro e w9 ⟨rfl, hb9⟩
        go_wp2_with fail
        go_ret
        exact ⟨rfl, hb2.trans (hb9.mono hb2.size)⟩
      · have g1 : decide ((p.size : Int) > 500) = false := decide_eq_false (by omega)
        have g2 : decide (500 < p.size) = false := decide_eq_false h5
        have g3 : decide ((500 : Int) < (p.size : Int)) = false := decide_eq_false (by omega)
        have HPa := Lib.hid fun W (h : Below w.heap.size w W) => path_any p W (by omega) (hm.keeps h)
        cases hp : pathG p.data.toList with
        | false =>
          rw [hp] at HPa
          go_enter Tryz.func3, Tryz.ntmps3
          go_wp2_with fail
          refine HF.out.mono ?_
          rintro e w1 ⟨rfl, rfl⟩
          go_wp2_with fail
          refine HG.out.mono ?_
          rintro e w2 ⟨rfl, hb2⟩
          go_wp2_with fail
          refine (HPa.out _ hb2).mono ?_
          rintro e w3 ⟨rfl, hb3⟩
          have hb23 := hb2.trans (hb3.mono hb2.size)
          go_wp2_with fail
          refine (HAW.out _).mono ?_
          rintro e w9 ⟨rfl, hb9⟩
          go_wp2_with fail
          go_ret
          exact ⟨rfl, hb23.trans (hb9.mono hb23.size)⟩
        | true =>
          rw [hp] at HPa
          have HM1 := Lib.hid fun W (h : Below w.heap.size w W) => match_any a cap l p d W (fun x hx => by have := hsz x hx; omega) (by omega) (by omega) (ha.keeps h)
          have HN := Lib.hid fun W (h : Below w.heap.size w W) => norm_any a cap l W (by omega) (ha.keeps h) hok (fun x hx => by have := hsz x hx; omega)
          have Hnm := Lib.hid fun R (h : NormOf l R) => norm_match h hok p d
          go_enter Tryz.func3, Tryz.ntmps3
          go_wp2_with fail
          refine HF.out.mono ?_
          rintro e w1 ⟨rfl, rfl⟩
          go_wp2_with fail
          refine HG.out.mono ?_
          rintro e w2 ⟨rfl, hb2⟩
          go_wp2_with fail
          refine (HPa.out _ hb2).mono ?_
          rintro e w3 ⟨rfl, hb3⟩
          have hb23 := hb2.trans (hb3.mono hb2.size)
          go_wp2_with fail
          refine (HM1.out _ hb23).mono ?_
          rintro e w4 ⟨rfl, hb4⟩
          have hb24 := hb23.trans (hb4.mono hb23.size)
          go_wp2_with fail
          refine (HN.out _ hb24).mono ?_
          rintro e w5 ⟨v, R, rfl, ho, hR, hRl, hRz, hb5⟩
          obtain ⟨a5, c5, rfl, hr5, _⟩ := ho.read
          have hb25 := hb24.trans (hb5.mono hb24.size)
          have hM2 := match_any a5 c5 R p d w5 hRz (by omega) (by omega) hr5
          rw [Hnm.out R hR] at hM2
          have HM2 := Lib.hid hM2
          clear hM2 ho hR
          generalize matchG l p d = m at *
          have q1 : (m == m) = true := beq_self_eq_true m
          go_wp2_with fail
          refine HM2.out.mono ?_
          rintro e w6 ⟨rfl, hb6⟩
          have hb26 := hb25.trans (hb6.mono hb25.size)
          go_wp2_with fail
          refine (HAW.out _).mono ?_
          rintro e w9 ⟨rfl, hb9⟩
          go_wp2_with fail
          go_ret
          exact ⟨rfl, hb26.trans (hb9.mono hb26.size)⟩
end Go.Proofs.YteeaaphpahnjcaaGreatDoor

namespace Go.Proofs.YteeaaphpahnjcaaGreatDoor
open Go Go.RowKit Go.Lib
/-- Rules that lie somewhere behind w, and what they say of a path. -/
def MOK (w : World) (a : Option Addr) (m : List Rul) (p : ByteArray) (r : Bool) : Prop := RowsAt rulLay w a m ∧ m.length ≤ 1000 ∧ (∀ x ∈ m, x.text.size ≤ 100000) ∧ matchG m p true = r
theorem mok_match {w : World} {a : Option Addr} {m : List Rul} {p : ByteArray} {r : Bool} (h : MOK w a m p r) (hp : p.size ≤ 100000) (c dq : Nat) (osq : Array Obj) :
    Calls Tryz.prog 9 #[.slice a m.length c, .string p, .bool true] («Sort».grow (redrawn w dq) osq) fun e w' => e = .returned (.bool r) ∧ Below («Sort».grow (redrawn w dq) osq).heap.size («Sort».grow (redrawn w dq) osq) w' := by
  have h1 := match_any a c m p true («Sort».grow (redrawn w dq) osq) h.2.2.1 h.2.1 hp (h.1.keeps (below_regrown w dq osq))
  rw [h.2.2.2] at h1
  exact h1
theorem rem_in (k : Int) (n : Nat) (hn : 0 < n) : ∃ j : Nat, j < n ∧ Int.tmod (Int.tmod k n + n) n = j ∧ -(n : Int) < Int.tmod k n ∧ Int.tmod k n < n := by
  have h1 : Int.tmod k n < n := Int.tmod_lt_of_pos k (by omega)
  have h2 : -(n : Int) < Int.tmod k n := by
    have := Int.lt_tmod_of_pos k (b := (n : Int)) (by omega)
    omega
  refine ⟨((Int.tmod k n + n) % n).toNat, ?_, ?_, h2, h1⟩
  · have h3 := Int.emod_lt_of_pos (Int.tmod k n + n) (b := (n : Int)) (by omega)
    have h4 := Int.emod_nonneg (Int.tmod k n + n) (b := (n : Int)) (by omega)
    omega
  · have h4 := Int.emod_nonneg (Int.tmod k n + n) (b := (n : Int)) (by omega)
    rw [Int.tmod_eq_emod_of_nonneg (by omega)]
    omega
set_option maxRecDepth 100000 in
set_option maxHeartbeats 1600000 in
theorem law_normLeast (a : Option Addr) (cap : Nat) (l : List Rul) (k : Int) (w : World) (hl : l.length ≤ 140737488351232) (ha : RowsAt rulLay w a l) (_ : -9223372036854775808 ≤ k) (_ : k ≤ 9223372036854775807) (hm : MaxAt w) : Calls Tryz.prog 4 #[.slice a l.length cap, .int .i64 k] w fun e w' => e = .returned (.bool true) ∧ Below w.heap.size w w' := by
  have HAW := Lib.hid fun W => awake10_any W
  have HF := Lib.hid (few10_any a cap l w hl ha)
  cases hf : fewR 60 500 l with
  | false =>
    rw [hf] at HF
    go_enter Tryz.func4, Tryz.ntmps4
    go_wp2_with fail
    refine HF.out.mono ?_
    rintro e w1 ⟨rfl, rfl⟩
    go_wp2_with fail
    refine (HAW.out _).mono ?_
    rintro e w9 ⟨rfl, hb9⟩
    go_wp2_with fail
    go_ret
    exact ⟨rfl, hb9⟩
  | true =>
    rw [hf] at HF
    obtain ⟨hl1, hsz⟩ := fewR_parts hf
    have HG := Lib.hid (right10_any a cap l w (by omega) (fun x hx => by have := hsz x hx; omega) ha hm)
    cases hr : l.all ruleG with
    | false =>
      rw [hr] at HG
      go_enter Tryz.func4, Tryz.ntmps4
      go_wp2_with fail
      refine HF.out.mono ?_
      rintro e w1 ⟨rfl, rfl⟩
      go_wp2_with fail
      refine HG.out.mono ?_
      rintro e w2 ⟨rfl, hb2⟩
      go_wp2_with fail
      refine (HAW.out _).mono ?_
      rintro e w9 ⟨rfl, hb9⟩
      go_wp2_with fail
      go_ret
      exact ⟨rfl, hb2.trans (hb9.mono hb2.size)⟩
    | true =>
      rw [hr] at HG
      have hok : RulesOK l := rules_ok (List.all_eq_true.1 hr)
      have HN := Lib.hid fun W (h : Below w.heap.size w W) => norm_any a cap l W (by omega) (ha.keeps h) hok (fun x hx => by have := hsz x hx; omega)
      have Hls := Lib.hid fun R (h : NormOf l R) n x (hx : R[n]? = some x) h3 hd => norm_least h hok hx h3 hd
      obtain ⟨i0, hi, hz0, hz1, hz2⟩ := info_parts rulInfo
      have Hi := Lib.hid hi
      have Hz0 := Lib.hid hz0
      have Hz1 := Lib.hid hz1
      have Hz2 := Lib.hid hz2
      clear hi hz0 hz1 hz2
      go_enter Tryz.func4, Tryz.ntmps4
      go_wp2_with fail
      refine HF.out.mono ?_
      rintro e w1 ⟨rfl, rfl⟩
      go_wp2_with fail
      refine HG.out.mono ?_
      rintro e w2 ⟨rfl, hb2⟩
      go_wp2_with fail
      refine (HN.out _ hb2).mono ?_
      rintro e w3 ⟨v, R, rfl, ho, hR, hRl, hRz, hb3⟩
      obtain ⟨a3, c3, rfl, hr3, hc3, hn3, _⟩ := ho.read_nil
      have hb23 := hb2.trans (hb3.mono hb2.size)
      have Hls2 := Lib.hid fun n x (hx : R[n]? = some x) h3 hd => Hls.out R hR n x hx h3 hd
      have Hr3 := Lib.hid fun W (h : Below w3.heap.size w3 W) => hr3.keeps h
      clear ho hR Hls HN
      by_cases h0 : R.length = 0
      · have g1 : ((R.length : Int) == 0) = true := by rw [h0]; rfl
        clear h0
        go_wp2_with fail
        refine (HAW.out _).mono ?_
        rintro e w9 ⟨rfl, hb9⟩
        go_wp2_with fail
        go_ret
        exact ⟨rfl, hb23.trans (hb9.mono hb23.size)⟩
      · have g1 : ((R.length : Int) == 0) = false := by rw [beq_eq_false_iff_ne]; omega
        obtain ⟨n, hn, hmod, hr1, hr2⟩ := rem_in k R.length (by omega)
        have hz : ((R.length : Int) ≠ 0) := by omega
        have hwr : wrap64 (Int.tmod k R.length + R.length) = Int.tmod k R.length + R.length := IntWalk.wrap64_in _ (by omega)
        obtain ⟨x, hx⟩ := at_some hn
        obtain ⟨b, off, hae, hbl, c0, c1⟩ := rul_at hr3 hx
        subst hae
        have hni : (n : Int) < (R.length : Int) := by omega
        have hn0 : (0 : Int) ≤ (n : Int) := by omega
        have hxz := hRz x (List.mem_of_getElem? hx)
        have Hx := Lib.hid hx
        clear hx
        by_cases hk3 : x.kind = 3
        · have e1 : (x.kind == 3) = true := beq_iff_eq.2 hk3
          clear hk3
          go_wp2_with fail
          refine (HAW.out _).mono ?_
          rintro e w9 ⟨rfl, hb9⟩
          go_wp2_with fail
          go_ret
          exact ⟨rfl, hb23.trans (hb9.mono hb23.size)⟩
        · have e1 : (x.kind == 3) = false := beq_eq_false_iff_ne.2 hk3
          by_cases hd : x.text = dotB
          · have e2 : (x.text.toList == [46]) = true := by rw [hd, dotB, toList_data]; rfl
            clear hk3 hd
            go_wp2_with fail
            refine (HAW.out _).mono ?_
            rintro e w9 ⟨rfl, hb9⟩
            go_wp2_with fail
            go_ret
            exact ⟨rfl, hb23.trans (hb9.mono hb23.size)⟩
          · have e2 : (x.text.toList == [46]) = false := beq_eq_false_iff_ne.2 (fun e => hd (toList_inj.1 (e.trans (by rw [dotB, toList_data]))))
            have Hne := Lib.hid (Hls2.out n x Hx.out hk3 hd)
            clear hk3 hd Hls2
            have hsl := slice_high (P := Tryz.prog) Tryz.underlying22 (fun w => Tryz.sizeOf29 w) (some ⟨b, off, none⟩) R.length c3 n (by omega)
            obtain ⟨la, hla⟩ : ∃ la, lowA (some ⟨b, off, none⟩) (n + 1) c3 rulLay.sz = la := ⟨_, rfl⟩
            have hsl2 : ∀ W, (Instr.slice 22 (.slice (some ⟨b, off, none⟩) R.length c3) (some (.int .i64 ((n : Int) + 1))) none none).run Tryz.prog W = .ok (.slice la (R.length - (n + 1)) (c3 - (n + 1))) W := by
              intro W
              rw [← hla]
              exact slice_low (P := Tryz.prog) Tryz.underlying22 (fun w => Tryz.sizeOf29 w) (some ⟨b, off, none⟩) R.length c3 (n + 1) (by omega) W
            have hln : la = none → c3 - (n + 1) = 0 := by rw [← hla]; exact lowA_nil hn3
            have hlow := rows_low hr3 hc3 (n + 1)
            rw [hla] at hlow
            have htake := hr3.take n
            clear hla
            go_wp2_with (at_builtin; refine wpList_append_from _ rfl _ _ 22 rfl rulLay w3.heap.size 29 i0 (.agg #[.int .i64 0, .string ⟨#[]⟩]) 24 Tryz.underlying22 Hi.out Hz0.out Hz1.out Hz2.out rfl (by decide) _ [] rfl (OwnRows.nil _ _ _ _) (some ⟨b, off, none⟩) c3 n (R.take n) rfl (by simp; omega) htake hn3 (by unfold maxLen; simp; omega) (by simp; omega) (Nat.le_refl _) ?_)
            intro v4 w4 ho4 hg4 _
            replace ho4 : OwnRows rulLay w4 w3.heap.size 29 v4 (R.take n) := by simpa using ho4
            have hb4 := (Below.refl w3.heap.size w3).grown hg4 (Nat.le_refl _) (fun j ej => by cases ej)
            have hlow4 := hlow.keeps hb4
            clear hg4 hlow htake
            go_wp2_with (at_builtin; refine wpList_append_from _ rfl _ _ 22 rfl rulLay w3.heap.size 29 i0 (.agg #[.int .i64 0, .string ⟨#[]⟩]) 24 Tryz.underlying22 Hi.out Hz0.out Hz1.out Hz2.out rfl (by decide) _ _ rfl ho4 la (c3 - (n + 1)) (R.length - (n + 1)) (R.drop (n + 1)) rfl (by simp) hlow4 hln (by unfold maxLen; simp; omega) (by simp; omega) hb4.size ?_)
            intro v5 w5 ho5 hg5 _
            have hb5 := hb4.grown hg5 hb4.size (fun j ej => (ho4.lt ej).1)
            clear hg5 ho4 hlow4
            have hr5 := Hr3.out w5 hb5
            have hb25 := hb23.trans (hb5.mono hb23.size)
            obtain ⟨M, hM⟩ : ∃ M, R.take n ++ R.drop (n + 1) = M := ⟨_, rfl⟩
            have hMl : M.length ≤ 1000 := by rw [← hM, List.length_append, List.length_take, List.length_drop]; omega
            have hMz : ∀ y ∈ M, y.text.size ≤ 100000 := fun y hy => by
              rw [← hM] at hy
              rcases List.mem_append.1 hy with hy | hy
              · exact hRz y (List.mem_of_mem_take hy)
              · exact hRz y (List.mem_of_mem_drop hy)
            rw [hM] at ho5 Hne
            obtain ⟨a5, c5, rfl, hrM, _⟩ := ho5.read
            obtain ⟨r1, hq1⟩ : ∃ r, matchG R x.text true = r := ⟨_, rfl⟩
            obtain ⟨r2, hq2⟩ : ∃ r, matchG M x.text true = r := ⟨_, rfl⟩
            have K1 : MOK w5 (some ⟨b, off, none⟩) R x.text r1 := ⟨hr5, by omega, hRz, hq1⟩
            have K2 : MOK w5 a5 M x.text r2 := ⟨hrM, hMl, hMz, hq2⟩
            rw [hq1, hq2] at Hne
            have HMg := Lib.hid fun (a : Option Addr) (m : List Rul) (r : Bool) (h : MOK w5 a m x.text r) (c dq : Nat) (osq : Array Obj) => mok_match h hxz c dq osq
            have HAq := Lib.hid fun (dq : Nat) (osq : Array Obj) => awake10_any («Sort».grow (redrawn w5 dq) osq)
            obtain ⟨b', off', hae, hbl', d0, d1⟩ := rul_at hr5 Hx.out
            cases hae
            have q0 := cell_regrown d0
            have q1 := cell_regrown d1
            clear hM hMl hMz ho5 hrM hq1 hq2 hr5
            have hr12 : (r1 = true ∧ r2 = false) ∨ (r1 = false ∧ r2 = true) := by
              have := Hne.out
              revert this
              cases r1 <;> cases r2 <;> simp
            clear Hne
            rcases hr12 with ⟨rfl, rfl⟩ | ⟨rfl, rfl⟩
            all_goals
              go_upto_region 12 with fail
              refine wp_region_quiet_below (by kernel_rfl) (by kernel_rfl) ?_
              repeat (go_big_quiet_step (first | exact Calls.regrown_of (HAq.out _ _) | exact Calls.regrown_of (HMg.out _ _ _ (by assumption) _ _ _)))
              refine wpQuiet_nil ?_
              intro _ hw'
              obtain ⟨⟨dq, osq⟩, hw''⟩ := hw'
              subst hw''
              have hbq := below_regrown w5 dq osq
              go_wp2_with fail
              go_ret
              exact ⟨rfl, hb25.trans (hbq.mono hb25.size)⟩
end Go.Proofs.YteeaaphpahnjcaaGreatDoor

