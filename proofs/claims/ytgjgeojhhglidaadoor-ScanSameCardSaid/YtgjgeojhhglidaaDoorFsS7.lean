/-
  What stays of numbers along calls: plain law. What Diff says between two states of one file system, told by numbers: plain law.
-/
import Derived.Test.YtgjgeojhhglidaaDoorFsS
namespace Go.Proofs.YtgjgeojhhglidaaDoor
open Go Go.RowKit Go.Lib

/-- Each entry behind a call has the number and the kind of one ahead of it, or the next number. -/
theorem step_dir {f : Fs} (x : Ask) : ∀ y ∈ (opF f x).1.es, (∃ u ∈ f.es, u.id = y.id ∧ u.dir = y.dir) ∨ y.id = (f.n : Int) + 1 := by
  have made : ∀ (e : Ent) (y : Ent), y ∈ (madeF f e).1.es → (∃ u ∈ f.es, u.id = y.id ∧ u.dir = y.dir) ∨ y.id = (f.n : Int) + 1 := by
    intro e y hy
    unfold madeF at hy
    split at hy
    · exact .inl ⟨y, hy, rfl, rfl⟩
    split at hy
    · exact .inl ⟨y, hy, rfl, rfl⟩
    rcases mem_putE.1 hy with rfl | ⟨hy, _⟩
    · exact .inr rfl
    · exact .inl ⟨y, hy, rfl, rfl⟩
  intro y hy
  unfold opF at hy
  split at hy
  · unfold mkdirF at hy
    split at hy
    · exact .inl ⟨y, hy, rfl, rfl⟩
    split at hy
    · exact .inl ⟨y, hy, rfl, rfl⟩
    exact made _ y hy
  split at hy
  · rcases write_cases f x.path x.data with h | ⟨hn, h⟩ | ⟨u, hu, hp, hd, h⟩
    · rw [h] at hy
      exact .inl ⟨y, hy, rfl, rfl⟩
    · rw [h] at hy
      rcases mem_putE.1 hy with rfl | ⟨hy, _⟩
      · exact .inr rfl
      · exact .inl ⟨y, hy, rfl, rfl⟩
    · rw [h] at hy
      rcases mem_putE.1 hy with rfl | ⟨hy, _⟩
      · exact .inl ⟨u, hu, rfl, hd⟩
      · exact .inl ⟨y, hy, rfl, rfl⟩
  split at hy
  · rcases rename_may (f := f) (a := x.path) (b := x.dest) with ⟨e, _, h⟩ | hm
    · rw [h] at hy
      exact .inl ⟨y, hy, rfl, rfl⟩
    · obtain ⟨u, hu, rfl⟩ := (mem_ren hm).1 hy
      exact .inl ⟨u, hu, (mov_id _ _ u).1.symm, (mov_id _ _ u).2.1.symm⟩
  · unfold removeF at hy
    split at hy
    · exact .inl ⟨y, hy, rfl, rfl⟩
    · exact .inl ⟨y, (List.mem_filter.1 hy).1, rfl, rfl⟩
/-- What stays along calls. -/
def PlayR (f g : Fs) : Prop := f.n ≤ g.n ∧ ∀ y ∈ g.es, (∃ u ∈ f.es, u.id = y.id ∧ u.dir = y.dir) ∨ (f.n : Int) < y.id
theorem play_rel : ∀ (l : List Ask) {f : Fs}, IdsOK f → PlayR f (playF f l)
  | [], f, _ => ⟨Nat.le_refl _, fun y hy => .inl ⟨y, hy, rfl, rfl⟩⟩
  | x :: l, f, h => by
    have hs := step_op h x
    obtain ⟨h1, h2⟩ := play_rel l hs.ids
    have hn : f.n ≤ (opF f x).1.n := by
      rcases hs.num with e | ⟨e, _⟩ <;> omega
    refine ⟨Nat.le_trans hn h1, fun y hy => ?_⟩
    rcases h2 y hy with ⟨u, hu, e1, e2⟩ | h3
    · rcases step_dir x u hu with ⟨v, hv, e3, e4⟩ | e3
      · exact .inl ⟨v, hv, e3.trans e1, e4.trans e2⟩
      · exact .inr (by omega)
    · exact .inr (by omega)
/-- A number that both states have is kept. -/
theorem play_kept {f g : Fs} (hfi : IdsOK f) (hr : PlayR f g) {x y : Ent} (hx : x ∈ f.es) (hy : y ∈ g.es) (e : y.id = x.id) : y.dir = x.dir := by
  rcases hr.2 y hy with ⟨u, hu, e1, e2⟩ | h
  · rw [← e2, hfi.one u hu x hx (e1.trans e)]
  · have := (hfi.low x hx).2
    omega
end Go.Proofs.YtgjgeojhhglidaaDoor

namespace Go.Proofs.YtgjgeojhhglidaaDoor
open Go Go.RowKit Go.Lib

/-- The entry of a number. -/
def getI (es : List Ent) (c : Int) : Option Ent := es.find? fun x => decide (x.id = c)
theorem getI_some {es : List Ent} {c : Int} {x : Ent} (h : getI es c = some x) : x ∈ es ∧ x.id = c := by
  unfold getI at h
  have h2 := List.find?_some h
  exact ⟨List.mem_of_find?_eq_some h, of_decide_eq_true h2⟩
theorem getI_none {es : List Ent} {c : Int} (h : getI es c = none) : ∀ x ∈ es, x.id ≠ c := fun x hx e => by
  unfold getI at h
  rw [List.find?_eq_none] at h
  exact h x hx (decide_eq_true e)
theorem getI_of {f : Fs} (hi : IdsOK f) {x : Ent} (hx : x ∈ f.es) : getI f.es x.id = some x := by
  cases h : getI f.es x.id with
  | none => exact absurd rfl (getI_none h x hx)
  | some y =>
    obtain ⟨hy, e⟩ := getI_some h
    rw [hi.one y hy x hx e]
theorem getI_no {es : List Ent} {c : Int} (h : ∀ x ∈ es, x.id ≠ c) : getI es c = none := by
  cases h1 : getI es c with
  | none => rfl
  | some y => exact absurd (getI_some h1).2 (h y (getI_some h1).1)
theorem kept_iff {f g : Fs} (hf : FsOK f) (hfi : IdsOK f) (hg : FsOK g) (hgi : IdsOK g) (hr : PlayR f g) (c : Int) : keptK (knowF f) (knowF g) c = ((getI f.es c).isSome && (getI g.es c).isSome) := by
  cases h1 : getI f.es c with
  | none =>
    unfold keptK
    rw [know_no (getI_none h1)]
    rfl
  | some x =>
    obtain ⟨hx, rfl⟩ := getI_some h1
    cases h2 : getI g.es x.id with
    | none =>
      unfold keptK
      rw [know_get hf hfi hx, know_no (getI_none h2)]
      rfl
    | some y =>
      obtain ⟨hy, e⟩ := getI_some h2
      exact kept_both hf hfi hg hgi hx hy e (play_kept hfi hr hx hy e)
/-- What Diff says of an entry that is there. -/
theorem chgs_form {f g : Fs} (hf : FsOK f) (hfi : IdsOK f) (hg : FsOK g) (hgi : IdsOK g) (hr : PlayR f g) {y : Ent} (hy : y ∈ g.es) :
    (getI f.es y.id = none ∧ chgsK (knowF f) (knowF g) (toK y) = [⟨1, y.id, y.path, y.dir, y.data⟩]) ∨
    ∃ x ∈ f.es, x.id = y.id ∧ getI f.es y.id = some x ∧ chgsK (knowF f) (knowF g) (toK y) = (if seatF f.es x.path ≠ seatF g.es y.path then [⟨2, y.id, y.path, y.dir, ⟨#[]⟩⟩] else []) ++ (if !y.dir && decide (y.data ≠ x.data) then [⟨3, y.id, y.path, false, y.data⟩] else []) := by
  cases h1 : getI f.es y.id with
  | none =>
    refine .inl ⟨rfl, ?_⟩
    have hk := kept_iff hf hfi hg hgi hr y.id
    rw [h1] at hk
    unfold chgsK
    show (if (!keptK (knowF f) (knowF g) y.id) = true then _ else _) = _
    rw [hk]
    rfl
  | some x =>
    obtain ⟨hx, e⟩ := getI_some h1
    exact .inr ⟨x, hx, e, rfl, chgs_kept hf hfi hg hgi hx hy e.symm (play_kept hfi hr hx hy e.symm)⟩
theorem root_size {p : ByteArray} (hr : rightsL p.data.toList = true) (h : dirE p ≠ ⟨#[]⟩) : (dirE p).size < p.size := by
  rcases path_split hr with ⟨h1, _⟩ | ⟨_, h1, _⟩
  · exact absurd h1 h
  · rw [size_eq, size_eq p, h1]
    simp
/-- An entry that a state has, and that stands elsewhere in another one, or is new: something is said of it, or of a directory above it. -/
theorem moved_up {f g : Fs} (hf : FsOK f) (hfi : IdsOK f) (hg : FsOK g) (hgi : IdsOK g) (hr : PlayR f g) : ∀ (n : Nat) (y : Ent), y.path.size ≤ n → y ∈ g.es →
    (∃ x ∈ f.es, x.id = y.id ∧ x.path = y.path) ∨ ∃ v ∈ g.es, v.path.size ≤ y.path.size ∧ chgsK (knowF f) (knowF g) (toK v) ≠ []
  | n, y, hn, hy => by
    have hgr := path_rights (hg.path y hy)
    rcases chgs_form hf hfi hg hgi hr hy with ⟨_, h2⟩ | ⟨x, hx, e, _, h2⟩
    · exact .inr ⟨y, hy, Nat.le_refl _, by rw [h2]; exact List.cons_ne_nil _ _⟩
    · by_cases hs : seatF f.es x.path = seatF g.es y.path
      · have hfr := path_rights (hf.path x hx)
        by_cases hd : dirE y.path = ⟨#[]⟩
        · by_cases hd2 : dirE x.path = ⟨#[]⟩
          · refine .inl ⟨x, hx, e, ?_⟩
            unfold seatF at hs
            rw [if_pos hd, if_pos hd2] at hs
            exact path_same hfr hgr (hd2.trans hd.symm) (Prod.mk.inj hs).2
          · obtain ⟨u, hu, e1, _⟩ := up_there hf hx hd2
            rw [seat_up hf hd2 hu e1] at hs
            unfold seatF at hs
            rw [if_pos hd] at hs
            have := (Prod.mk.inj hs).1
            have := (hfi.low u hu).1
            omega
        · obtain ⟨v, hv, e3, _⟩ := up_there hg hy hd
          have hvs : v.path.size < y.path.size := by rw [e3]; exact root_size hgr hd
          rw [seat_up hg hd hv e3] at hs
          by_cases hd2 : dirE x.path = ⟨#[]⟩
          · unfold seatF at hs
            rw [if_pos hd2] at hs
            have := (Prod.mk.inj hs).1
            have := (hgi.low v hv).1
            omega
          · obtain ⟨u, hu, e1, _⟩ := up_there hf hx hd2
            rw [seat_up hf hd2 hu e1] at hs
            obtain ⟨h5, h6⟩ := Prod.mk.inj hs
            match n, hn with
            | 0, hn => omega
            | n + 1, hn =>
              rcases moved_up hf hfi hg hgi hr n v (by omega) hv with ⟨u', hu', e4, e5⟩ | ⟨v', hv', h7, h8⟩
              · refine .inl ⟨x, hx, e, path_same hfr hgr ?_ h6⟩
                rw [← e1, ← e3, ← e5, hfi.one u' hu' u hu (e4.trans h5.symm)]
              · exact .inr ⟨v', hv', by omega, h8⟩
      · exact .inr ⟨y, hy, Nat.le_refl _, by rw [h2, if_pos hs]; simp⟩
theorem flat_two {α β : Type} {g : α → List β} {a b : α} : ∀ {l : List α}, a ∈ l → b ∈ l → a ≠ b → g a ≠ [] → g b ≠ [] → 2 ≤ (l.flatMap g).length
  | c :: l, ha, hb, hne, h1, h2 => by
    have pos : ∀ {z : α} {l : List α}, z ∈ l → g z ≠ [] → 1 ≤ (l.flatMap g).length := fun {z l} hz h => by
      cases h3 : l.flatMap g with
      | nil => exact absurd (List.flatMap_eq_nil_iff.1 h3 z hz) h
      | cons => simp
    have p1 : ∀ {z : α}, g z ≠ [] → 1 ≤ (g z).length := fun {z} h => by
      cases h3 : g z with
      | nil => exact absurd h3 h
      | cons => simp
    rw [List.flatMap_cons, List.length_append]
    rcases List.mem_cons.1 ha with rfl | ha2
    · rcases List.mem_cons.1 hb with rfl | hb2
      · exact absurd rfl hne
      · have h3 := pos hb2 h2
        have h4 := p1 h1
        omega
    · rcases List.mem_cons.1 hb with rfl | hb2
      · have h3 := pos ha2 h1
        have h4 := p1 h2
        omega
      · have := flat_two ha2 hb2 hne h1 h2
        omega
/-- What is asked of a change; n: how many there are. -/
def ChOK (f g : Fs) (n : Nat) (c : Chg) : Prop :=
  (c.kind = 1 ∧ ∃ y, getI f.es c.id = none ∧ getI g.es c.id = some y ∧ y.path = c.path ∧ y.data = c.data) ∨
  (c.kind = 4 ∧ ∃ x, getI f.es c.id = some x ∧ getI g.es c.id = none ∧ x.path = c.path) ∨
  (c.kind = 2 ∧ ∃ x y, getI f.es c.id = some x ∧ getI g.es c.id = some y ∧ ¬ (x.path = y.path ∧ n = 1)) ∨
  (c.kind = 3 ∧ ∃ x y, getI f.es c.id = some x ∧ getI g.es c.id = some y ∧ x.data ≠ y.data ∧ c.data = y.data)
theorem seat_two {f g : Fs} (hf : FsOK f) (hfi : IdsOK f) (hg : FsOK g) (hgi : IdsOK g) (hr : PlayR f g) {x y : Ent} (hx : x ∈ f.es) (hy : y ∈ g.es) (hp : x.path = y.path) (hs : seatF f.es x.path ≠ seatF g.es y.path)
    (hc : chgsK (knowF f) (knowF g) (toK y) ≠ []) : 2 ≤ (g.es.flatMap fun y => chgsK (knowF f) (knowF g) (toK y)).length := by
  have hgr := path_rights (hg.path y hy)
  by_cases hd : dirE y.path = ⟨#[]⟩
  · refine absurd ?_ hs
    unfold seatF
    rw [hp, if_pos hd, if_pos hd]
  · obtain ⟨v, hv, e3, _⟩ := up_there hg hy hd
    obtain ⟨u, hu, e1, _⟩ := up_there hf hx (by rw [hp]; exact hd)
    have hvs : v.path.size < y.path.size := by rw [e3]; exact root_size hgr hd
    rcases moved_up hf hfi hg hgi hr _ v (Nat.le_refl _) hv with ⟨u', hu', e4, e5⟩ | ⟨v', hv', h7, h8⟩
    · refine absurd ?_ hs
      have h1 : u' = u := rising_one hf.rise hu' hu (by rw [e5, e3, e1, hp])
      rw [seat_up hg hd hv e3, seat_up hf (by rw [hp]; exact hd) hu e1, ← h1, e4, hp]
    · refine flat_two (a := v') (b := y) hv' hy (fun e => ?_) h8 hc
      rw [e] at h7
      omega
theorem scan_flat {f g : Fs} (hf : FsOK f) (hfi : IdsOK f) (hg : FsOK g) (hgi : IdsOK g) : scanK (f.es.map toK) g.es = (g.es.flatMap fun y => chgsK (knowF f) (knowF g) (toK y)) ++ ((knowF f).filter (dropQ (knowF f) (knowF g))).map dropC := by
  have h := scan_form (know_uniq hf hfi) (know_uniq hg hgi)
  rw [show (f.es.map toK) = knowF f from rfl, h]
  unfold knowF
  rw [List.flatMap_map]
theorem drop_iff {f g : Fs} (hf : FsOK f) (hfi : IdsOK f) (hg : FsOK g) (hgi : IdsOK g) (hr : PlayR f g) {x : Ent} (hx : x ∈ f.es) : dropQ (knowF f) (knowF g) (toK x) = ((getI g.es x.id).isNone && (decide (dirE x.path = ⟨#[]⟩) || atK (knowF f) (knowF g) (dirE x.path))) := by
  unfold dropQ
  show (!keptK (knowF f) (knowF g) x.id && (decide ((splitK x.path).1 = ⟨#[]⟩) || atK (knowF f) (knowF g) (splitK x.path).1)) = _
  rw [split_E, kept_iff hf hfi hg hgi hr, getI_of hfi hx]
  cases getI g.es x.id <;> rfl
theorem scan_asked {f g : Fs} (hf : FsOK f) (hfi : IdsOK f) (hg : FsOK g) (hgi : IdsOK g) (hr : PlayR f g) : ∀ c ∈ scanK (f.es.map toK) g.es, ChOK f g (scanK (f.es.map toK) g.es).length c := by
  intro c hc
  rw [scan_flat hf hfi hg hgi] at hc ⊢
  rw [List.length_append]
  rcases List.mem_append.1 hc with hc | hc
  · obtain ⟨y, hy, hc⟩ := List.mem_flatMap.1 hc
    rcases chgs_form hf hfi hg hgi hr hy with ⟨h1, h2⟩ | ⟨x, hx, e, h1, h2⟩
    · rw [h2, List.mem_singleton] at hc
      subst hc
      exact .inl ⟨rfl, y, h1, getI_of hgi hy, rfl, rfl⟩
    · have hgy := getI_of hgi hy
      rw [h2] at hc
      rcases List.mem_append.1 hc with hc | hc
      · split at hc
        · rename_i hs
          rw [List.mem_singleton] at hc
          subst hc
          refine .inr (.inr (.inl ⟨rfl, x, y, h1, hgy, fun h => ?_⟩))
          have := seat_two hf hfi hg hgi hr hx hy h.1 hs (by rw [h2, if_pos hs]; simp)
          have := h.2
          omega
        · cases hc
      · split at hc
        · rename_i hs
          rw [List.mem_singleton] at hc
          subst hc
          rw [Bool.and_eq_true, decide_eq_true_eq] at hs
          exact .inr (.inr (.inr ⟨rfl, x, y, h1, hgy, fun e => hs.2 e.symm, rfl⟩))
        · cases hc
  · obtain ⟨k, hk, rfl⟩ := List.mem_map.1 hc
    obtain ⟨hk1, hk2⟩ := List.mem_filter.1 hk
    obtain ⟨x, hx, rfl⟩ := List.mem_map.1 hk1
    rw [drop_iff hf hfi hg hgi hr hx, Bool.and_eq_true] at hk2
    refine .inr (.inl ⟨rfl, x, getI_of hfi hx, ?_, rfl⟩)
    exact Option.isNone_iff_eq_none.1 hk2.1
theorem count_flat {α β : Type} {g : α → List β} {p : β → Bool} {q : α → Bool} : ∀ {l : List α}, (∀ y ∈ l, (g y).countP p = if q y then 1 else 0) → (l.flatMap g).countP p = l.countP q
  | [], _ => rfl
  | c :: l, h => by
    rw [List.flatMap_cons, List.countP_append, List.countP_cons, h c List.mem_cons_self, count_flat fun y hy => h y (List.mem_cons_of_mem _ hy)]
    omega
def isMade (c : Chg) : Bool := decide (c.kind = 1)
def isDrop (c : Chg) : Bool := decide (c.kind = 4)
def isFresh (f : Fs) (y : Ent) : Bool := (getI f.es y.id).isNone
theorem count_none {α : Type} {p : α → Bool} {l : List α} (h : ∀ x ∈ l, p x = false) : l.countP p = 0 := List.countP_eq_zero.2 fun x hx e => by
  rw [h x hx] at e
  cases e
theorem count_all {α : Type} {p : α → Bool} {l : List α} (h : ∀ x ∈ l, p x = true) : l.countP p = l.length := List.countP_eq_length.2 h
/-- How many are made. -/
theorem scan_made_n {f g : Fs} (hf : FsOK f) (hfi : IdsOK f) (hg : FsOK g) (hgi : IdsOK g) (hr : PlayR f g) : (scanK (f.es.map toK) g.es).countP isMade = g.es.countP (isFresh f) := by
  rw [scan_flat hf hfi hg hgi, List.countP_append, count_none (l := List.map dropC _) (fun c hc => by
    obtain ⟨k, _, rfl⟩ := List.mem_map.1 hc
    rfl), Nat.add_zero]
  refine count_flat fun y hy => ?_
  rcases chgs_form hf hfi hg hgi hr hy with ⟨h1, h2⟩ | ⟨x, hx, e, h1, h2⟩
  · rw [h2]
    unfold isFresh
    rw [h1]
    rfl
  · rw [h2]
    unfold isFresh
    rw [h1, List.countP_append]
    have a1 : List.countP isMade (if seatF f.es x.path ≠ seatF g.es y.path then [(⟨2, y.id, y.path, y.dir, ⟨#[]⟩⟩ : Chg)] else []) = 0 := by split <;> rfl
    have a2 : List.countP isMade (if (!y.dir && decide (y.data ≠ x.data)) = true then [(⟨3, y.id, y.path, false, y.data⟩ : Chg)] else []) = 0 := by split <;> rfl
    rw [a1, a2]
    rfl
/-- How many are dropped. -/
theorem scan_drop_n {f g : Fs} (hf : FsOK f) (hfi : IdsOK f) (hg : FsOK g) (hgi : IdsOK g) (hr : PlayR f g) : (scanK (f.es.map toK) g.es).countP isDrop = (f.es.filter fun x => dropQ (knowF f) (knowF g) (toK x)).length := by
  rw [scan_flat hf hfi hg hgi, List.countP_append, count_all (l := List.map dropC _) (fun c hc => by
    obtain ⟨k, _, rfl⟩ := List.mem_map.1 hc
    rfl), List.length_map]
  have h1 : List.countP isDrop (g.es.flatMap fun y => chgsK (knowF f) (knowF g) (toK y)) = 0 := by
    refine count_none fun c hc => ?_
    obtain ⟨y, hy, hc⟩ := List.mem_flatMap.1 hc
    rcases chgs_form hf hfi hg hgi hr hy with ⟨_, h2⟩ | ⟨x, _, _, _, h2⟩
    · rw [h2, List.mem_singleton] at hc
      subst hc
      rfl
    · rw [h2] at hc
      rcases List.mem_append.1 hc with hc | hc
      · split at hc
        · rw [List.mem_singleton] at hc
          subst hc
          rfl
        · cases hc
      · split at hc
        · rw [List.mem_singleton] at hc
          subst hc
          rfl
        · cases hc
  rw [h1, Nat.zero_add]
  unfold knowF
  rw [List.filter_map, List.length_map]
  rfl
theorem gone_up {f g : Fs} (hf : FsOK f) (hfi : IdsOK f) (hg : FsOK g) (hgi : IdsOK g) (hr : PlayR f g) : ∀ (n : Nat) (x : Ent), x.path.size ≤ n → x ∈ f.es → getI g.es x.id = none → ∃ z ∈ f.es, dropQ (knowF f) (knowF g) (toK z) = true
  | n, x, hn, hx, hno => by
    by_cases hd : dirE x.path = ⟨#[]⟩
    · refine ⟨x, hx, ?_⟩
      rw [drop_iff hf hfi hg hgi hr hx, hno, decide_eq_true hd]
      rfl
    · obtain ⟨u, hu, e1, _⟩ := up_there hf hx hd
      have hus : u.path.size < x.path.size := by rw [e1]; exact root_size (path_rights (hf.path x hx)) hd
      cases h1 : getI g.es u.id with
      | none =>
        match n, hn with
        | 0, hn => omega
        | n + 1, hn => exact gone_up hf hfi hg hgi hr n u (by omega) hu h1
      | some v =>
        refine ⟨x, hx, ?_⟩
        rw [drop_iff hf hfi hg hgi hr hx, hno, decide_eq_false hd]
        show atK (knowF f) (knowF g) (dirE x.path) = true
        unfold atK knowF
        rw [List.find?_map]
        have e2 : List.find? ((fun x_1 : KEnt => decide (x_1.path = dirE x.path)) ∘ toK) f.es = some u := by
          rw [← e1]
          exact find_of hf.rise hu
        rw [e2]
        show keptK (knowF f) (knowF g) u.id = true
        rw [kept_iff hf hfi hg hgi hr, getI_of hfi hu, h1]
        rfl
theorem scan_gone {f g : Fs} (hf : FsOK f) (hfi : IdsOK f) (hg : FsOK g) (hgi : IdsOK g) (hr : PlayR f g) : (scanK (f.es.map toK) g.es).countP isDrop ≤ f.es.countP (isFresh g) ∧ (0 < (scanK (f.es.map toK) g.es).countP isDrop ↔ 0 < f.es.countP (isFresh g)) := by
  rw [scan_drop_n hf hfi hg hgi hr, ← List.countP_eq_length_filter]
  have hle : f.es.countP (fun x => dropQ (knowF f) (knowF g) (toK x)) ≤ f.es.countP (isFresh g) := by
    refine List.countP_mono_left fun x hx h => ?_
    rw [drop_iff hf hfi hg hgi hr hx, Bool.and_eq_true] at h
    exact h.1
  refine ⟨hle, fun h => by omega, fun h => ?_⟩
  obtain ⟨x, hx, h1⟩ := List.countP_pos_iff.1 h
  obtain ⟨z, hz, h2⟩ := gone_up hf hfi hg hgi hr _ x (Nat.le_refl _) hx (Option.isNone_iff_eq_none.1 h1)
  exact List.countP_pos_iff.2 ⟨z, hz, h2⟩
end Go.Proofs.YtgjgeojhhglidaaDoor

