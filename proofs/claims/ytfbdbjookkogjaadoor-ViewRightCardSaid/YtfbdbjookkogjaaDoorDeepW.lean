/-
  What operations make of a tree: each node goes up to the root or to the trash, through directories (plain law). Which nodes of a tree its view has: the plain law of ViewRight. Which nodes of a tree its view has: the law's walk.
-/
import Derived.Test.YtfbdbjookkogjaaDoorNamedW
import Derived.Test.YtfbdbjookkogjaaDoorWiderW
namespace Go.Proofs.YtfbdbjookkogjaaDoor
open Go Go.RowKit Go.Lib
/-- The way up from a stamp. -/
inductive Goes (l : List Nd) : Int → Int → List (Int × Int) → Prop
  | stop {c q : Int} (h : c = 0 ∧ (q = 0 ∨ q = 1)) : Goes l c q [(c, q)]
  | on {c q : Int} {n : Nd} {L : List (Int × Int)} (hn : n ∈ l) (hc : n.cnt = c) (hq : n.who = q) (t : Goes l n.pc n.pw L) : Goes l c q ((c, q) :: L)
structure Inv (l : List Nd) : Prop where
  ris : RisN l
  ids : ∀ n ∈ l, 1 ≤ n.cnt
  ups : ∀ n ∈ l, (n.pc = 0 ∧ (n.pw = 0 ∨ n.pw = 1)) ∨ ∃ p ∈ l, p.dir = true ∧ p.cnt = n.pc ∧ p.who = n.pw
  goes : ∀ n ∈ l, ∃ L, Goes l n.cnt n.who L
theorem goes_det {l : List Nd} (hr : RisN l) (hi : ∀ n ∈ l, 1 ≤ n.cnt) {c q : Int} {L : List (Int × Int)} (h : Goes l c q L) : ∀ M, Goes l c q M → L = M := by
  induction h with
  | stop h =>
    intro M hM
    cases hM with
    | stop _ => rfl
    | on hn hc _ _ =>
      have := hi _ hn
      omega
  | on hn hc hq _ ih =>
    intro M hM
    cases hM with
    | stop h =>
      have := hi _ hn
      omega
    | on hn2 hc2 hq2 t2 =>
      have e := ris_same hr hn hn2 (hc.trans hc2.symm) (hq.trans hq2.symm)
      subst e
      rw [ih _ t2]
theorem goes_mono {l l' : List Nd} (hs : ∀ y ∈ l, y ∈ l') {c q : Int} {L : List (Int × Int)} (h : Goes l c q L) : Goes l' c q L := by
  induction h with
  | stop h => exact .stop h
  | on hn hc hq _ ih => exact .on (hs _ hn) hc hq ih
theorem goes_sub {l : List Nd} {c q : Int} {L : List (Int × Int)} (h : Goes l c q L) : ∀ a b, (a, b) ∈ L → ∃ M, Goes l a b M ∧ M.length ≤ L.length := by
  induction h with
  | stop h =>
    intro a b hm
    rw [List.mem_singleton] at hm
    cases hm
    exact ⟨_, .stop h, Nat.le_refl _⟩
  | on hn hc hq t ih =>
    intro a b hm
    rcases List.mem_cons.1 hm with e | hm
    · cases e
      exact ⟨_, .on hn hc hq t, Nat.le_refl _⟩
    · obtain ⟨M, h1, h2⟩ := ih a b hm
      exact ⟨M, h1, by rw [List.length_cons]; omega⟩
theorem goes_nodup {l : List Nd} (hr : RisN l) (hi : ∀ n ∈ l, 1 ≤ n.cnt) {c q : Int} {L : List (Int × Int)} (h : Goes l c q L) : L.Nodup := by
  induction h with
  | stop h => simp
  | on hn hc hq t ih =>
    rw [List.nodup_cons]
    refine ⟨fun hm => ?_, ih⟩
    obtain ⟨M, h1, h2⟩ := goes_sub t _ _ hm
    have h3 := goes_det hr hi (.on hn hc hq t) _ h1
    rw [← h3, List.length_cons] at h2
    omega
theorem goes_in {l : List Nd} {c q : Int} {L : List (Int × Int)} (h : Goes l c q L) : ∀ p ∈ L, p ∈ (0, 0) :: (0, 1) :: l.map idN := by
  induction h with
  | stop h =>
    obtain ⟨rfl, h | h⟩ := h <;> subst h <;> intro p hp <;> rw [List.mem_singleton] at hp <;> subst hp <;> simp
  | @on c q n L hn hc hq t ih =>
    intro p hp
    rcases List.mem_cons.1 hp with rfl | hp
    · refine List.mem_cons_of_mem _ (List.mem_cons_of_mem _ (List.mem_map.2 ⟨_, hn, ?_⟩))
      unfold idN
      rw [hc, hq]
    · exact ih p hp
theorem goes_len {l : List Nd} (hr : RisN l) (hi : ∀ n ∈ l, 1 ≤ n.cnt) {c q : Int} {L : List (Int × Int)} (h : Goes l c q L) : L.length ≤ l.length + 2 := by
  have h1 := length_le_of_sub L _ (goes_nodup hr hi h) (goes_in h)
  rw [List.length_cons, List.length_cons, List.length_map] at h1
  exact h1
theorem find_root {l : List Nd} (hi : ∀ n ∈ l, 1 ≤ n.cnt) {q : Int} : (findT l 0 q).2 = false := by
  cases h : (findT l 0 q).2 with
  | false => rfl
  | true =>
    obtain ⟨h1, h2, _⟩ := findT_mem h
    have := hi _ h1
    omega
theorem chainGo_goes {l : List Nd} (hr : RisN l) (hi : ∀ n ∈ l, 1 ≤ n.cnt) {c q : Int} {L : List (Int × Int)} (h : Goes l c q L) : ∀ (f : Nat) (out : List (Int × Int)), L.Nodup → L.length ≤ f → (∀ p ∈ L, p ∉ out) → (out ≠ [] ∨ (findT l c q).2 = true) → chainGo l f c q out = out ++ L := by
  induction h with
  | @stop c q h =>
    intro f out hd hf ho hn
    obtain ⟨f, rfl⟩ : ∃ g, f = g + 1 := ⟨f - 1, by rw [List.length_singleton] at hf; omega⟩
    have h1 : (findT l c q).2 = false := by
      rw [h.1]
      exact find_root hi
    rw [chain_end (ho _ (by simp)) h1]
    rcases hn with hn | hn
    · rw [if_neg hn]
    · rw [h1] at hn
      cases hn
  | @on c q n L hn hc hq t ih =>
    intro f out hd hf ho _
    obtain ⟨f, rfl⟩ : ∃ g, f = g + 1 := ⟨f - 1, by rw [List.length_cons] at hf; omega⟩
    have h1 : findT l c q = (n, true) := by
      rw [← hc, ← hq]
      exact findT_own hr hn
    rw [chain_on (ho _ (by simp)) (by rw [h1]), h1]
    obtain ⟨h2, h3⟩ := List.nodup_cons.1 hd
    rw [ih f (out ++ [(c, q)]) h3 (by rw [List.length_cons] at hf; omega) (fun p hp => ?_) (.inl (by simp)), List.append_assoc, List.singleton_append]
    intro hm
    rcases List.mem_append.1 hm with hm | hm
    · exact ho p (List.mem_cons_of_mem _ hp) hm
    · rw [List.mem_singleton.1 hm] at hp
      exact h2 hp
theorem chainT_goes {l : List Nd} (hr : RisN l) (hi : ∀ n ∈ l, 1 ≤ n.cnt) {c q : Int} {L : List (Int × Int)} (h : Goes l c q L) (hf : (findT l c q).2 = true) : chainT l c q = L := by
  unfold chainT
  rw [chainGo_goes hr hi h _ [] (goes_nodup hr hi h) (goes_len hr hi h) (fun _ _ hm => by cases hm) (.inr hf), List.nil_append]
theorem mem_grownT2 {l : List Nd} {n m : Nd} : m ∈ grownT l n ↔ m = n ∨ m ∈ l := by
  refine ⟨mem_grownT, fun h => ?_⟩
  unfold grownT
  rw [List.mem_append, List.mem_cons]
  rcases h with rfl | h
  · exact .inr (.inl rfl)
  · rw [← List.take_append_drop (l.findIdx (ltNd n)) l, List.mem_append] at h
    exact h.imp id .inr
theorem takes_of {l : List Nd} {c q : Int} (h : takesT l c q = true) : (c = 0 ∧ q = 0) ∨ ((findT l c q).2 = true ∧ ∃ p ∈ l, p.dir = true ∧ p.cnt = c ∧ p.who = q) := by
  unfold takesT at h
  rw [Bool.or_eq_true, decide_eq_true_eq, Bool.and_eq_true] at h
  rcases h with h | ⟨h1, h2⟩
  · exact .inl h
  · obtain ⟨h3, h4, h5⟩ := findT_mem h1
    exact .inr ⟨h1, _, h3, h2, h4, h5⟩
theorem grown_inv {l : List Nd} {n : Nd} (h : Inv l) (hr : RisN (grownT l n)) (hi : 1 ≤ n.cnt) (hu : (n.pc = 0 ∧ (n.pw = 0 ∨ n.pw = 1)) ∨ ∃ p ∈ l, p.dir = true ∧ p.cnt = n.pc ∧ p.who = n.pw) : Inv (grownT l n) := by
  have hs : ∀ y ∈ l, y ∈ grownT l n := fun y hy => mem_grownT2.2 (.inr hy)
  have hup : ∀ m : Nd, ((m.pc = 0 ∧ (m.pw = 0 ∨ m.pw = 1)) ∨ ∃ p ∈ l, p.dir = true ∧ p.cnt = m.pc ∧ p.who = m.pw) → ((m.pc = 0 ∧ (m.pw = 0 ∨ m.pw = 1)) ∨ ∃ p ∈ grownT l n, p.dir = true ∧ p.cnt = m.pc ∧ p.who = m.pw) := fun m hm => by
    rcases hm with hm | ⟨p, hp, h2⟩
    · exact .inl hm
    · exact .inr ⟨p, hs p hp, h2⟩
  refine ⟨hr, fun m hm => ?_, fun m hm => ?_, fun m hm => ?_⟩
  · rcases mem_grownT hm with rfl | hm
    · exact hi
    · exact h.ids m hm
  · rcases mem_grownT hm with rfl | hm
    · exact hup _ hu
    · exact hup _ (h.ups m hm)
  · rcases mem_grownT hm with rfl | hm2
    · rcases hu with hu | ⟨p, hp, _, h2, h3⟩
      · exact ⟨_, .on hm rfl rfl (.stop hu)⟩
      · obtain ⟨L, hL⟩ := h.goes p hp
        rw [h2, h3] at hL
        exact ⟨_, .on hm rfl rfl (goes_mono hs hL)⟩
    · obtain ⟨L, hL⟩ := h.goes m hm2
      exact ⟨L, goes_mono hs hL⟩
theorem goes_avoid {l l' : List Nd} {n : Nd} (hs : ∀ y ∈ l, idN y ≠ idN n → y ∈ l') {c q : Int} {L : List (Int × Int)} (h : Goes l c q L) : idN n ∉ L → Goes l' c q L := by
  induction h with
  | stop h => exact fun _ => .stop h
  | on hn hc hq t ih =>
    intro hm
    refine .on (hs _ hn (fun e => hm ?_)) hc hq (ih (fun h2 => hm (List.mem_cons_of_mem _ h2)))
    rw [← e]
    unfold idN
    rw [hc, hq]
    simp
theorem goes_turn {l l' : List Nd} {n m : Nd} (hs : ∀ y ∈ l, idN y ≠ idN n → y ∈ l') (hm : m ∈ l') (e : idN m = idN n) {L0 : List (Int × Int)} (h0 : Goes l' m.pc m.pw L0) {c q : Int} {L : List (Int × Int)} (h : Goes l c q L) : ∃ L', Goes l' c q L' := by
  induction h with
  | stop h => exact ⟨_, .stop h⟩
  | @on c q y L hn hc hq t ih =>
    by_cases e2 : idN y = idN n
    · have e3 : idN m = (c, q) := by rw [e, ← e2]; unfold idN; rw [hc, hq]
      obtain ⟨e4, e5⟩ := Prod.mk.inj e3
      exact ⟨_, .on hm e4 e5 h0⟩
    · obtain ⟨L', hL⟩ := ih
      exact ⟨_, .on (hs y hn e2) hc hq hL⟩
theorem turn_inv {l : List Nd} {n m : Nd} {i : Nat} (h : Inv l) (hn : l[i]? = some n) (e : idN m = idN n) (hd : m.dir = n.dir) (hr : RisN (l.set i m))
    (hu : (m.pc = 0 ∧ (m.pw = 0 ∨ m.pw = 1)) ∨ ∃ p ∈ l, p.dir = true ∧ p.cnt = m.pc ∧ p.who = m.pw) (hg : ∃ L, Goes l m.pc m.pw L ∧ idN n ∉ L) : Inv (l.set i m) := by
  obtain ⟨hlt, hni⟩ := List.getElem?_eq_some_iff.1 hn
  have hnl := List.mem_of_getElem? hn
  have hmm : m ∈ l.set i m := List.mem_iff_getElem?.2 ⟨i, by rw [List.getElem?_set, if_pos rfl, if_pos hlt]⟩
  have hs : ∀ y ∈ l, idN y ≠ idN n → y ∈ l.set i m := fun y hy hne => by
    obtain ⟨j, hj⟩ := List.mem_iff_getElem?.1 hy
    refine List.mem_iff_getElem?.2 ⟨j, ?_⟩
    rw [List.getElem?_set, if_neg (fun e2 => ?_), hj]
    subst e2
    rw [hn] at hj
    cases hj
    exact hne rfl
  obtain ⟨e1, e2⟩ := Prod.mk.inj e
  have hup : ∀ k : Nd, ((k.pc = 0 ∧ (k.pw = 0 ∨ k.pw = 1)) ∨ ∃ p ∈ l, p.dir = true ∧ p.cnt = k.pc ∧ p.who = k.pw) → ((k.pc = 0 ∧ (k.pw = 0 ∨ k.pw = 1)) ∨ ∃ p ∈ l.set i m, p.dir = true ∧ p.cnt = k.pc ∧ p.who = k.pw) := fun k hk => by
    rcases hk with hk | ⟨p, hp, h1, h2, h3⟩
    · exact .inl hk
    · by_cases e3 : idN p = idN n
      · obtain ⟨e4, e5⟩ := Prod.mk.inj e3
        have e6 := ris_same h.ris hp hnl e4 e5
        subst e6
        exact .inr ⟨m, hmm, hd.trans h1, e1.trans h2, e2.trans h3⟩
      · exact .inr ⟨p, hs p hp e3, h1, h2, h3⟩
  obtain ⟨L0, hL0, hav⟩ := hg
  have h0 := goes_avoid hs hL0 hav
  refine ⟨hr, fun y hy => ?_, fun y hy => ?_, fun y hy => ?_⟩
  · rcases List.mem_or_eq_of_mem_set hy with hy | rfl
    · exact h.ids y hy
    · rw [e1]
      exact h.ids n hnl
  · rcases List.mem_or_eq_of_mem_set hy with hy | rfl
    · exact hup y (h.ups y hy)
    · exact hup _ hu
  · rcases List.mem_or_eq_of_mem_set hy with hy | rfl
    · obtain ⟨L, hL⟩ := h.goes y hy
      exact goes_turn hs hmm e h0 hL
    · exact ⟨_, .on hmm rfl rfl h0⟩
theorem doT_inv {l : List Nd} {x : Opr} (h : Inv l) (hx : 1 ≤ x.nc) : Inv (doT l x) := by
  have hris := doT_ris (x := x) h.ris
  unfold doT at hris ⊢
  split
  · rename_i hf
    rw [if_pos hf] at hris
    split
    · rename_i hk
      rw [if_pos hk] at hris
      refine grown_inv h hris ?_ ?_
      · unfold madeT
        split <;> exact hx
      · unfold madeT
        split
        · rename_i ht
          rcases takes_of ht with ⟨h1, h2⟩ | ⟨_, h1⟩
          · exact .inl ⟨h1, .inl h2⟩
          · exact .inr h1
        · exact .inl ⟨rfl, .inr rfl⟩
    · exact h
  · rename_i hf
    have hf2 : (findT l x.nc x.nw).2 = true := by simpa using hf
    rw [if_neg hf] at hris
    split
    · exact h
    · rename_i hk
      rw [if_neg hk] at hris
      split
      · rename_i ht
        rw [if_pos ht] at hris
        have hat := findT_at hf2
        obtain ⟨hm1, hm2, hm3⟩ := findT_mem hf2
        obtain ⟨n, hn⟩ : ∃ n, (findT l x.nc x.nw).1 = n := ⟨_, rfl⟩
        rw [hn] at ht hris hat hm1 hm2 hm3 ⊢
        obtain ⟨L, hL⟩ := h.goes n hm1
        obtain ⟨t1, t2⟩ := turnedT_id l n x
        refine turn_inv h hat (by unfold idN; rw [t1, t2]) ?_ hris ?_ ?_
        · unfold turnedT
          split
          · rfl
          · split
            · rfl
            · split <;> rfl
        · unfold turnedT at ht ⊢
          split
          · rename_i h2
            rw [if_pos h2] at ht
            rw [Bool.and_eq_true] at ht
            rcases takes_of ht.1 with ⟨h3, h4⟩ | ⟨_, h3⟩
            · exact .inl ⟨h3, .inl h4⟩
            · exact .inr h3
          · rename_i h2
            rw [if_neg h2] at ht
            split
            · exact h.ups n hm1
            · rename_i h3
              rw [if_neg h3] at ht
              split
              · exact .inl ⟨rfl, .inr rfl⟩
              · rename_i h4
                rw [if_neg h4] at ht
                cases ht
        · have hown : ∃ L, Goes l n.pc n.pw L ∧ idN n ∉ L := by
            cases hL with
            | stop h2 =>
              have := h.ids n hm1
              omega
            | @on _ _ n2 L2 hn2 hc hq t =>
              have e := ris_same h.ris hn2 hm1 hc hq
              subst e
              exact ⟨L2, t, (List.nodup_cons.1 (goes_nodup h.ris h.ids (.on hn2 rfl rfl t))).1⟩
          have htrash : ∀ q : Int, (q = 0 ∨ q = 1) → ∃ L, Goes l 0 q L ∧ idN n ∉ L := fun q hq => by
            refine ⟨_, .stop ⟨rfl, hq⟩, fun hm => ?_⟩
            rw [List.mem_singleton] at hm
            have h3 := (Prod.mk.inj hm).1
            have := h.ids n hm1
            omega
          unfold turnedT at ht ⊢
          split
          · rename_i h2
            rw [if_pos h2] at ht
            rw [Bool.and_eq_true] at ht
            rcases takes_of ht.1 with ⟨h3, h4⟩ | ⟨hf3, p, hp, _, h3, h4⟩
            · show ∃ L, Goes l x.pc x.pw L ∧ idN n ∉ L
              rw [h3, h4]
              exact htrash 0 (.inl rfl)
            · obtain ⟨M, hM⟩ := h.goes p hp
              rw [h3, h4] at hM
              have h5 := ht.2
              rw [chainT_goes h.ris h.ids hM hf3] at h5
              refine ⟨M, hM, fun hm => ?_⟩
              unfold idN at hm
              rw [hm2, hm3] at hm
              rw [decide_eq_true hm] at h5
              cases h5
          · rename_i h2
            rw [if_neg h2] at ht
            split
            · exact hown
            · rename_i h3
              rw [if_neg h3] at ht
              split
              · exact htrash 1 (.inr rfl)
              · exact hown
      · exact h
theorem foldFrom_inv : ∀ (ops : List Opr) (l : List Nd), Inv l → (∀ x ∈ ops, 1 ≤ x.nc) → Inv (ops.foldl doT l)
  | [], _, h, _ => h
  | x :: r, l, h, hx => foldFrom_inv r (doT l x) (doT_inv h (hx x List.mem_cons_self)) (fun y hy => hx y (List.mem_cons_of_mem _ hy))
theorem inv_nil : Inv [] := ⟨List.Pairwise.nil, fun _ h => (by cases h), fun _ h => (by cases h), fun _ h => (by cases h)⟩
theorem foldT_inv {ops : List Opr} (hx : ∀ x ∈ ops, 1 ≤ x.nc) : Inv (foldT ops) := foldFrom_inv ops [] inv_nil hx
theorem doT_bright {l : List Nd} {x : Opr} (h : ∀ n ∈ l, bright n.name = true) (hx : (x.kind = 1 ∨ x.kind = 2) → bright x.name = true) : ∀ n ∈ doT l x, bright n.name = true := by
  intro n hn
  unfold doT at hn
  split at hn
  · split at hn
    · rename_i hk
      rcases mem_grownT hn with rfl | hn
      · unfold madeT
        split <;> exact hx (.inl hk)
      · exact h n hn
    · exact h n hn
  · rename_i hf
    have hm := h _ (findT_mem (by simpa using hf : (findT l x.nc x.nw).2 = true)).1
    split at hn
    · exact h n hn
    · split at hn
      · rcases List.mem_or_eq_of_mem_set hn with hn | rfl
        · exact h n hn
        · unfold turnedT
          split
          · rename_i hk
            exact hx (.inr hk)
          · split
            · exact hm
            · split <;> exact hm
      · exact h n hn
theorem foldFrom_bright : ∀ (ops : List Opr) (l : List Nd), (∀ n ∈ l, bright n.name = true) → (∀ x ∈ ops, (x.kind = 1 ∨ x.kind = 2) → bright x.name = true) → ∀ n ∈ ops.foldl doT l, bright n.name = true
  | [], _, h, _ => h
  | x :: r, l, h, hx => foldFrom_bright r (doT l x) (doT_bright h (hx x List.mem_cons_self)) (fun y hy => hx y (List.mem_cons_of_mem _ hy))
theorem foldT_bright {ops : List Opr} (hx : ∀ x ∈ ops, (x.kind = 1 ∨ x.kind = 2) → bright x.name = true) : ∀ n ∈ foldT ops, bright n.name = true := foldFrom_bright ops [] (fun _ h => by cases h) hx
end Go.Proofs.YtfbdbjookkogjaaDoor

namespace Go.Proofs.YtfbdbjookkogjaaDoor
open Go Go.RowKit Go.Lib
/-- The stamp so many steps above a node's parent. -/
inductive Up (l : List Nd) : Nat → Nd → Int → Int → Prop
  | here {n : Nd} {c w : Int} (h1 : n.pc = c) (h2 : n.pw = w) : Up l 0 n c w
  | over {k : Nat} {n p : Nd} {c w : Int} (hp : p ∈ l) (e1 : p.cnt = n.pc) (e2 : p.who = n.pw) (t : Up l k p c w) : Up l (k + 1) n c w
theorem up_det {l : List Nd} (hr : RisN l) {k : Nat} {n : Nd} {c w : Int} (h : Up l k n c w) : ∀ c' w', Up l k n c' w' → c = c' ∧ w = w' := by
  induction h with
  | here h1 h2 =>
    intro c' w' h
    cases h with
    | here h3 h4 => exact ⟨h1.symm.trans h3, h2.symm.trans h4⟩
  | over hp e1 e2 t ih =>
    intro c' w' h
    cases h with
    | over hp2 e3 e4 t2 =>
      have e := ris_same hr hp hp2 (e1.trans e3.symm) (e2.trans e4.symm)
      subst e
      exact ih _ _ t2
theorem up_root {l : List Nd} (hr : RisN l) (hi : ∀ n ∈ l, 1 ≤ n.cnt) {k : Nat} {n : Nd} (h : ∃ c w, c = 0 ∧ w = 0 ∧ Up l k n c w) : ∀ k', Up l k' n 0 0 → k = k' := by
  obtain ⟨c, w, hc, hw, h⟩ := h
  induction h with
  | here h1 h2 =>
    intro k' h
    cases h with
    | here _ _ => rfl
    | over hp e1 _ _ =>
      have := hi _ hp
      omega
  | over hp e1 e2 t ih =>
    intro k' h
    cases h with
    | here h3 h4 =>
      have := hi _ hp
      omega
    | over hp2 e3 e4 t2 =>
      have e := ris_same hr hp hp2 (e1.trans e3.symm) (e2.trans e4.symm)
      subst e
      rw [ih hc hw _ t2]
theorem up_split {l : List Nd} : ∀ (k : Nat) (m : Nd) (c w : Int), Up l (k + 1) m c w → ∃ n ∈ l, n.pc = c ∧ n.pw = w ∧ Up l k m n.cnt n.who
  | 0, m, c, w, h => by
    cases h with
    | over hp e1 e2 t =>
      cases t with
      | here h1 h2 => exact ⟨_, hp, h1, h2, .here e1.symm e2.symm⟩
  | k + 1, m, c, w, h => by
    cases h with
    | over hp e1 e2 t =>
      obtain ⟨n, hn, h1, h2, h3⟩ := up_split k _ c w t
      exact ⟨n, hn, h1, h2, .over hp e1 e2 h3⟩
theorem up_trans {l : List Nd} {a : Nd} {c w : Int} {j : Nat} (ha : a ∈ l) (h2 : Up l j a c w) {k : Nat} {m : Nd} {c1 w1 : Int} (h : Up l k m c1 w1) : c1 = a.cnt → w1 = a.who → Up l (k + j + 1) m c w := by
  induction h with
  | here h3 h4 =>
    intro e1 e2
    rw [Nat.zero_add]
    exact .over ha (by rw [h3, e1]) (by rw [h4, e2]) h2
  | @over k n p c1 w1 hp e3 e4 t ih =>
    intro e1 e2
    have := ih e1 e2
    rw [show k + 1 + j + 1 = (k + j + 1) + 1 by omega]
    exact .over hp e3 e4 this
theorem up_dir {l : List Nd} (h : Inv l) {k : Nat} {m : Nd} {c w : Int} (hu : Up l k m c w) : m ∈ l → ∀ n ∈ l, n.cnt = c → n.who = w → n.dir = true := by
  induction hu with
  | @here m c w h1 h2 =>
    intro hm n hn e1 e2
    have := h.ids n hn
    rcases h.ups m hm with h3 | ⟨p, hp, h3, h4, h5⟩
    · omega
    · rw [ris_same h.ris hn hp (by omega) (by omega)]
      exact h3
  | over hp _ _ _ ih => exact fun _ => ih hp
/-- What the root is, or stands below it. -/
def Top (l : List Nd) (c w : Int) : Prop := (c = 0 ∧ w = 0) ∨ ∃ a ∈ l, a.cnt = c ∧ a.who = w ∧ ∃ d, Up l d a 0 0
theorem top_sub {l : List Nd} {c w : Int} (h : Top l c w) : ∃ e, ∀ n, n.pc = c → n.pw = w → Up l e n 0 0 := by
  rcases h with ⟨h1, h2⟩ | ⟨a, ha, h1, h2, d, hd⟩
  · exact ⟨0, fun n h3 h4 => .here (h3.trans h1) (h4.trans h2)⟩
  · exact ⟨d + 1, fun n h3 h4 => .over ha (h1.trans h3.symm) (h2.trans h4.symm) hd⟩
theorem top_child {l : List Nd} {c w : Int} (h : Top l c w) {n : Nd} (hn : n ∈ l) (h1 : n.pc = c) (h2 : n.pw = w) : Top l n.cnt n.who := by
  obtain ⟨e, he⟩ := top_sub h
  exact .inr ⟨n, hn, rfl, rfl, e, he n h1 h2⟩
theorem apart_sub {l : List Nd} (h : Inv l) {c w : Int} (ht : Top l c w) {a b m : Nd} (ha : a ∈ l) (hb : b ∈ l) (a1 : a.pc = c) (a2 : a.pw = w) (b1 : b.pc = c) (b2 : b.pw = w) {j k : Nat} (hj : Up l j m a.cnt a.who) (hk : Up l k m b.cnt b.who) : a = b := by
  obtain ⟨e, he⟩ := top_sub ht
  have h1 := up_trans ha (he a a1 a2) hj rfl rfl
  have h2 := up_trans hb (he b b1 b2) hk rfl rfl
  have h3 := up_root h.ris h.ids ⟨0, 0, rfl, rfl, h1⟩ _ h2
  have h4 : j = k := by omega
  subst h4
  obtain ⟨e1, e2⟩ := up_det h.ris hj _ _ hk
  exact ris_same h.ris ha hb e1 e2
theorem apart_child {l : List Nd} (h : Inv l) {c w : Int} (ht : Top l c w) {a m : Nd} (ha : a ∈ l) (a1 : a.pc = c) (a2 : a.pw = w) (m1 : m.pc = c) (m2 : m.pw = w) {j : Nat} (hj : Up l j m a.cnt a.who) : False := by
  obtain ⟨e, he⟩ := top_sub ht
  have h1 := up_trans ha (he a a1 a2) hj rfl rfl
  have h3 := up_root h.ris h.ids ⟨0, 0, rfl, rfl, h1⟩ _ (he m m1 m2)
  omega
/-! ### what is gone through -/
theorem hasU_iff {out : List Itm} {c w : Int} : hasI out c w = true ↔ ∃ x ∈ out, x.cnt = c ∧ x.who = w := by
  unfold hasI
  rw [List.any_eq_true]
  constructor
  · rintro ⟨x, hx, h⟩
    exact ⟨x, hx, of_decide_eq_true h⟩
  · rintro ⟨x, hx, h⟩
    exact ⟨x, hx, decide_eq_true h⟩
theorem hasU_not {out : List Itm} {c w : Int} : hasI out c w = false ↔ ∀ x ∈ out, ¬ (x.cnt = c ∧ x.who = w) := by
  rw [← Bool.not_eq_true, hasU_iff]
  exact ⟨fun h x hx e => h ⟨x, hx, e⟩, fun h ⟨x, hx, e⟩ => h x hx e⟩
theorem given_zip {nodes : List Nd} {c w : Int} (h : uniqueN ((childF nodes c w).map (·.name)) = 0) : (given nodes c w).map (·.1) = childF nodes c w := by
  unfold given
  have hl : ¬ 1000 < ((childF nodes c w).map (·.name)).length := fun hl => by
    rw [(unique_big hl).1] at h
    cases h
  cases hrr : allRight ((childF nodes c w).map (·.name)) with
  | false =>
    rw [(unique_wrong hl hrr).1] at h
    cases h
  | true =>
    rw [(unique_right hl hrr).2, List.map_fst_zip]
    rw [outU_length, List.length_map]
    exact Nat.le_refl _
theorem mem_child {nodes : List Nd} {c w : Int} {n : Nd} : n ∈ childF nodes c w ↔ n ∈ nodes ∧ n.pc = c ∧ n.pw = w := by
  unfold childF
  rw [List.mem_filter, decide_eq_true_eq]
theorem given_of {nodes : List Nd} {c w : Int} (h : uniqueN ((childF nodes c w).map (·.name)) = 0) {n : Nd} (hn : n ∈ nodes) (h1 : n.pc = c) (h2 : n.pw = w) : ∃ g, (n, g) ∈ given nodes c w := by
  have h3 : n ∈ (given nodes c w).map (·.1) := by
    rw [given_zip h]
    exact mem_child.2 ⟨hn, h1, h2⟩
  obtain ⟨p, hp, rfl⟩ := List.mem_map.1 h3
  exact ⟨p.2, hp⟩
/-- What a call adds: nodes below. -/
def Und (nodes : List Nd) (c w : Int) (x : Itm) : Prop := ∃ m ∈ nodes, x.cnt = m.cnt ∧ x.who = m.who ∧ ∃ k, Up nodes k m c w
theorem subV_und {nodes : List Nd} {down : Int → Int → ByteArray → List Itm → List Itm × Int} (hd : ∀ c w a o, (down c w a o).2 = 0 → ∃ new, (down c w a o).1 = o ++ new ∧ ∀ x ∈ new, Und nodes c w x) (ahead : ByteArray) (c w : Int) :
    ∀ (l : List (Nd × ByteArray)) (out : List Itm), (∀ p ∈ l, p.1 ∈ nodes ∧ p.1.pc = c ∧ p.1.pw = w) → (subV down ahead l out).2 = 0 → ∃ new, (subV down ahead l out).1 = out ++ new ∧ ∀ x ∈ new, Und nodes c w x
  | [], out, _, _ => ⟨[], by simp [subV], fun x hx => by cases hx⟩
  | (n, g) :: r, out, hl, h => by
    have hl2 : ∀ p ∈ r, p.1 ∈ nodes ∧ p.1.pc = c ∧ p.1.pw = w := fun p hp => hl p (List.mem_cons_of_mem _ hp)
    obtain ⟨hn, hn1, hn2⟩ := hl (n, g) List.mem_cons_self
    unfold subV at h ⊢
    by_cases hdir : n.dir = true
    · rw [if_pos hdir] at h ⊢
      by_cases h0 : (down n.cnt n.who (ahead ++ g ++ slashB) out).2 = 0
      · rw [if_pos h0] at h ⊢
        obtain ⟨new1, e1, r1⟩ := hd n.cnt n.who (ahead ++ g ++ slashB) out h0
        obtain ⟨new2, e2, r2⟩ := subV_und hd ahead c w r _ hl2 h
        refine ⟨new1 ++ new2, by rw [e2, e1, List.append_assoc], fun x hx => ?_⟩
        rcases List.mem_append.1 hx with hx | hx
        · obtain ⟨m, hm, h1, h2, k, hk⟩ := r1 x hx
          exact ⟨m, hm, h1, h2, _, up_trans hn (.here hn1 hn2) hk rfl rfl⟩
        · exact r2 x hx
      · rw [if_neg h0] at h
        exact absurd h h0
    · rw [if_neg hdir] at h ⊢
      exact subV_und hd ahead c w r out hl2 h
theorem downV_und (nodes : List Nd) : ∀ (f : Nat) (c w : Int) (ahead : ByteArray) (out : List Itm), (downV nodes f c w ahead out).2 = 0 → ∃ new, (downV nodes f c w ahead out).1 = out ++ new ∧ ∀ x ∈ new, Und nodes c w x
  | 0, c, w, ahead, out, h => by
    unfold downV at h ⊢
    split at h
    · rename_i h1
      exact absurd h h1
    · rename_i h1
      rw [if_neg h1, addV_does _ _ _ _ h]
      refine ⟨_, rfl, fun x hx => ?_⟩
      obtain ⟨p, hp, rfl⟩ := List.mem_map.1 hx
      obtain ⟨a1, a2, a3⟩ := given_nd p hp
      exact ⟨p.1, a1, rfl, rfl, 0, .here a2 a3⟩
  | f + 1, c, w, ahead, out, h => by
    unfold downV at h ⊢
    split at h
    · rename_i h1
      exact absurd h h1
    · rename_i h1
      rw [if_neg h1]
      split at h
      · rename_i h2
        rw [if_pos h2]
        rw [addV_does _ _ _ _ h2] at h ⊢
        obtain ⟨new, e, hr⟩ := subV_und (downV_und nodes f) ahead c w _ _ given_nd h
        refine ⟨_, by rw [e, List.append_assoc], fun x hx => ?_⟩
        rcases List.mem_append.1 hx with hx | hx
        · obtain ⟨p, hp, rfl⟩ := List.mem_map.1 hx
          obtain ⟨a1, a2, a3⟩ := given_nd p hp
          exact ⟨p.1, a1, rfl, rfl, 0, .here a2 a3⟩
        · exact hr x hx
      · rename_i h2
        exact absurd h h2
theorem addU_ok (ahead : ByteArray) : ∀ (l : List (Nd × ByteArray)) (out : List Itm), (l.map (·.1)).Pairwise (fun n m => ltNd n m = true) → (∀ p ∈ l, hasI out p.1.cnt p.1.who = false) → (addV ahead false l out).2 = 0
  | [], _, _, _ => rfl
  | (n, g) :: r, out, hp, ho => by
    obtain ⟨h1, h2⟩ := List.pairwise_cons.1 hp
    have h3 := ho (n, g) List.mem_cons_self
    unfold addV
    rw [h3, Bool.or_false, if_neg (by simp)]
    refine addU_ok ahead r _ h2 (fun p hp2 => ?_)
    rw [hasU_not]
    intro x hx e
    rcases List.mem_append.1 hx with hx | hx
    · exact hasU_not.1 (ho p (List.mem_cons_of_mem _ hp2)) x hx e
    · rw [List.mem_singleton] at hx
      subst hx
      exact ltN_ne (h1 p.1 (List.mem_map.2 ⟨p, hp2, rfl⟩)) e
theorem subU_ok {nodes : List Nd} (hI : Inv nodes) {c w : Int} (ht : Top nodes c w) {down : Int → Int → ByteArray → List Itm → List Itm × Int} (ahead : ByteArray)
    (hd : ∀ a o, ∀ n ∈ nodes, n.pc = c → n.pw = w → (∀ m ∈ nodes, ∀ k, Up nodes k m n.cnt n.who → hasI o m.cnt m.who = false) → (down n.cnt n.who a o).2 = 0)
    (hs : ∀ c w a o, (down c w a o).2 = 0 → ∃ new, (down c w a o).1 = o ++ new ∧ ∀ x ∈ new, Und nodes c w x) :
    ∀ (l : List (Nd × ByteArray)) (out : List Itm), (∀ p ∈ l, p.1 ∈ nodes ∧ p.1.pc = c ∧ p.1.pw = w) → (l.map (·.1)).Pairwise (fun n m => ltNd n m = true) →
      (∀ p ∈ l, ∀ m ∈ nodes, ∀ k, Up nodes k m p.1.cnt p.1.who → hasI out m.cnt m.who = false) → (subV down ahead l out).2 = 0
  | [], _, _, _, _ => rfl
  | (n, g) :: r, out, hl, hp, ho => by
    have hl2 : ∀ p ∈ r, p.1 ∈ nodes ∧ p.1.pc = c ∧ p.1.pw = w := fun p hp => hl p (List.mem_cons_of_mem _ hp)
    obtain ⟨hn, hn1, hn2⟩ := hl (n, g) List.mem_cons_self
    obtain ⟨h1, h2⟩ := List.pairwise_cons.1 hp
    unfold subV
    by_cases hdir : n.dir = true
    · rw [if_pos hdir]
      have h0 := hd (ahead ++ g ++ slashB) out n hn hn1 hn2 (ho (n, g) List.mem_cons_self)
      rw [if_pos h0]
      obtain ⟨new, e, hu⟩ := hs _ _ _ _ h0
      rw [e]
      refine subU_ok hI ht ahead hd hs r _ hl2 h2 (fun p hp2 m hm k hk => ?_)
      rw [hasU_not]
      intro x hx e2
      rcases List.mem_append.1 hx with hx | hx
      · exact hasU_not.1 (ho p (List.mem_cons_of_mem _ hp2) m hm k hk) x hx e2
      · obtain ⟨m2, hm2, e3, e4, j, hj⟩ := hu x hx
        have e5 := ris_same hI.ris hm hm2 (e2.1.symm.trans e3) (e2.2.symm.trans e4)
        subst e5
        obtain ⟨q1, q2, q3⟩ := hl2 p hp2
        have e6 := apart_sub hI ht hn q1 hn1 hn2 q2 q3 hj hk
        have h3 := h1 p.1 (List.mem_map.2 ⟨p, hp2, rfl⟩)
        rw [← e6] at h3
        exact ltN_ne h3 ⟨rfl, rfl⟩
    · rw [if_neg hdir]
      exact subU_ok hI ht ahead hd hs r out hl2 h2 (fun p hp2 => ho p (List.mem_cons_of_mem _ hp2))
def NamesOK (nodes : List Nd) : Prop := nodes.length ≤ 1000 ∧ ∀ n ∈ nodes, bright n.name = true
theorem names_zero {nodes : List Nd} (h : NamesOK nodes) (c w : Int) : uniqueN ((childF nodes c w).map (·.name)) = 0 := by
  refine (unique_right ?_ ?_).1
  · rw [List.length_map]
    have := List.length_filter_le (fun n : Nd => decide (n.pc = c ∧ n.pw = w)) nodes
    have h2 : (childF nodes c w).length ≤ nodes.length := this
    have := h.1
    omega
  · unfold allRight
    rw [List.all_eq_true]
    intro s hs
    obtain ⟨n, hn, rfl⟩ := List.mem_map.1 hs
    exact h.2 n (mem_child.1 hn).1
theorem given_ris {nodes : List Nd} (h : RisN nodes) {c w : Int} (h0 : uniqueN ((childF nodes c w).map (·.name)) = 0) : ((given nodes c w).map (·.1)).Pairwise (fun n m => ltNd n m = true) := by
  rw [given_zip h0]
  exact List.Pairwise.sublist List.filter_sublist h
theorem downU_ok {nodes : List Nd} (hI : Inv nodes) (hN : NamesOK nodes) : ∀ (f : Nat) (c w : Int) (ahead : ByteArray) (out : List Itm), Top nodes c w → (∀ m ∈ nodes, ∀ k, Up nodes k m c w → k < f) →
    (∀ m ∈ nodes, ∀ k, Up nodes k m c w → hasI out m.cnt m.who = false) → (downV nodes f c w ahead out).2 = 0
  | 0, c, w, ahead, out, _, hk, _ => by
    have h0 := names_zero hN c w
    unfold downV
    rw [if_neg (by rw [h0]; simp)]
    have h1 : given nodes c w = [] := by
      rw [List.eq_nil_iff_forall_not_mem]
      intro p hp
      obtain ⟨a1, a2, a3⟩ := given_nd p hp
      have := hk p.1 a1 0 (.here a2 a3)
      omega
    rw [h1]
    rfl
  | f + 1, c, w, ahead, out, ht, hk, ho => by
    have h0 := names_zero hN c w
    unfold downV
    rw [if_neg (by rw [h0]; simp)]
    have h2 := addU_ok ahead (given nodes c w) out (given_ris hI.ris h0) (fun p hp => by
      obtain ⟨a1, a2, a3⟩ := given_nd p hp
      exact ho p.1 a1 0 (.here a2 a3))
    rw [if_pos h2, addV_does _ _ _ _ h2]
    refine subU_ok hI ht ahead (fun a o n hn n1 n2 h3 => ?_) (downV_und nodes f) _ _ given_nd (given_ris hI.ris h0) (fun p hp m hm k hku => ?_)
    · refine downU_ok hI hN f n.cnt n.who a o (top_child ht hn n1 n2) (fun m hm k hku => ?_) h3
      have := hk m hm _ (up_trans hn (.here n1 n2) hku rfl rfl)
      omega
    · obtain ⟨a1, a2, a3⟩ := given_nd p hp
      rw [hasU_not]
      intro x hx e
      rcases List.mem_append.1 hx with hx | hx
      · exact hasU_not.1 (ho m hm _ (up_trans a1 (.here a2 a3) hku rfl rfl)) x hx e
      · obtain ⟨q, hq, rfl⟩ := List.mem_map.1 hx
        obtain ⟨b1, b2, b3⟩ := given_nd q hq
        have e2 := ris_same hI.ris hm b1 e.1.symm e.2.symm
        subst e2
        exact apart_child hI ht a1 a2 a3 b2 b3 hku
theorem subV_full {nodes : List Nd} {down : Int → Int → ByteArray → List Itm → List Itm × Int} (ahead : ByteArray) (hs : ∀ c w a o, (down c w a o).2 = 0 → ∃ new, (down c w a o).1 = o ++ new ∧ ∀ x ∈ new, Und nodes c w x) {n : Nd} {g : ByteArray} {Q : List Itm → Prop}
    (hQ : ∀ a o, (down n.cnt n.who a o).2 = 0 → Q (down n.cnt n.who a o).1) (hm : ∀ o new, Q o → Q (o ++ new)) : ∀ (l : List (Nd × ByteArray)) (out : List Itm), (n, g) ∈ l → n.dir = true → (subV down ahead l out).2 = 0 → Q (subV down ahead l out).1
  | [], _, h, _, _ => by cases h
  | (n2, g2) :: r, out, h, hd, h0 => by
    have grow : ∀ (l : List (Nd × ByteArray)) (out : List Itm), Q out → (subV down ahead l out).2 = 0 → Q (subV down ahead l out).1 := by
      intro l
      induction l with
      | nil => exact fun out hq _ => hq
      | cons p r ih =>
        obtain ⟨n3, g3⟩ := p
        intro out hq h0
        unfold subV at h0 ⊢
        split at h0
        · rename_i h1
          rw [if_pos h1]
          split at h0
          · rename_i h2
            rw [if_pos h2]
            refine ih _ ?_ h0
            obtain ⟨new, e, _⟩ := hs _ _ _ _ h2
            rw [e]
            exact hm _ _ hq
          · rename_i h2
            exact absurd h0 h2
        · rename_i h1
          rw [if_neg h1]
          exact ih _ hq h0
    rcases List.mem_cons.1 h with e | h
    · cases e
      unfold subV at h0 ⊢
      rw [if_pos hd] at h0 ⊢
      split at h0
      · rename_i h2
        rw [if_pos h2]
        exact grow r _ (hQ _ _ h2) h0
      · rename_i h2
        exact absurd h0 h2
    · unfold subV at h0 ⊢
      split at h0
      · rename_i h1
        rw [if_pos h1]
        split at h0
        · rename_i h2
          rw [if_pos h2]
          exact subV_full ahead hs hQ hm r _ h hd h0
        · rename_i h2
          exact absurd h0 h2
      · rename_i h1
        rw [if_neg h1]
        exact subV_full ahead hs hQ hm r _ h hd h0
theorem addV_fullNil (ahead : ByteArray) {l : List (Nd × ByteArray)} {out : List Itm} (h : (addV ahead true l out).2 = 0) : l = [] := by
  cases l with
  | nil => rfl
  | cons p r =>
    obtain ⟨n, g⟩ := p
    unfold addV at h
    rw [Bool.or_true, if_pos rfl] at h
    cases h
theorem hasI_more {out new : List Itm} {c w : Int} (h : hasI out c w = true) : hasI (out ++ new) c w = true := by
  obtain ⟨x, hx, e⟩ := hasU_iff.1 h
  exact hasU_iff.2 ⟨x, List.mem_append_left _ hx, e⟩
theorem downV_full {nodes : List Nd} (hI : Inv nodes) : ∀ (f : Nat) (c w : Int) (ahead : ByteArray) (out : List Itm), (downV nodes f c w ahead out).2 = 0 → ∀ m ∈ nodes, ∀ k, Up nodes k m c w → k < f ∧ hasI (downV nodes f c w ahead out).1 m.cnt m.who = true
  | 0, c, w, ahead, out, h, m, hm, k, hk => by
    unfold downV at h
    split at h
    · rename_i h1
      exact absurd h h1
    · rename_i h1
      have h2 := addV_fullNil ahead h
      have h3 : ∃ n ∈ nodes, n.pc = c ∧ n.pw = w := by
        cases k with
        | zero =>
          cases hk with
          | here e1 e2 => exact ⟨m, hm, e1, e2⟩
        | succ k =>
          obtain ⟨n, hn, e1, e2, _⟩ := up_split k m c w hk
          exact ⟨n, hn, e1, e2⟩
      obtain ⟨n, hn, e1, e2⟩ := h3
      obtain ⟨g, hg⟩ := given_of (Classical.not_not.1 h1) hn e1 e2
      rw [h2] at hg
      cases hg
  | f + 1, c, w, ahead, out, h, m, hm, k, hk => by
    unfold downV at h ⊢
    split at h
    · rename_i h1
      exact absurd h h1
    · rename_i h1
      have hu := Classical.not_not.1 h1
      rw [if_neg h1]
      split at h
      · rename_i h2
        rw [if_pos h2]
        rw [addV_does _ _ _ _ h2] at h ⊢
        cases k with
        | zero =>
          cases hk with
          | here e1 e2 =>
            refine ⟨by omega, ?_⟩
            obtain ⟨g, hg⟩ := given_of hu hm e1 e2
            obtain ⟨new, e, _⟩ := subV_und (downV_und nodes f) ahead c w _ _ given_nd h
            rw [e]
            exact hasI_more (hasU_iff.2 ⟨itmOf ahead g m, List.mem_append_right _ (List.mem_map.2 ⟨_, hg, rfl⟩), rfl, rfl⟩)
        | succ k =>
          obtain ⟨n, hn, e1, e2, hk2⟩ := up_split k m c w hk
          obtain ⟨g, hg⟩ := given_of hu hn e1 e2
          have hd := up_dir hI hk2 hm n hn rfl rfl
          have h3 := subV_full (Q := fun o => k < f ∧ hasI o m.cnt m.who = true) ahead (downV_und nodes f) (fun a o h0 => downV_full hI f n.cnt n.who a o h0 m hm k hk2) (fun o new hq => ⟨hq.1, hasI_more hq.2⟩) _ _ hg hd h
          exact ⟨by omega, h3.2⟩
      · rename_i h2
        exact absurd h h2
def idI (x : Itm) : Int × Int := (x.cnt, x.who)
theorem addV_once (ahead : ByteArray) (full : Bool) : ∀ (l : List (Nd × ByteArray)) (out : List Itm), (addV ahead full l out).2 = 0 → (out.map idI).Nodup → ((addV ahead full l out).1.map idI).Nodup
  | [], _, _, h => h
  | (n, g) :: r, out, h0, h => by
    unfold addV at h0 ⊢
    split at h0
    · cases h0
    · rename_i h1
      rw [if_neg h1]
      refine addV_once ahead full r _ h0 ?_
      have h2 : hasI out n.cnt n.who = false := by
        cases hh : hasI out n.cnt n.who with
        | false => rfl
        | true => rw [hh] at h1; simp at h1
      rw [List.map_append, List.nodup_append]
      refine ⟨h, by simp, fun a ha b hb e => ?_⟩
      obtain ⟨x, hx, rfl⟩ := List.mem_map.1 ha
      rw [List.map_singleton, List.mem_singleton] at hb
      rw [hb] at e
      exact hasU_not.1 h2 x hx (Prod.mk.inj e)
theorem subV_once {down : Int → Int → ByteArray → List Itm → List Itm × Int} (hd : ∀ c w a o, (down c w a o).2 = 0 → (o.map idI).Nodup → ((down c w a o).1.map idI).Nodup) (ahead : ByteArray) : ∀ (l : List (Nd × ByteArray)) (out : List Itm), (subV down ahead l out).2 = 0 → (out.map idI).Nodup → ((subV down ahead l out).1.map idI).Nodup
  | [], _, _, h => h
  | (n, g) :: r, out, h0, h => by
    unfold subV at h0 ⊢
    split at h0
    · rename_i h1
      rw [if_pos h1]
      split at h0
      · rename_i h2
        rw [if_pos h2]
        exact subV_once hd ahead r _ h0 (hd _ _ _ _ h2 h)
      · rename_i h2
        exact absurd h0 h2
    · rename_i h1
      rw [if_neg h1]
      exact subV_once hd ahead r _ h0 h
theorem downV_once (nodes : List Nd) : ∀ (f : Nat) (c w : Int) (ahead : ByteArray) (out : List Itm), (downV nodes f c w ahead out).2 = 0 → (out.map idI).Nodup → ((downV nodes f c w ahead out).1.map idI).Nodup
  | 0, c, w, ahead, out, h0, h => by
    unfold downV at h0 ⊢
    split at h0
    · rename_i h1
      exact absurd h0 h1
    · rename_i h1
      rw [if_neg h1]
      exact addV_once ahead true _ _ h0 h
  | f + 1, c, w, ahead, out, h0, h => by
    unfold downV at h0 ⊢
    split at h0
    · rename_i h1
      exact absurd h0 h1
    · rename_i h1
      rw [if_neg h1]
      split at h0
      · rename_i h2
        rw [if_pos h2]
        exact subV_once (downV_once nodes f) ahead _ _ h0 (addV_once ahead false _ _ h2 h)
      · rename_i h2
        exact absurd h0 h2
theorem addV_err (ahead : ByteArray) (full : Bool) : ∀ (l : List (Nd × ByteArray)) (out : List Itm), (addV ahead full l out).2 = 0 ∨ (addV ahead full l out).2 = 40
  | [], _ => .inl rfl
  | (n, g) :: r, out => by
    unfold addV
    split
    · exact .inr rfl
    · exact addV_err ahead full r _
theorem subV_err {down : Int → Int → ByteArray → List Itm → List Itm × Int} (hd : ∀ c w a o, (down c w a o).2 = 0 ∨ (down c w a o).2 = 40) (ahead : ByteArray) : ∀ (l : List (Nd × ByteArray)) (out : List Itm), (subV down ahead l out).2 = 0 ∨ (subV down ahead l out).2 = 40
  | [], _ => .inl rfl
  | (n, g) :: r, out => by
    unfold subV
    split
    · split
      · exact subV_err hd ahead r _
      · exact hd _ _ _ _
    · exact subV_err hd ahead r _
theorem downV_err {nodes : List Nd} (hN : NamesOK nodes) : ∀ (f : Nat) (c w : Int) (ahead : ByteArray) (out : List Itm), (downV nodes f c w ahead out).2 = 0 ∨ (downV nodes f c w ahead out).2 = 40
  | 0, c, w, ahead, out => by
    unfold downV
    rw [if_neg (by rw [names_zero hN c w]; simp)]
    exact addV_err _ _ _ _
  | f + 1, c, w, ahead, out => by
    unfold downV
    rw [if_neg (by rw [names_zero hN c w]; simp)]
    split
    · exact subV_err (downV_err hN f) _ _ _
    · exact addV_err _ _ _ _
/-! ### the law's plain part -/
/-- Whether a node's way ends at the root. -/
def rooted (nodes : List Nd) (n : Nd) : Bool := decide ((chainT nodes n.cnt n.who).getLast? = some (0, 0))
theorem goes_up {l : List Nd} (h : Inv l) {c q : Int} {L : List (Int × Int)} (hg : Goes l c q L) : L.getLast? = some (0, 0) → ∀ n ∈ l, n.cnt = c → n.who = q → ∃ k, Up l k n 0 0 ∧ L.length = k + 2 := by
  induction hg with
  | stop h2 =>
    intro _ n hn e1 _
    have := h.ids n hn
    omega
  | @on c q y L hy hc hq t ih =>
    intro hl n hn e1 e2
    have e := ris_same h.ris hy hn (hc.trans e1.symm) (hq.trans e2.symm)
    subst e
    cases t with
    | stop h2 =>
      rw [List.getLast?_cons_cons, List.getLast?_singleton, Option.some.injEq, Prod.mk.injEq] at hl
      exact ⟨0, .here hl.1 hl.2, rfl⟩
    | @on _ _ p M hp pc pq t2 =>
      obtain ⟨k, hk, hlen⟩ := ih (by rw [← hl, List.getLast?_cons_cons]) p hp pc pq
      exact ⟨k + 1, .over hp pc pq hk, by rw [List.length_cons, hlen]⟩
theorem up_goes {l : List Nd} {k : Nat} {n : Nd} {c w : Int} (hu : Up l k n c w) : c = 0 → w = 0 → n ∈ l → ∃ L, Goes l n.cnt n.who L ∧ L.getLast? = some (0, 0) ∧ L.length = k + 2 := by
  induction hu with
  | here h1 h2 =>
    intro hc hw hn
    refine ⟨_, .on hn rfl rfl (.stop (by rw [h1, h2]; exact ⟨hc, .inl hw⟩)), ?_, rfl⟩
    rw [List.getLast?_cons_cons, List.getLast?_singleton, h1, h2, hc, hw]
  | over hp e1 e2 t ih =>
    intro hc hw hn
    obtain ⟨L, hL, h3, h4⟩ := ih hc hw hp
    rw [e1, e2] at hL
    refine ⟨_, .on hn rfl rfl hL, ?_, by rw [List.length_cons, h4]⟩
    cases L with
    | nil => cases h3
    | cons p r => rw [List.getLast?_cons_cons]; exact h3
theorem rooted_iff {l : List Nd} (h : Inv l) {n : Nd} (hn : n ∈ l) : rooted l n = true ↔ ∃ k, Up l k n 0 0 := by
  obtain ⟨L, hL⟩ := h.goes n hn
  have hc := chainT_goes h.ris h.ids hL (by rw [findT_own h.ris hn])
  unfold rooted
  rw [hc, decide_eq_true_eq]
  constructor
  · intro hl
    obtain ⟨k, hk, _⟩ := goes_up h hL hl n hn rfl rfl
    exact ⟨k, hk⟩
  · rintro ⟨k, hk⟩
    obtain ⟨M, hM, h1, _⟩ := up_goes hk rfl rfl hn
    rw [goes_det h.ris h.ids hL _ hM]
    exact h1
theorem rooted_len {l : List Nd} (h : Inv l) {n : Nd} (hn : n ∈ l) {k : Nat} (hk : Up l k n 0 0) : (chainT l n.cnt n.who).length = k + 2 := by
  obtain ⟨M, hM, _, h2⟩ := up_goes hk rfl rfl hn
  rw [chainT_goes h.ris h.ids hM (by rw [findT_own h.ris hn])]
  exact h2
theorem no_out (l : List Nd) (c w : Int) : ∀ m ∈ l, ∀ k, Up l k m c w → hasI [] m.cnt m.who = false := fun _ _ _ _ => rfl
/-- All stand within sixteen: all is shown. -/
theorem right_shallow {l : List Nd} (h : Inv l) (hN : NamesOK l) (hd : ∀ n ∈ l, rooted l n = true → (chainT l n.cnt n.who).length ≤ 17) : (viewF l).2 = 0 ∧ (viewF l).1.length = (l.filter (rooted l)).length := by
  have h0 : (downV l 16 0 0 ⟨#[]⟩ []).2 = 0 := downU_ok h hN 16 0 0 _ _ (.inl ⟨rfl, rfl⟩) (fun m hm k hk => by
    have h1 := hd m hm ((rooted_iff h hm).2 ⟨k, hk⟩)
    rw [rooted_len h hm hk] at h1
    omega) (no_out l 0 0)
  have hlen : (viewF l).1.length = (downV l 16 0 0 ⟨#[]⟩ []).1.length := by
    unfold viewF
    rw [if_pos h0]
    have h3 := sortI_length (downV l 16 0 0 ⟨#[]⟩ []).1 []
    show (sortI _).length = _
    unfold sortI
    rw [h3, List.length_nil, Nat.zero_add]
  refine ⟨by unfold viewF; rw [if_pos h0], ?_⟩
  rw [hlen]
  obtain ⟨new, e, hu⟩ := downV_und l 16 0 0 ⟨#[]⟩ [] h0
  rw [List.nil_append] at e
  have hn1 := downV_once l 16 0 0 ⟨#[]⟩ [] h0 List.nodup_nil
  have hn2 : ((l.filter (rooted l)).map idN).Nodup := by
    have h1 : (l.filter (rooted l)).Pairwise fun n m => ltNd n m = true := List.Pairwise.sublist List.filter_sublist h.ris
    unfold List.Nodup
    rw [List.pairwise_map]
    exact h1.imp (fun hlt e => ltN_ne hlt (Prod.mk.inj e))
  have a1 := length_le_of_sub _ ((l.filter (rooted l)).map idN) hn1 (fun p hp => by
    obtain ⟨x, hx, rfl⟩ := List.mem_map.1 hp
    rw [e] at hx
    obtain ⟨m, hm, e1, e2, hk⟩ := hu x hx
    exact List.mem_map.2 ⟨m, List.mem_filter.2 ⟨hm, (rooted_iff h hm).2 hk⟩, by unfold idN idI; rw [e1, e2]⟩)
  have a2 := length_le_of_sub _ ((downV l 16 0 0 ⟨#[]⟩ []).1.map idI) hn2 (fun p hp => by
    obtain ⟨m, hm, rfl⟩ := List.mem_map.1 hp
    obtain ⟨hm1, hm2⟩ := List.mem_filter.1 hm
    obtain ⟨k, hk⟩ := (rooted_iff h hm1).1 hm2
    obtain ⟨x, hx, e1, e2⟩ := hasU_iff.1 (downV_full h 16 0 0 ⟨#[]⟩ [] h0 m hm1 k hk).2
    exact List.mem_map.2 ⟨x, hx, by unfold idN idI; rw [e1, e2]⟩)
  rw [List.length_map, List.length_map] at a1 a2
  omega
/-- One stands deeper: nothing is shown. -/
theorem right_deep {l : List Nd} (h : Inv l) (hN : NamesOK l) {n : Nd} (hn : n ∈ l) (hr : rooted l n = true) (hd : 17 < (chainT l n.cnt n.who).length) : viewF l = ([], 40) := by
  obtain ⟨k, hk⟩ := (rooted_iff h hn).1 hr
  rw [rooted_len h hn hk] at hd
  have h0 : ¬ (downV l 16 0 0 ⟨#[]⟩ []).2 = 0 := fun h0 => by
    have := (downV_full h 16 0 0 ⟨#[]⟩ [] h0 n hn k hk).1
    omega
  have h40 := (downV_err hN 16 0 0 ⟨#[]⟩ []).resolve_left h0
  unfold viewF
  rw [if_neg h0, h40]
/-- What an item is, and its directory's. -/
theorem right_item {l : List Nd} (hr : RisN l) (h0 : (viewF l).2 = 0) {x : Itm} (hx : x ∈ (viewF l).1) {d : ByteArray} (hd : IsDir x.path d) :
    ∃ n, findT l x.cnt x.who = (n, true) ∧ n.dir = x.dir ∧ n.man = x.man ∧ ((d = ⟨#[]⟩ ∧ n.pc = 0 ∧ n.pw = 0) ∨ (d ≠ ⟨#[]⟩ ∧ ∃ y, findI (isPath d) (viewF l).1 = (y, true) ∧ y.dir = true ∧ y.cnt = n.pc ∧ y.who = n.pw)) := by
  have hR := viewF_relU h0
  obtain ⟨n, hn, ho, g, h1, h2, h3⟩ := hR x hx
  refine ⟨n, by rw [← ho.1, ← ho.2.1]; exact findT_own hr hn, ho.2.2.1, ho.2.2.2, ?_⟩
  obtain ⟨hg1, hg2⟩ := (given_ok l _ _ h2).1 _ h1
  rcases h3 with ⟨e1, e2, h4⟩ | ⟨y, hy, hyd, hyc, hyw, h4⟩
  · rcases hd with ⟨_, rfl⟩ | ⟨u, v, e, _, _⟩
    · exact .inl ⟨rfl, e1, e2⟩
    · have h6 : pI x = u ++ 47 :: v := e
      rw [h4, List.nil_append] at h6
      exact absurd (by rw [h6]; simp) hg2
  · have hyne : pI y ≠ [] := by
      obtain ⟨m, _, _, g', h5, h6, h7⟩ := hR y hy
      have h8 := ((given_ok l _ _ h6).1 _ h5).1
      rcases h7 with ⟨_, _, h7⟩ | ⟨z, _, _, _, _, h7⟩
      · rw [h7]
        simpa using h8
      · rw [h7]
        simp
    rcases hd with ⟨e, _⟩ | ⟨u, v, e, hv, hu⟩
    · exact absurd (by rw [show x.path.data.toList = _ from h4]; simp) e
    · have h6 : pI x = u ++ 47 :: v := e
      rw [h4] at h6
      obtain ⟨h7, h8⟩ := split_last _ _ _ _ hg2 hv h6
      have hdy : y.path = d := bytes_inj.1 (by rw [hu, ← h8]; rfl)
      refine .inr ⟨fun e => ?_, y, ?_, hyd, hyc, hyw⟩
      · rw [e] at hdy
        exact hyne (by unfold pI; rw [hdy])
      · rw [← hdy]
        exact find_own (viewF_unlike l) hy
end Go.Proofs.YtfbdbjookkogjaaDoor

namespace Go.Proofs.YtfbdbjookkogjaaDoor
open Go Go.RowKit Go.Lib
def deepS (nodes : List Nd) (d : Nat) (n : Nd) : Nat := if rooted nodes n then max d ((chainT nodes n.cnt n.who).length - 1) else d
def deepF (nodes l : List Nd) : Nat := l.foldl (deepS nodes) 0
theorem deep_iff (nodes : List Nd) (m : Nat) : ∀ (l : List Nd) (d : Nat), l.foldl (deepS nodes) d ≤ m ↔ d ≤ m ∧ ∀ n ∈ l, rooted nodes n = true → (chainT nodes n.cnt n.who).length - 1 ≤ m
  | [], d => by simp
  | n :: r, d => by
    rw [List.foldl_cons, deep_iff nodes m r]
    unfold deepS
    constructor
    · rintro ⟨h1, h2⟩
      refine ⟨?_, fun x hx hr => ?_⟩
      · split at h1 <;> omega
      · rcases List.mem_cons.1 hx with rfl | hx
        · rw [if_pos hr] at h1
          omega
        · exact h2 x hx hr
    · rintro ⟨h1, h2⟩
      refine ⟨?_, fun x hx => h2 x (List.mem_cons_of_mem _ hx)⟩
      split
      · rename_i hr
        have := h2 n List.mem_cons_self hr
        omega
      · exact h1
theorem deep_step {nodes l : List Nd} {k : Nat} {n : Nd} (hn : l[k]? = some n) : deepF nodes (l.take (k + 1)) = deepS nodes (deepF nodes (l.take k)) n := by
  unfold deepF
  rw [List.take_add_one, hn, Option.toList_some, List.foldl_append]
  rfl
theorem deep_small (nodes : List Nd) (l : List Nd) : deepF nodes l ≤ nodes.length + 2 := by
  refine (deep_iff nodes _ l 0).2 ⟨Nat.zero_le _, fun n _ _ => ?_⟩
  have := chainT_len nodes n.cnt n.who
  omega
theorem root_step {nodes : List Nd} {k : Nat} {n : Nd} (hn : nodes[k]? = some n) : ((nodes.take (k + 1)).filter (rooted nodes)).length = ((nodes.take k).filter (rooted nodes)).length + if rooted nodes n then 1 else 0 := by
  rw [List.take_add_one, hn, Option.toList_some, List.filter_append, List.length_append, List.filter_cons, List.filter_nil]
  cases rooted nodes n <;> rfl
set_option maxRecDepth 100000 in
set_option maxHeartbeats 6400000 in
theorem law_viewRight (a : Option Addr) (cap : Nat) (ops : List Opr) (w : World) (hl : ops.length ≤ 140737488351232) (ha : RowsAt oprLay w a ops) (hx : ∀ x ∈ ops, OpW x) (hT : Tab w) :
    Calls Tryd.prog 7 #[.slice a ops.length cap] w fun e w' => e = .returned (.bool true) ∧ Below w.heap.size w w' := by
  have HA := Lib.hid fun W (h : Below w.heap.size w W) => ha.keeps h
  have HAW := Lib.hid fun W (h : Below w.heap.size w W) => awake11_any W (tab_keeps hT h)
  have HT := Lib.hid fun W (h : Below w.heap.size w W) => tab_keeps hT h
  have HX := Lib.hid hx
  clear ha hT hx
  by_cases h60 : 60 < ops.length
  · have hq : decide ((ops.length : Int) > 60) = true := decide_eq_true (by omega)
    have hq2 : decide (60 < ops.length) = true := decide_eq_true h60
    go_enter Tryd.func7, Tryd.ntmps7
    go_wp2_with fail
    refine (HAW.out _ (Below.refl w.heap.size w)).mono ?_
    rintro e w9 ⟨rfl, hb9⟩
    go_wp2_with fail
    go_ret
    exact ⟨rfl, ((Below.refl w.heap.size w)).trans (hb9.mono ((Below.refl w.heap.size w)).size)⟩
  · have hq : decide ((ops.length : Int) > 60) = false := decide_eq_false (by omega)
    have hq2 : decide (60 < ops.length) = false := decide_eq_false h60
    have hq3 : decide ((60 : Int) < (ops.length : Int)) = false := decide_eq_false (by omega)
    go_enter Tryd.func7, Tryd.ntmps7
    go_wp2_with fail
    go_loopw [3] (fun i wr => ∃ k : Nat, k ≤ ops.length ∧ i = .int .i64 k ∧ Hid (∀ j y, j < k → ops[j]? = some y → rightC y.nc y.nw = 0 ∧ ((y.kind = 1 ∨ y.kind = 2) → bright y.name = true)) ∧ Below w.heap.size w wr) (fun i _ => ops.length - (RowKit.intOf i).toNat)
    case atStart => exact ⟨0, Nat.zero_le _, rfl, Lib.hid (fun j _ hj => absurd hj (Nat.not_lt_zero _)), Below.refl _ _⟩
    case round =>
      obtain ⟨k, hk, rfl, Hk, hb⟩ := hrel
      by_cases hlt : k < ops.length
      · obtain ⟨x, hx⟩ := at_some hlt
        obtain ⟨b, off, hae, hbl, c0, c1, c2, c3, c4, c5, c6, c7, c8, c9, c10⟩ := opr_at (HA.out _ hb) hx
        subst hae
        have HC := Lib.hid (cright_any x.nc x.nw wr)
        have hlti : (k : Int) < (ops.length : Int) := by omega
        have hlt0 : (0 : Int) ≤ (k : Int) := by omega
        have hxs := (HX.out x (List.mem_of_getElem? hx)).2
        have Hx := Lib.hid hx
        clear hx
        by_cases hr : rightC x.nc x.nw = 0
        · rw [hr] at HC
          have Hr := Lib.hid hr
          clear hr
          by_cases hm : 1000 < x.man.size
          · have hm1 : decide (1000 < x.man.size) = true := decide_eq_true hm
            have hm2 : decide ((1000 : Int) < (x.man.size : Int)) = true := decide_eq_true (by omega)
            go_wp2_with fail
            refine HC.out.mono ?_
            rintro e w2 ⟨rfl, hb2⟩
            have d10 := (hb2.cell (p := ⟨b, off + k * 11 + 10, none⟩) hbl).trans c10
            have hbw := hb.trans (hb2.mono hb.size)
            go_wp2_with fail
            refine (HAW.out _ hbw).mono ?_
            rintro e w9 ⟨rfl, hb9⟩
            go_wp2_with fail
            go_ret
            exact ⟨rfl, (hbw).trans (hb9.mono (hbw).size)⟩
          · have hm1 : decide (1000 < x.man.size) = false := decide_eq_false hm
            have hm2 : decide ((1000 : Int) < (x.man.size : Int)) = false := decide_eq_false (by omega)
            have HR := Lib.hid fun W => right_any x.name W hxs
            by_cases hkd : x.kind = 1 ∨ x.kind = 2
            · have hkb : (x.kind == 1) = true ∨ ((x.kind == 1) = false ∧ (x.kind == 2) = true) := by
                rcases hkd with h | h <;> simp [h]
              have Hkd := Lib.hid hkd
              clear hkd
              by_cases hbr : bright x.name = true
              · rw [show rightN x.name.data.toList = 0 from rightN_ok hbr] at HR
                have Hbr := Lib.hid hbr
                clear hbr
                rcases hkb with hkb | ⟨hkb, hkb2⟩
                all_goals
                  go_wp2_with fail
                  refine HC.out.mono ?_
                  rintro e w2 ⟨rfl, hb2⟩
                  have d10 := (hb2.cell (p := ⟨b, off + k * 11 + 10, none⟩) hbl).trans c10
                  have d3 := (hb2.cell (p := ⟨b, off + k * 11 + 3, none⟩) hbl).trans c3
                  have d9 := (hb2.cell (p := ⟨b, off + k * 11 + 9, none⟩) hbl).trans c9
                  have hbw := hb.trans (hb2.mono hb.size)
                  go_wp2_with fail
                  refine (HR.out _).mono ?_
                  rintro e w4 ⟨rfl, nd, rfl⟩
                  go_wp2_with fail
                  go_roundw
                  case rel =>
                    refine ⟨k + 1, by omega, by go_num, Lib.hid (fun j z hj hz => ?_), belowDrew hbw nd⟩
                    by_cases e : j = k
                    · subst e
                      rw [Hx.out] at hz
                      cases hz
                      exact ⟨Hr.out, fun _ => Hbr.out⟩
                    · exact Hk.out j z (by omega) hz
                  case measure => simp [RowKit.intOf]; omega
              · rw [show rightN x.name.data.toList = 23 from rightN_bad (by simpa [bright] using hbr)] at HR
                clear hbr
                rcases hkb with hkb | ⟨hkb, hkb2⟩
                all_goals
                  go_wp2_with fail
                  refine HC.out.mono ?_
                  rintro e w2 ⟨rfl, hb2⟩
                  have d10 := (hb2.cell (p := ⟨b, off + k * 11 + 10, none⟩) hbl).trans c10
                  have d3 := (hb2.cell (p := ⟨b, off + k * 11 + 3, none⟩) hbl).trans c3
                  have d9 := (hb2.cell (p := ⟨b, off + k * 11 + 9, none⟩) hbl).trans c9
                  have hbw := hb.trans (hb2.mono hb.size)
                  go_wp2_with fail
                  refine (HR.out _).mono ?_
                  rintro e w4 ⟨rfl, nd, rfl⟩
                  have hbw4 := belowDrew hbw nd
                  go_wp2_with fail
                  refine (HAW.out _ hbw4).mono ?_
                  rintro e w9 ⟨rfl, hb9⟩
                  go_wp2_with fail
                  go_ret
                  exact ⟨rfl, (hbw4).trans (hb9.mono (hbw4).size)⟩
            · have hkb : (x.kind == 1) = false := by simpa using fun h => hkd (.inl h)
              have hkb2 : (x.kind == 2) = false := by simpa using fun h => hkd (.inr h)
              have Hkd := Lib.hid hkd
              clear hkd
              go_wp2_with fail
              refine HC.out.mono ?_
              rintro e w2 ⟨rfl, hb2⟩
              have d10 := (hb2.cell (p := ⟨b, off + k * 11 + 10, none⟩) hbl).trans c10
              have d3 := (hb2.cell (p := ⟨b, off + k * 11 + 3, none⟩) hbl).trans c3
              have hbw := hb.trans (hb2.mono hb.size)
              go_wp2_with fail
              go_roundw
              case rel =>
                refine ⟨k + 1, by omega, by go_num, Lib.hid (fun j z hj hz => ?_), hbw⟩
                by_cases e : j = k
                · subst e
                  rw [Hx.out] at hz
                  cases hz
                  exact ⟨Hr.out, fun h => absurd h Hkd.out⟩
                · exact Hk.out j z (by omega) hz
              case measure => simp [RowKit.intOf]; omega
        · have hq4 : (rightC x.nc x.nw != 0) = true := bne_iff_ne.2 hr
          generalize rightC x.nc x.nw = rc at *
          clear hr
          go_wp2_with fail
          refine HC.out.mono ?_
          rintro e w2 ⟨rfl, hb2⟩
          have hbw := hb.trans (hb2.mono hb.size)
          go_wp2_with fail
          refine (HAW.out _ hbw).mono ?_
          rintro e w9 ⟨rfl, hb9⟩
          go_wp2_with fail
          go_ret
          exact ⟨rfl, (hbw).trans (hb9.mono (hbw).size)⟩
      · obtain rfl : k = ops.length := by omega
        have hall : ∀ y ∈ ops, rightC y.nc y.nw = 0 ∧ ((y.kind = 1 ∨ y.kind = 2) → bright y.name = true) := fun y hy => by
          obtain ⟨j, hj, e⟩ := List.mem_iff_getElem.1 hy
          exact Hk.out j y hj (by rw [List.getElem?_eq_getElem hj, e])
        have HFo := Lib.hid (fold_any a cap ops wr (by omega) (HA.out wr hb) (fun x h => (HX.out x h).1))
        have hok := foldT_ok (ops := ops) (by omega) HX.out
        have hvl := view_len (foldT ops)
        have hol := foldT_len ops
        have hinv := foldT_inv (ops := ops) (fun y hy => by
          have h := (hall y hy).1
          unfold rightC at h
          split at h
          · rename_i h2
            exact h2.1
          · cases h)
        have hnam : NamesOK (foldT ops) := ⟨by omega, foldT_bright (fun y hy => (hall y hy).2)⟩
        have hRp := foldT_R (ops := ops) (fun y hy => (HX.out y hy).1)
        obtain ⟨nodes, hn⟩ : ∃ nodes, foldT ops = nodes := ⟨_, rfl⟩
        rw [hn] at HFo hok hvl hol hinv hnam hRp
        have Hok := Lib.hid hok
        have Hinv := Lib.hid hinv
        have Hnam := Lib.hid hnam
        have HRp := Lib.hid hRp
        clear hn hok hinv hnam hall Hk hRp
        go_wp2_with fail
        refine HFo.out.mono ?_
        rintro e w2 ⟨av, cv, rfl, hrn, _, hb2⟩
        have hbw2 := hb.trans (hb2.mono hb.size)
        have HN := Lib.hid fun W (h : Below w2.heap.size w2 W) => hrn.keeps h
        clear hrn HFo
        go_wp2_with fail
        go_loopw [5, 6, 7] (fun rt dp i wr => ∃ k : Nat, k ≤ nodes.length ∧ i = .int .i64 k ∧ rt = .int .i64 (((nodes.take k).filter (rooted nodes)).length : Int) ∧ dp = .int .i64 (deepF nodes (nodes.take k) : Int) ∧ Below w2.heap.size w2 wr) (fun _ _ i _ => nodes.length - (RowKit.intOf i).toNat)
        case atStart => exact ⟨0, Nat.zero_le _, rfl, rfl, rfl, Below.refl _ _⟩
        case round =>
          obtain ⟨k, hk, rfl, rfl, rfl, hb3⟩ := hrel
          by_cases hlt : k < nodes.length
          · obtain ⟨n, hn⟩ := at_some hlt
            have hrn := HN.out wr hb3
            obtain ⟨b, off, hae, hbl, c0, c1, c2, c3, c4, c5, c6⟩ := nd_at hrn hn
            subst hae
            have hlti : (k : Int) < (nodes.length : Int) := by omega
            have hlt0 : (0 : Int) ≤ (k : Int) := by omega
            have HCh := Lib.hid (chain_any (some ⟨b, off, none⟩) cv nodes n.cnt n.who wr (by omega) hrn (fun m hm => (HRp.out m hm).2) (HRp.out n (List.mem_of_getElem? hn)).1)
            have hst1 := root_step hn
            have hst2 := deep_step (nodes := nodes) hn
            have hfl : ((nodes.take k).filter (rooted nodes)).length ≤ nodes.length := Nat.le_trans (List.length_filter_le _ _) (by rw [List.length_take]; omega)
            have hds := deep_small nodes (nodes.take k)
            unfold deepS at hst2
            obtain ⟨n1, hn1⟩ : ∃ n1, ((nodes.take k).filter (rooted nodes)).length = n1 := ⟨_, rfl⟩
            obtain ⟨n2, hn2⟩ : ∃ n2, deepF nodes (nodes.take k) = n2 := ⟨_, rfl⟩
            rw [hn1] at hst1 hfl
            rw [hn2] at hst2 hds
            rw [hn1, hn2]
            have hro : rooted nodes n = decide ((chainT nodes n.cnt n.who).getLast? = some (0, 0)) := rfl
            have hcl := chainT_len nodes n.cnt n.who
            obtain ⟨C, hC⟩ : ∃ C, chainT nodes n.cnt n.who = C := ⟨_, rfl⟩
            rw [hC] at HCh hst2 hro hcl
            rw [hro] at hst1 hst2
            have Hst1 := Lib.hid hst1
            have Hst2 := Lib.hid hst2
            clear hn hst1 hst2 hn1 hn2 hC hrn hro
            go_wp2_with fail
            refine HCh.out.mono ?_
            rintro e w3 ⟨v, rfl, hov, hb4⟩
            obtain ⟨a6, c6', rfl, hr6, _⟩ := hov.read
            have hb34 := hb3.trans (hb4.mono hb3.size)
            clear hov hb4 HCh c0 c1 c2 c3 c4 c5 c6
            cases C with
            | nil =>
              have e1 := Hst1.out
              have e2 := Hst2.out
              rw [if_neg (by simp)] at e1 e2
              have E1 := Lib.hid e1
              have E2 := Lib.hid e2
              clear e1 e2 hr6
              go_wp2_with fail
              go_roundw
              case rel => exact ⟨k + 1, by omega, by go_num, by rw [E1.out]; rfl, by rw [E2.out], hb34⟩
              case measure => simp [RowKit.intOf]; omega
            | cons c0 C0 =>
              obtain ⟨C, hC⟩ : ∃ C, c0 :: C0 = C := ⟨_, rfl⟩
              have hlen : 0 < C.length := by rw [← hC]; simp
              rw [hC] at Hst1 Hst2 hcl hr6 ⊢
              clear hC
              obtain ⟨m, hm⟩ : ∃ m, C.length = m + 1 := ⟨C.length - 1, by omega⟩
              obtain ⟨p, hp⟩ := at_some (show m < C.length by omega)
              obtain ⟨b6, off6, e6, hbl6, p0, p1⟩ := st_at hr6 hp
              subst e6
              have heq := eqlSt p.1 p.2 0 0
              have hgl : decide (C.getLast? = some (0, 0)) = decide (p.1 = 0 ∧ p.2 = 0) := by
                rw [List.getLast?_eq_getElem?, hm, Nat.add_sub_cancel, hp]
                obtain ⟨p1, p2⟩ := p
                simp
              rw [hgl] at Hst1
              rw [hgl, hm] at Hst2
              rw [hm]
              obtain ⟨z, hz⟩ : ∃ z, decide (p.1 = 0 ∧ p.2 = 0) = z := ⟨_, rfl⟩
              rw [hz] at Hst1 Hst2
              simp only [hz] at heq
              have hm1 : (((m + 1 : Nat) : Int) - 1) = (m : Int) := by omega
              have hmi : (m : Int) < ((m + 1 : Nat) : Int) := by omega
              have hm0 : (0 : Int) ≤ (m : Int) := by omega
              rw [hm] at hcl
              clear hz hgl hp hm hlen hr6
              cases z with
              | false =>
                go_wp2_with fail
                go_roundw
                case rel => exact ⟨k + 1, by omega, by go_num, by rw [Hst1.out]; rfl, by rw [Hst2.out]; rfl, hb34⟩
                case measure => simp [RowKit.intOf]; omega
              | true =>
                go_wp2_with fail
                go_roundw
                case rel => exact ⟨k + 1, by omega, by go_num, by rw [Hst1.out]; simp, by rw [Hst2.out]; first | (simp; done) | (simp; omega), hb34⟩
                case measure => simp [RowKit.intOf]; omega
          · obtain rfl : k = nodes.length := by omega
            have hbw3 := hbw2.trans (hb3.mono hbw2.size)
            have HV := Lib.hid (view_any av cv nodes wr (HT.out wr hbw3) (HN.out wr hb3) Hok.out)
            rw [List.take_length]
            have hds := deep_small nodes nodes
            go_wp2_with fail
            refine HV.out.mono ?_
            rintro e w4 ⟨a3, c3, rfl, hr4, hb4, _⟩
            have hb24 := hb3.trans (hb4.mono hb3.size)
            have hbw4 := hbw2.trans (hb24.mono hbw2.size)
            by_cases hdp : 16 < deepF nodes nodes
            · have hbig : viewF nodes = ([], 40) := by
                have h1 : ¬ deepF nodes nodes ≤ 16 := by omega
                unfold deepF at h1
                rw [deep_iff] at h1
                have h2 : ∃ n ∈ nodes, rooted nodes n = true ∧ 17 < (chainT nodes n.cnt n.who).length := by
                  refine Classical.byContradiction fun hno => h1 ⟨by omega, fun n hn hr => ?_⟩
                  refine Classical.byContradiction fun h3 => hno ⟨n, hn, hr, by omega⟩
                obtain ⟨n, hn, hr, hd⟩ := h2
                exact right_deep Hinv.out Hnam.out hn hr hd
              rw [hbig] at hr4 ⊢
              have hdd : decide ((deepF nodes nodes : Int) > 16) = true := decide_eq_true (by omega)
              have hdd2 : decide (16 < deepF nodes nodes) = true := decide_eq_true hdp
              generalize deepF nodes nodes = dp at *
              go_wp2_with fail
              refine (HAW.out _ hbw4).mono ?_
              rintro e w9 ⟨rfl, hb9⟩
              go_wp2_with fail
              go_ret
              exact ⟨rfl, (hbw4).trans (hb9.mono (hbw4).size)⟩
            · obtain ⟨hz, hcnt⟩ := right_shallow Hinv.out Hnam.out (fun n hn hr => by
                have h1 : deepF nodes nodes ≤ 16 := by omega
                unfold deepF at h1
                rw [deep_iff] at h1
                have := h1.2 n hn hr
                omega)
              have hdd : decide ((deepF nodes nodes : Int) > 16) = false := decide_eq_false (by omega)
              have hdd2 : decide (16 < deepF nodes nodes) = false := decide_eq_false hdp
              have Hit := Lib.hid fun x hx d hd => right_item Hinv.out.ris hz (x := x) hx (d := d) hd
              have Hris := Lib.hid (viewF_ris nodes)
              have Hgood := Lib.hid (viewF_good nodes)
              have HL0 := fun W (h : Below w4.heap.size w4 W) => hr4.keeps h
              rw [hz, ← hcnt]
              obtain ⟨xs, hxs⟩ : ∃ xs, (viewF nodes).1 = xs := ⟨_, rfl⟩
              rw [hxs] at HL0 hvl Hgood Hris Hit ⊢
              have HL := Lib.hid HL0
              generalize deepF nodes nodes = dp at *
              clear hcnt hz hxs HL0 hr4 HV hdp
              go_wp2_with fail
              go_loopw [11] (fun i wr => ∃ k : Nat, k ≤ xs.length ∧ i = .int .i64 k ∧ Below w4.heap.size w4 wr) (fun i _ => xs.length - (RowKit.intOf i).toNat)
              case atStart => exact ⟨0, Nat.zero_le _, rfl, Below.refl _ _⟩
              case round =>
                obtain ⟨k, hk, rfl, hb5⟩ := hrel
                by_cases hlt : k < xs.length
                · obtain ⟨x, hx⟩ := at_some hlt
                  have hlx := HL.out wr hb5
                  obtain ⟨b, off, hae, hbl, z0, z1, z2, z3, z4, z5⟩ := itm_at hlx hx
                  subst hae
                  have hlti : (k : Int) < (xs.length : Int) := by omega
                  have hlt0 : (0 : Int) ≤ (k : Int) := by omega
                  have hxm := List.mem_of_getElem? hx
                  obtain ⟨hgg, hpx⟩ := Hgood.out x hxm
                  have hbw5 := hbw4.trans (hb5.mono hbw4.size)
                  have hN5 := hb24.trans (hb5.mono hb24.size)
                  obtain ⟨d0, hd0⟩ : ∃ d, IsDir x.path d := isDir_some x.path
                  obtain ⟨n, hfn, hnd, hnm, _⟩ := Hit.out x hxm d0 hd0
                  have Hdir := Lib.hid fun d (hd : IsDir x.path d) => by
                    have h := Hit.out x hxm d hd
                    rw [hfn] at h
                    obtain ⟨n', h1, _, _, h3⟩ := h
                    cases h1
                    exact h3
                  have hfi := tfind_any av cv nodes x.cnt x.who wr (by omega) (HN.out wr hN5)
                  rw [hfn] at hfi
                  dsimp only at hfi
                  unfold Nd.agg at hfi
                  rw [hnd, hnm] at hfi
                  have HFi := Lib.hid hfi
                  have Hx := Lib.hid hx
                  clear hx hxm hfn hfi hnd hnm hd0
                  rw [hgg] at z4
                  go_wp2_with fail
                  refine HFi.out.mono ?_
                  rintro e w5 ⟨rfl, hb6⟩
                  have hY := VarAt.new w5 #[.int .i64 n.cnt, .int .i64 n.who, .bool x.dir, .int .i64 n.pc, .int .i64 n.pw, .string n.name, .string x.man] 46
                  have hA := (Below.refl w5.heap.size w5).alloc (Nat.le_refl _) (.cells #[.int .i64 n.cnt, .int .i64 n.who, .bool x.dir, .int .i64 n.pc, .int .i64 n.pw, .string n.name, .string x.man] 46)
                  have hb56 := hb5.trans (hb6.mono hb5.size)
                  have hb57 := hb56.trans (hA.mono hb56.size)
                  obtain ⟨g8, hg8⟩ : ∃ b, b = w5.heap.size := ⟨_, rfl⟩
                  obtain ⟨W5, hW5⟩ : ∃ W, W = w5.alloc (.cells #[.int .i64 n.cnt, .int .i64 n.who, .bool x.dir, .int .i64 n.pc, .int .i64 n.pw, .string n.name, .string x.man] 46) := ⟨_, rfl⟩
                  rw [← hg8, ← hW5] at hY
                  rw [← hW5] at hb57
                  have Hg8 := Lib.hid hg8
                  have HW5 := Lib.hid hW5
                  clear hA hg8 hW5 hb56 hb6 z0 z1 z2 z3 z4 z5
                  go_upto_region 27 with fail
                  rw [← Hg8.out, ← HW5.out]
                  obtain ⟨b, off, hae, hbl, z0, z1, z2, z3, z4, z5⟩ := itm_at (HL.out W5 hb57) Hx.out
                  cases hae
                  rw [hgg] at z4
                  have s1 := hY.2.2 2 _ rfl
                  have s4 := hY.2.2 6 _ rfl
                  go_cut [191] from 145 to 191 (fun c wx => c = .bool false ∧ ∃ n, wx = W5.drewN n)
                  case first =>
                    by_cases hk0 : k = 0
                    · have q0 : decide ((k : Int) > 0) = false := decide_eq_false (by omega)
                      have q0b : decide (0 < k) = false := decide_eq_false (by omega)
                      have q0c : decide ((0 : Int) < (k : Int)) = false := decide_eq_false (by omega)
                      clear hk0
                      go_wp2_with fail
                      go_quiet (fail)
                      go_wp2_with fail
                      go_meet
                      exact ⟨rfl, nq, rfl⟩
                    · obtain ⟨j, hj⟩ : ∃ j, k = j + 1 := ⟨k - 1, by omega⟩
                      obtain ⟨y, hy⟩ := at_some (show j < xs.length by omega)
                      obtain ⟨b3, off3, e3, hbl3, y0, _, _, _, _, _⟩ := itm_at (HL.out W5 hb57) hy
                      cases e3
                      have hlt2 := Lib.hid (ris_less Hris.out hy Hx.out (by omega))
                      have q0 : decide ((k : Int) > 0) = true := decide_eq_true (by omega)
                      have q0b : decide (0 < k) = true := decide_eq_true (by omega)
                      have q0c : decide ((0 : Int) < (k : Int)) = true := decide_eq_true (by omega)
                      have q1 : (k : Int) - 1 = (j : Int) := by omega
                      have q2 : (0 : Int) ≤ (j : Int) := by omega
                      have q3 : (j : Int) < (xs.length : Int) := by omega
                      have q4 := hlt2.out
                      clear hk0 hj hy
                      go_wp2_with fail
                      go_quiet (fail)
                      go_wp2_with fail
                      go_meet
                      exact ⟨rfl, nq, rfl⟩
                  case rest =>
                    obtain ⟨rfl, n9, rfl⟩ := hcut
                    have hY9 : VarAt (W5.drewN n9) g8 [.int .i64 n.cnt, .int .i64 n.who, .bool x.dir, .int .i64 n.pc, .int .i64 n.pw, .string n.name, .string x.man] := hY.drew n9
                    have hb59 := belowDrew hb57 n9
                    obtain ⟨W9, hW9⟩ : ∃ W, W = W5.drewN n9 := ⟨_, rfl⟩
                    rw [← hW9] at hY9 hb59 ⊢
                    clear hW9 hY hb57 z0 z1 z2 z3 z4 z5 s1 s4
                    obtain ⟨b, off, hae, hbl, z0, z1, z2, z3, z4, z5⟩ := itm_at (HL.out W9 hb59) Hx.out
                    cases hae
                    have HD := Lib.hid (dir_any x.path W9 (by omega))
                    have s3 := hY9.2.2 3 _ rfl
                    have s4 := hY9.2.2 4 _ rfl
                    go_wp2_with fail
                    refine HD.out.mono ?_
                    rintro e w8 ⟨⟨d, rfl, hd, hds⟩, rfl⟩
                    rcases Hdir.out d hd with ⟨rfl, e1, e2⟩ | ⟨hde, y, hfy, hyd, e1, e2⟩
                    · have heq := fun W => neqStp ⟨n.pc, n.pw⟩ ⟨0, 0⟩ W
                      have hz0 : decide ((⟨n.pc, n.pw⟩ : Stp) = ⟨0, 0⟩) = true := decide_eq_true (by rw [e1, e2])
                      simp only [hz0] at heq
                      clear e1 e2 hz0 hd
                      go_wp2_with fail
                      go_roundw
                      case rel => exact ⟨k + 1, by omega, by go_num, hb59⟩
                      case measure => simp [RowKit.intOf]; omega
                    · have hdn : d.toList.isEmpty = false := by
                        rw [List.isEmpty_eq_false_iff]
                        exact fun e => hde (toList_inj.1 (e.trans (by rw [toList_data])))
                      have hAt := at_any (some ⟨b, off, none⟩) c3 xs d W9 (by omega) (HL.out W9 hb59)
                      rw [hfy] at hAt
                      obtain ⟨yp, yc, yw, yd, yg, ym⟩ := y
                      dsimp only at hyd e1 e2
                      subst hyd
                      dsimp only at hAt
                      unfold Itm.agg at hAt
                      dsimp only at hAt
                      have HAt := Lib.hid hAt
                      have heq := fun W => neqStp ⟨yc, yw⟩ ⟨n.pc, n.pw⟩ W
                      have hz0 : decide ((⟨yc, yw⟩ : Stp) = ⟨n.pc, n.pw⟩) = true := decide_eq_true (by rw [e1, e2])
                      simp only [hz0] at heq
                      clear e1 e2 hz0 hd hfy hAt hde
                      go_wp2_with fail
                      refine HAt.out.mono ?_
                      rintro e v1 ⟨rfl, hc1⟩
                      have hA2 := (Below.refl v1.heap.size v1).alloc (Nat.le_refl _) (.cells #[.string yp, .int .i64 yc, .int .i64 yw, .bool true, .bool yg, .string ym] 34)
                      have hY8 := (hY9.keeps hc1 hY9.1).keeps hA2 (hY9.keeps hc1 hY9.1).1
                      have r3 := hY8.2.2 3 _ rfl
                      have r4 := hY8.2.2 4 _ rfl
                      have hb60 := hb59.trans (hc1.mono hb59.size)
                      have hb61 := hb60.trans (hA2.mono hb60.size)
                      go_wp2_with fail
                      go_roundw
                      case rel => exact ⟨k + 1, by omega, by go_num, hb61⟩
                      case measure => simp [RowKit.intOf]; omega
                · obtain rfl : k = xs.length := by omega
                  have hbw5 := hbw4.trans (hb5.mono hbw4.size)
                  go_wp2_with fail
                  refine (HAW.out _ hbw5).mono ?_
                  rintro e w9 ⟨rfl, hb9⟩
                  go_wp2_with fail
                  go_ret
                  exact ⟨rfl, (hbw5).trans (hb9.mono (hbw5).size)⟩
end Go.Proofs.YtfbdbjookkogjaaDoor

