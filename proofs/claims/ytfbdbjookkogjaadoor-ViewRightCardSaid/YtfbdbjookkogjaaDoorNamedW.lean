/-
  What operations make of a tree: its nodes rise by their stamps (plain law). How the items of a tree are called, and stand below one another: plain law. What the nodes of a tree are called in its view: the plain law of ViewNames. What the nodes of a tree are called in its view: the law's walk.
-/
import Derived.Test.YtfbdbjookkogjaaDoorTreeG
import Derived.Test.YtfbdbjookkogjaaDoorWiderW
import Derived.Test.YtfbdbjookkogjaaDoorShownG
import Derived.Laws.Concat
import Derived.Deep.CutRange
import Derived.Lib.QuietBelow
namespace Go.Proofs.YtfbdbjookkogjaaDoor
open Go Go.RowKit Go.Lib
theorem lessN_iff {a b c d : Int} : lessC a b c d = true ↔ a < c ∨ (a = c ∧ b < d) := by
  unfold lessC
  simp
theorem lessN_trans {a b c d e f : Int} (h1 : lessC a b c d = true) (h2 : lessC c d e f = true) : lessC a b e f = true := by
  rw [lessN_iff] at *
  omega
theorem lessN_asymm {a b c d : Int} (h1 : lessC a b c d = true) : lessC c d a b = false := by
  rw [← Bool.not_eq_true, lessN_iff]
  rw [lessN_iff] at h1
  omega
theorem lessN_total {a b c d : Int} (h1 : ¬ lessC a b c d = true) (h2 : ¬ (a = c ∧ b = d)) : lessC c d a b = true := by
  rw [lessN_iff] at *
  omega
def idN (n : Nd) : Int × Int := (n.cnt, n.who)
def RisN (l : List Nd) : Prop := l.Pairwise fun n m => ltNd n m = true
theorem ris_iff {l : List Nd} : RisN l ↔ (l.map idN).Pairwise fun a b => lessC a.1 a.2 b.1 b.2 = true := by
  rw [List.pairwise_map]
  rfl
theorem grownT_ris {l : List Nd} {n : Nd} (h : RisN l) (hm : ∀ y ∈ l, ¬ (y.cnt = n.cnt ∧ y.who = n.who)) : RisN (grownT l n) := by
  have hlo : ∀ y ∈ l.take (l.findIdx (ltNd n)), ltNd y n = true := fun y hy => by
    obtain ⟨j, hj, e⟩ := List.mem_iff_getElem.1 hy
    rw [List.length_take] at hj
    have h2 := List.not_of_lt_findIdx (p := ltNd n) (xs := l) (i := j) (by omega)
    rw [List.getElem_take] at e
    rw [e] at h2
    refine lessN_total (by simpa [ltNd] using h2) (fun e => hm y (List.mem_of_mem_take hy) ⟨e.1.symm, e.2.symm⟩)
  have hhi : ∀ y ∈ l.drop (l.findIdx (ltNd n)), ltNd n y = true := fun y hy => by
    by_cases hlt : l.findIdx (ltNd n) < l.length
    · have h1 : ltNd n l[l.findIdx (ltNd n)] = true := List.findIdx_getElem (w := hlt)
      have h2 : RisN (l.drop (l.findIdx (ltNd n))) := List.Pairwise.sublist (List.drop_sublist _ _) h
      rw [List.drop_eq_getElem_cons hlt] at h2 hy
      rcases List.mem_cons.1 hy with rfl | hy
      · exact h1
      · exact lessN_trans h1 ((List.pairwise_cons.1 h2).1 y hy)
    · rw [List.drop_of_length_le (by omega)] at hy
      cases hy
  unfold grownT RisN
  rw [List.pairwise_append, List.pairwise_cons]
  refine ⟨List.Pairwise.sublist (List.take_sublist _ _) h, ⟨hhi, List.Pairwise.sublist (List.drop_sublist _ _) h⟩, fun a ha b hb => ?_⟩
  rcases List.mem_cons.1 hb with rfl | hb
  · exact hlo a ha
  · exact lessN_trans (hlo a ha) (hhi b hb)
theorem findT_no {l : List Nd} {c q : Int} (h : (findT l c q).2 = false) : ∀ y ∈ l, ¬ (y.cnt = c ∧ y.who = q) := fun y hy e => by
  rcases where_casesG (z := nd0) (l := l) (p := isNd c q) with ⟨_, _, _, _, h1, _⟩ | ⟨_, _, h1⟩
  · have h2 : findT l c q = _ := h1
    rw [h2] at h
    cases h
  · have h2 := h1 y hy
    unfold isNd at h2
    exact absurd e (of_decide_eq_false h2)
theorem findT_at {l : List Nd} {c q : Int} (h : (findT l c q).2 = true) : l[l.findIdx (isNd c q)]? = some (findT l c q).1 := by
  rcases where_casesG (z := nd0) (l := l) (p := isNd c q) with ⟨k, y, h0, h1, h2, _⟩ | ⟨_, h1, _⟩
  · have h3 : findT l c q = _ := h2
    rw [h3]
    unfold whereG at h0
    split at h0
    · have : l.findIdx (isNd c q) = k := by omega
      rw [this]
      exact h1
    · omega
  · have h3 : findT l c q = _ := h1
    rw [h3] at h
    cases h
theorem set_ids {l : List Nd} {i : Nat} {n m : Nd} (hn : l[i]? = some n) (e : idN m = idN n) : (l.set i m).map idN = l.map idN := by
  apply List.ext_getElem?
  intro j
  rw [List.getElem?_map, List.getElem?_map, List.getElem?_set]
  split
  · rename_i h
    subst h
    obtain ⟨h1, h2⟩ := List.getElem?_eq_some_iff.1 hn
    rw [if_pos h1, hn]
    simp [e]
  · rfl
theorem doT_ris {l : List Nd} {x : Opr} (h : RisN l) : RisN (doT l x) := by
  unfold doT
  split
  · rename_i hf
    split
    · refine grownT_ris h (fun y hy => ?_)
      have := findT_no hf y hy
      unfold madeT
      split <;> exact this
    · exact h
  · rename_i hf
    have hf2 : (findT l x.nc x.nw).2 = true := by simpa using hf
    split
    · exact h
    · split
      · rw [ris_iff, set_ids (findT_at hf2)]
        · exact ris_iff.1 h
        · obtain ⟨h1, h2⟩ := turnedT_id l (findT l x.nc x.nw).1 x
          unfold idN
          rw [h1, h2]
      · exact h
theorem foldFrom_ris : ∀ (ops : List Opr) (l : List Nd), RisN l → RisN (ops.foldl doT l)
  | [], _, h => h
  | x :: r, l, h => foldFrom_ris r (doT l x) (doT_ris h)
theorem foldT_ris (ops : List Opr) : RisN (foldT ops) := foldFrom_ris ops [] List.Pairwise.nil
theorem ris_get {l : List Nd} (h : RisN l) {j k : Nat} {y x : Nd} (hy : l[j]? = some y) (hx : l[k]? = some x) (hjk : j < k) : ltNd y x = true := by
  unfold RisN at h
  rw [List.pairwise_iff_getElem] at h
  obtain ⟨a1, a2⟩ := List.getElem?_eq_some_iff.1 hy
  obtain ⟨b1, b2⟩ := List.getElem?_eq_some_iff.1 hx
  have h3 := h j k a1 b1 hjk
  rw [a2, b2] at h3
  exact h3
theorem ltN_ne {n m : Nd} (h : ltNd n m = true) : ¬ (n.cnt = m.cnt ∧ n.who = m.who) := fun e => by
  have h2 := lessN_iff.1 h
  omega
theorem findT_own {l : List Nd} (h : RisN l) {n : Nd} (hn : n ∈ l) : findT l n.cnt n.who = (n, true) := by
  obtain ⟨k, hk⟩ := List.mem_iff_getElem?.1 hn
  refine find_hitG hk (decide_eq_true ⟨rfl, rfl⟩) (fun j z hj hz => ?_)
  exact decide_eq_false (ltN_ne (ris_get h hz hk hj))
theorem ris_same {l : List Nd} (h : RisN l) {n m : Nd} (hn : n ∈ l) (hm : m ∈ l) (e1 : n.cnt = m.cnt) (e2 : n.who = m.who) : n = m := by
  have h1 := findT_own h hn
  rw [e1, e2, findT_own h hm] at h1
  cases h1
  rfl
end Go.Proofs.YtfbdbjookkogjaaDoor

namespace Go.Proofs.YtfbdbjookkogjaaDoor
open Go Go.RowKit Go.Lib
def RelU (nodes : List Nd) (c w : Int) (ahead : List UInt8) (new : List Itm) : Prop :=
  ∀ x ∈ new, ∃ n ∈ nodes, ofNd n x ∧ ∃ g : ByteArray, (n, g) ∈ given nodes n.pc n.pw ∧ uniqueN ((childF nodes n.pc n.pw).map (·.name)) = 0 ∧ ((n.pc = c ∧ n.pw = w ∧ pI x = ahead ++ g.data.toList) ∨ ∃ y ∈ new, under n x y g.data.toList)
def RelSubU (nodes : List Nd) (ahead : List UInt8) (l : List (Nd × ByteArray)) (new : List Itm) : Prop :=
  ∀ x ∈ new, ∃ n ∈ nodes, ofNd n x ∧ ∃ g : ByteArray, (n, g) ∈ given nodes n.pc n.pw ∧ uniqueN ((childF nodes n.pc n.pw).map (·.name)) = 0 ∧ ((∃ p ∈ l, p.1.dir = true ∧ p.1.cnt = n.pc ∧ p.1.who = n.pw ∧ pI x = ahead ++ (p.2.data.toList ++ 47 :: g.data.toList)) ∨ ∃ y ∈ new, under n x y g.data.toList)
theorem subV_relU {nodes : List Nd} {down : Int → Int → ByteArray → List Itm → List Itm × Int} (hd : ∀ c w a o, (down c w a o).2 = 0 → ∃ new, (down c w a o).1 = o ++ new ∧ RelU nodes c w a.data.toList new) (ahead : ByteArray) : ∀ (l : List (Nd × ByteArray)) (out : List Itm), (subV down ahead l out).2 = 0 → ∃ new, (subV down ahead l out).1 = out ++ new ∧ RelSubU nodes ahead.data.toList l new
  | [], out, _ => ⟨[], by simp [subV], fun x hx => by simp at hx⟩
  | (n, g) :: r, out, h => by
    have up : ∀ new, RelSubU nodes ahead.data.toList r new → RelSubU nodes ahead.data.toList ((n, g) :: r) new := fun new hr x hx => by
      obtain ⟨m, hm, ho, q, h1, h2, h3⟩ := hr x hx
      refine ⟨m, hm, ho, q, h1, h2, ?_⟩
      rcases h3 with ⟨p, hp, h4⟩ | h3
      · exact .inl ⟨p, List.mem_cons_of_mem _ hp, h4⟩
      · exact .inr h3
    unfold subV at h ⊢
    by_cases hdir : n.dir = true
    · rw [if_pos hdir] at h ⊢
      by_cases h0 : (down n.cnt n.who (ahead ++ g ++ slashB) out).2 = 0
      · rw [if_pos h0] at h ⊢
        obtain ⟨new1, e1, r1⟩ := hd n.cnt n.who (ahead ++ g ++ slashB) out h0
        obtain ⟨new2, e2, r2⟩ := subV_relU hd ahead r _ h
        refine ⟨new1 ++ new2, by rw [e2, e1, List.append_assoc], fun x hx => ?_⟩
        rcases List.mem_append.1 hx with hx | hx
        · obtain ⟨m, hm, ho, q, h1, h2, h3⟩ := r1 x hx
          refine ⟨m, hm, ho, q, h1, h2, ?_⟩
          rcases h3 with ⟨h4, h5, h6⟩ | ⟨y, hy, h4⟩
          · exact .inl ⟨(n, g), List.mem_cons_self, hdir, h4.symm, h5.symm, by rw [h6, sub_list]⟩
          · exact .inr ⟨y, List.mem_append_left _ hy, h4⟩
        · obtain ⟨m, hm, ho, q, h1, h2, h3⟩ := up new2 r2 x hx
          refine ⟨m, hm, ho, q, h1, h2, ?_⟩
          rcases h3 with h3 | ⟨y, hy, h4⟩
          · exact .inl h3
          · exact .inr ⟨y, List.mem_append_right _ hy, h4⟩
      · rw [if_neg h0] at h
        exact absurd h h0
    · rw [if_neg hdir] at h ⊢
      obtain ⟨new, e, hr⟩ := subV_relU hd ahead r out h
      exact ⟨new, e, up new hr⟩
theorem added_relU {nodes : List Nd} {c w : Int} (ahead : ByteArray) (hu : uniqueN ((childF nodes c w).map (·.name)) = 0) : RelU nodes c w ahead.data.toList ((given nodes c w).map fun p => itmOf ahead p.2 p.1) := fun x hx => by
  obtain ⟨p, hp, rfl⟩ := List.mem_map.1 hx
  obtain ⟨h1, h2⟩ := given_nd p hp
  exact ⟨p.1, h1, ⟨rfl, rfl, rfl, rfl⟩, p.2, by rw [h2.1, h2.2]; exact hp, by rw [h2.1, h2.2]; exact hu, .inl ⟨h2.1, h2.2, pI_of _ _ _⟩⟩
theorem downV_relU (nodes : List Nd) : ∀ (f : Nat) (c w : Int) (ahead : ByteArray) (out : List Itm), (downV nodes f c w ahead out).2 = 0 → ∃ new, (downV nodes f c w ahead out).1 = out ++ new ∧ RelU nodes c w ahead.data.toList new
  | 0, c, w, ahead, out, h => by
    unfold downV at h ⊢
    split at h
    · rename_i h1
      exact absurd h h1
    · rename_i h1
      rw [if_neg h1, addV_does _ _ _ _ h]
      exact ⟨_, rfl, added_relU ahead (Classical.not_not.1 h1)⟩
  | f + 1, c, w, ahead, out, h => by
    unfold downV at h ⊢
    split at h
    · rename_i h1
      exact absurd h h1
    · rename_i h1
      have hu := Classical.not_not.1 h1
      have ha := added_relU (nodes := nodes) (c := c) (w := w) ahead hu
      rw [if_neg h1]
      split at h
      · rename_i h2
        rw [if_pos h2]
        rw [addV_does _ _ _ _ h2] at h ⊢
        obtain ⟨new, e, hr⟩ := subV_relU (downV_relU nodes f) ahead _ _ h
        refine ⟨_, by rw [e, List.append_assoc], fun x hx => ?_⟩
        rcases List.mem_append.1 hx with hx | hx
        · obtain ⟨m, hm, ho, q, h3, h4, h5⟩ := ha x hx
          refine ⟨m, hm, ho, q, h3, h4, ?_⟩
          rcases h5 with h5 | ⟨y, hy, h6⟩
          · exact .inl h5
          · exact .inr ⟨y, List.mem_append_left _ hy, h6⟩
        · obtain ⟨m, hm, ho, q, h3, h4, h5⟩ := hr x hx
          refine ⟨m, hm, ho, q, h3, h4, .inr ?_⟩
          rcases h5 with ⟨p, hp, h6, h7, h8, h9⟩ | ⟨y, hy, h6⟩
          · refine ⟨itmOf ahead p.2 p.1, List.mem_append_left _ (List.mem_map.2 ⟨p, hp, rfl⟩), h6, h7, h8, ?_⟩
            rw [h9, pI_of, List.append_assoc]
          · exact ⟨y, List.mem_append_right _ hy, h6⟩
      · rename_i h2
        exact absurd h h2
end Go.Proofs.YtfbdbjookkogjaaDoor

namespace Go.Proofs.YtfbdbjookkogjaaDoor
open Go Go.RowKit Go.Lib
theorem viewF_relU {nodes : List Nd} (h : (viewF nodes).2 = 0) : RelU nodes 0 0 [] (viewF nodes).1 := by
  by_cases h0 : (downV nodes 16 0 0 ⟨#[]⟩ []).2 = 0
  · obtain ⟨new, e, hr⟩ := downV_relU nodes 16 0 0 ⟨#[]⟩ [] h0
    rw [List.nil_append] at e
    have e2 : (viewF nodes).1 = sortI new := by
      unfold viewF
      rw [if_pos h0, e]
    rw [e2]
    intro x hx
    obtain ⟨n, hn, ho, g, h1, h2, h3⟩ := hr x (mem_sortI.1 hx)
    refine ⟨n, hn, ho, g, h1, h2, ?_⟩
    rcases h3 with h3 | ⟨y, hy, h4⟩
    · exact .inl h3
    · exact .inr ⟨y, mem_sortI.2 hy, h4⟩
  · unfold viewF at h
    rw [if_neg h0] at h
    exact absurd h h0
/-- d is what is ahead of s's last '/'. -/
def IsDir (s d : ByteArray) : Prop := ((47 : UInt8) ∉ s.data.toList ∧ d = ⟨#[]⟩) ∨ ∃ u v : List UInt8, s.data.toList = u ++ 47 :: v ∧ (47 : UInt8) ∉ v ∧ d.data.toList = u
theorem last_slash : ∀ l : List UInt8, (47 : UInt8) ∈ l → ∃ u v : List UInt8, l = u ++ 47 :: v ∧ (47 : UInt8) ∉ v
  | [], h => by cases h
  | x :: r, h => by
    by_cases h2 : (47 : UInt8) ∈ r
    · obtain ⟨u, v, e, hv⟩ := last_slash r h2
      exact ⟨x :: u, v, by rw [e]; rfl, hv⟩
    · rcases List.mem_cons.1 h with e | h
      · exact ⟨[], r, by rw [← e]; rfl, h2⟩
      · exact absurd h h2
theorem isDir_some (s : ByteArray) : ∃ d, IsDir s d := by
  by_cases h : (47 : UInt8) ∈ s.data.toList
  · obtain ⟨u, v, e, hv⟩ := last_slash _ h
    exact ⟨⟨u.toArray⟩, .inr ⟨u, v, e, hv, rfl⟩⟩
  · exact ⟨_, .inl ⟨h, rfl⟩⟩
def ownF (d name : ByteArray) : ByteArray := if d = ⟨#[]⟩ then name else d ++ slashB ++ name
/-- Others of a name. -/
def twinN (n m : Nd) : Bool := decide (m.name = n.name) && !decide (m.cnt = n.cnt ∧ m.who = n.who)
def firstN (nodes : List Nd) (n : Nd) : Bool := (childF nodes n.pc n.pw).all fun m => !twinN n m || ltNd n m
theorem given_first {nodes : List Nd} (hr : RisN nodes) {n : Nd} {g : ByteArray} {c w : Int} (hg : (n, g) ∈ given nodes c w) (hu : uniqueN ((childF nodes c w).map (·.name)) = 0) :
    g = n.name ↔ ∀ m ∈ childF nodes c w, twinN n m = true → ltNd n m = true := by
  unfold given at hg
  have hrl : RisN (childF nodes c w) := List.Pairwise.sublist List.filter_sublist hr
  obtain ⟨L, hL⟩ : ∃ L, childF nodes c w = L := ⟨_, rfl⟩
  rw [hL] at hg hu hrl ⊢
  clear hL
  have hl : ¬ 1000 < (L.map (·.name)).length := fun hl => by
    rw [(unique_big hl).1] at hu
    cases hu
  cases hrr : allRight (L.map (·.name)) with
  | false =>
    rw [(unique_wrong hl hrr).1] at hu
    cases hu
  | true =>
    rw [(unique_right hl hrr).2] at hg
    obtain ⟨k, hk⟩ := List.mem_iff_getElem?.1 hg
    rw [List.getElem?_zip_eq_some] at hk
    obtain ⟨hk1, hk2⟩ := hk
    obtain ⟨klt, hkn⟩ := List.getElem?_eq_some_iff.1 hk1
    have hlen : (L.map (·.name)).length = L.length := List.length_map _
    have hgk : g = pickU (L.map (·.name)) (outU (L.map (·.name)) k) k := by
      rw [← outU_getD (L.map (·.name)) (k := k) (m := (L.map (·.name)).length) (by omega), List.getD_eq_getElem?_getD, hk2]
      rfl
    have hsk : (L.map (·.name)).getD k ByteArray.empty = n.name := by
      rw [List.getD_eq_getElem?_getD, List.getElem?_map, hk1]
      rfl
    have hin : n.name ∈ L.map (·.name) := List.mem_map.2 ⟨n, List.mem_of_getElem? hk1, rfl⟩
    have hx := allRight_at hrr (k := k) (by omega)
    obtain ⟨_, _, n3, _⟩ := nextN_spec (T := L.map (·.name) ++ outU (L.map (·.name)) k) hx (by simp [outU_length]; omega)
    unfold pickU at hgk
    rw [hsk] at hgk n3
    constructor
    · intro e m hm ht
      unfold twinN at ht
      rw [Bool.and_eq_true, decide_eq_true_eq] at ht
      obtain ⟨j, hj⟩ := List.mem_iff_getElem?.1 hm
      by_cases hjk : j < k
      · have h1 : hasB ((L.map (·.name)).take k) n.name = true := by
          rw [hasB_iff, ← ht.1]
          rw [List.mem_iff_getElem?]
          refine ⟨j, ?_⟩
          rw [List.getElem?_take_of_lt hjk, List.getElem?_map, hj]
          rfl
        rw [if_pos h1] at hgk
        rw [← hgk, e] at n3
        exact absurd (List.mem_append_left _ hin) n3
      · by_cases hjk2 : j = k
        · subst hjk2
          rw [hk1] at hj
          cases hj
          simp at ht
        · exact ris_get hrl hk1 hj (by omega)
    · intro h
      have h1 : hasB ((L.map (·.name)).take k) n.name = false := by
        rw [hasB_not]
        intro hm
        obtain ⟨j, hj⟩ := List.mem_iff_getElem?.1 hm
        rw [List.getElem?_take] at hj
        split at hj
        · rename_i hjk
          rw [List.getElem?_map] at hj
          cases hm2 : L[j]? with
          | none => rw [hm2] at hj; cases hj
          | some m =>
            rw [hm2] at hj
            have hnm : m.name = n.name := by simpa using hj
            have h2 := ris_get hrl hm2 hk1 hjk
            have h3 : twinN n m = true := by
              unfold twinN
              rw [Bool.and_eq_true, decide_eq_true_eq]
              refine ⟨hnm, ?_⟩
              rw [decide_eq_false (ltN_ne h2)]
              rfl
            have h4 := h m (List.mem_of_getElem? hm2) h3
            have h5 : ltNd m n = false := lessN_asymm h4
            rw [h2] at h5
            cases h5
        · cases hj
      rw [h1] at hgk
      exact hgk
theorem name_short {nodes : List Nd} {c w : Int} {p : Nd × ByteArray} (hp : p ∈ given nodes c w) (hu : uniqueN ((childF nodes c w).map (·.name)) = 0) : p.1.name.size ≤ 24 := by
  have hl : ¬ 1000 < ((childF nodes c w).map (·.name)).length := fun hl => by
    rw [(unique_big hl).1] at hu
    cases hu
  cases hrr : allRight ((childF nodes c w).map (·.name)) with
  | false =>
    rw [(unique_wrong hl hrr).1] at hu
    cases hu
  | true =>
    have h1 : p.1.name ∈ (childF nodes c w).map (·.name) := List.mem_map.2 ⟨p.1, (List.of_mem_zip hp).1, rfl⟩
    unfold allRight at hrr
    have h2 := rightL_len (List.all_eq_true.1 hrr _ h1)
    rw [size_eq]
    exact h2
theorem bytes_inj {a b : ByteArray} : a.data.toList = b.data.toList ↔ a = b := by
  constructor
  · intro h
    obtain ⟨⟨a⟩⟩ := a
    obtain ⟨⟨b⟩⟩ := b
    have h2 : a = b := h
    rw [h2]
  · intro h
    rw [h]
/-- The law: an item is called by its node's name just when its node is the first of it in its directory. -/
theorem named_own {nodes : List Nd} (hr : RisN nodes) (h0 : (viewF nodes).2 = 0) {x : Itm} (hx : x ∈ (viewF nodes).1) :
    ∃ n, findT nodes x.cnt x.who = (n, true) ∧ n ∈ nodes ∧ n.name.size ≤ 24 ∧ ∀ d, IsDir x.path d → firstN nodes n = decide (x.path = ownF d n.name) := by
  have hR := viewF_relU h0
  obtain ⟨n, hn, ho, g, h1, h2, h3⟩ := hR x hx
  refine ⟨n, by rw [← ho.1, ← ho.2.1]; exact findT_own hr hn, hn, name_short h1 h2, fun d hd => ?_⟩
  have hf : firstN nodes n = true ↔ g = n.name := by
    rw [given_first hr h1 h2]
    unfold firstN
    rw [List.all_eq_true]
    constructor
    · intro h m hm ht
      have := h m hm
      rw [ht] at this
      exact this
    · intro h m hm
      cases ht : twinN n m with
      | false => rfl
      | true => exact h m hm ht
  obtain ⟨hg1, hg2⟩ := (given_ok nodes _ _ h2).1 _ h1
  have key : g = n.name ↔ x.path = ownF d n.name := by
    rcases h3 with ⟨_, _, h4⟩ | ⟨y, hy, _, _, _, h4⟩
    · have h5 : x.path = g := bytes_inj.1 h4
      rcases hd with ⟨_, rfl⟩ | ⟨u, v, e, _, _⟩
      · unfold ownF
        rw [if_pos rfl, h5]
      · have h6 : pI x = u ++ 47 :: v := e
        rw [h4, List.nil_append] at h6
        exact absurd (by rw [h6]; simp) hg2
    · have hyne : pI y ≠ [] := by
        obtain ⟨m, _, _, g', h5, h6, h7⟩ := hR y hy
        have h8 := ((given_ok nodes _ _ h6).1 _ h5).1
        rcases h7 with ⟨_, _, h7⟩ | ⟨z, _, _, _, _, h7⟩
        · rw [h7]
          simpa using h8
        · rw [h7]
          simp
      rcases hd with ⟨e, _⟩ | ⟨u, v, e, hv, hu⟩
      · exact absurd (by rw [show x.path.data.toList = _ from h4]; simp) e
      · have h6 : pI x = u ++ 47 :: v := e
        rw [h4] at h6
        obtain ⟨h7, h8⟩ := split_last _ _ _ _ hg2 hv h6
        have hdne : d ≠ ⟨#[]⟩ := fun e => by
          rw [← h8] at hu
          rw [e] at hu
          exact hyne hu.symm
        unfold ownF
        rw [if_neg hdne, ← bytes_inj, ← bytes_inj, show x.path.data.toList = _ from h4, ByteArray.data_append, ByteArray.data_append, Array.toList_append, Array.toList_append, hu, ← h8]
        show _ ↔ pI y ++ 47 :: g.data.toList = pI y ++ [47] ++ n.name.data.toList
        rw [List.append_assoc, List.append_cancel_left_eq]
        simp
  cases hc : firstN nodes n with
  | true => rw [decide_eq_true (key.1 (hf.1 hc))]
  | false =>
    rw [decide_eq_false (fun e => ?_)]
    rw [hf.2 (key.2 e)] at hc
    cases hc
end Go.Proofs.YtfbdbjookkogjaaDoor

namespace Go.Proofs.YtfbdbjookkogjaaDoor
open Go Go.RowKit Go.Lib
theorem dir_hit {s : ByteArray} {n : Nat} (h : n < s.size) (h47 : (s[n].toNat : Int) = 47) (hk : ∀ j (hj : j < s.size), (n : Int) < j → (s[j].toNat : Int) ≠ 47) : IsDir s (s.extract 0 n) := by
  have hps : s.data.toList.length = s.size := by rw [size_eq]
  have h2 : s.data.toList[n]'(by omega) = 47 := by
    have h3 : s[n] = 47 := by
      apply UInt8.toNat_inj.1
      have : s[n].toNat = 47 := by omega
      rw [this]
      rfl
    exact h3
  refine .inr ⟨s.data.toList.take n, s.data.toList.drop (n + 1), ?_, fun hm => ?_, ?_⟩
  · conv => lhs; rw [← List.take_append_drop n s.data.toList]
    rw [List.drop_eq_getElem_cons (by omega), h2]
  · obtain ⟨j, hj, e⟩ := List.mem_iff_getElem.1 hm
    rw [List.length_drop] at hj
    rw [List.getElem_drop] at e
    refine hk (n + 1 + j) (by omega) (by omega) ?_
    have h4 : s[n + 1 + j]'(by omega) = 47 := e
    rw [h4]
    rfl
  · rw [ByteArray.data_extract, Array.toList_extract]
    simp [List.extract_eq_take_drop]
theorem dir_miss {s : ByteArray} (hk : ∀ j (hj : j < s.size), (s[j].toNat : Int) ≠ 47) : IsDir s ⟨#[]⟩ := by
  have hps : s.data.toList.length = s.size := by rw [size_eq]
  refine .inl ⟨fun hm => ?_, rfl⟩
  obtain ⟨j, hj, e⟩ := List.mem_iff_getElem.1 hm
  refine hk j (by omega) ?_
  have h4 : s[j]'(by omega) = 47 := e
  rw [h4]
  rfl
set_option maxHeartbeats 400000 in
theorem dir_any (s : ByteArray) (w : World) (hs : s.size ≤ 140737488351232) :
    Calls Tryd.prog 23 #[.string s] w fun e w' => (∃ d, e = .returned (.string d) ∧ IsDir s d ∧ d.size ≤ s.size) ∧ w = w' := by
  have Hh := Lib.hid fun (n : Nat) (h : n < s.size) (h47 : (s[n].toNat : Int) = 47) (hk : ∀ j (hj : j < s.size), (n : Int) < j → (s[j].toNat : Int) ≠ 47) => dir_hit h h47 hk
  have Hm := Lib.hid fun (hk : ∀ j (hj : j < s.size), (s[j].toNat : Int) ≠ 47) => dir_miss hk
  go_enter Tryd.func23, Tryd.ntmps23
  go_wp2
  go_loop [3] (fun i => ∃ k : Int, -1 ≤ k ∧ k < s.size ∧ i = .int .i64 k ∧ Hid (∀ j (hj : j < s.size), k < j → (s[j].toNat : Int) ≠ 47)) (fun i => ((RowKit.intOf i) + 1).toNat)
  case atStart => exact ⟨_, by omega, by omega, rfl, fun j hj h => by omega⟩
  case round =>
    obtain ⟨k, hk1, hk2, rfl, Hk⟩ := hrel
    by_cases h0 : 0 ≤ k
    · obtain ⟨n, rfl⟩ : ∃ n : Nat, k = n := ⟨k.toNat, by omega⟩
      have hn : n < s.size := by omega
      by_cases h46 : (s[n].toNat : Int) = 47
      · have b46 : ((s[n].toNat : Int) == 47) = true := by simpa using h46
        have H46 := Lib.hid h46
        clear h46
        go_wp2
        go_ret
        exact ⟨⟨_, rfl, Hh.out n hn H46.out Hk.out, by rw [ByteArray.size_extract]; omega⟩, rfl⟩
      · have b46 : ((s[n].toNat : Int) == 47) = false := by simpa using h46
        have H46 := Lib.hid h46
        clear h46
        go_wp2
        go_round
        case rel =>
          refine ⟨(n : Int) - 1, by omega, by omega, rfl, fun j hj hlt => ?_⟩
          by_cases e : j = n
          · subst e; exact H46.out
          · exact Hk.out j hj (by omega)
        case measure => simp [RowKit.intOf]
    · go_wp2
      go_ret
      exact ⟨⟨⟨#[]⟩, rfl, Hm.out (fun j hj => Hk.out j hj (by omega)), Nat.zero_le _⟩, rfl⟩
theorem first_or (L : List Nd) (n : Nd) : (!(L.any (twinN n)) || L.all fun m => !twinN n m || ltNd n m) = L.all fun m => !twinN n m || ltNd n m := by
  cases h : L.any (twinN n) with
  | true => simp
  | false =>
    have : (L.all fun m => !twinN n m || ltNd n m) = true := by
      rw [List.all_eq_true]
      intro m hm
      have h2 := List.any_eq_false.1 h m hm
      simp [h2]
    rw [this]
    rfl
theorem viewF_zero {nodes : List Nd} (h : (viewF nodes).2 ≠ 0) : (viewF nodes).1 = [] := by
  unfold viewF at h ⊢
  split
  · rename_i h1
    rw [if_pos h1] at h
    exact absurd rfl h
  · rfl
set_option maxRecDepth 100000 in
set_option maxHeartbeats 6400000 in
theorem law_viewNames (a : Option Addr) (cap : Nat) (ops : List Opr) (w : World) (hl : ops.length ≤ 140737488351232) (ha : RowsAt oprLay w a ops) (hx : ∀ x ∈ ops, OpW x) (hT : Tab w) :
    Calls Tryd.prog 6 #[.slice a ops.length cap] w fun e w' => e = .returned (.bool true) ∧ Below w.heap.size w w' := by
  have HA := Lib.hid fun W (h : Below w.heap.size w W) => ha.keeps h
  have HAW := Lib.hid fun W (h : Below w.heap.size w W) => awake11_any W (tab_keeps hT h)
  have HT := Lib.hid fun W (h : Below w.heap.size w W) => tab_keeps hT h
  have HX := Lib.hid hx
  clear ha hT hx
  by_cases h60 : 60 < ops.length
  · have hq : decide ((ops.length : Int) > 60) = true := decide_eq_true (by omega)
    have hq2 : decide (60 < ops.length) = true := decide_eq_true h60
    go_enter Tryd.func6, Tryd.ntmps6
    go_wp2_with fail
    refine (HAW.out _ (Below.refl w.heap.size w)).mono ?_
    rintro e w9 ⟨rfl, hb9⟩
    go_wp2_with fail
    go_ret
    exact ⟨rfl, ((Below.refl w.heap.size w)).trans (hb9.mono ((Below.refl w.heap.size w)).size)⟩
  · have hq : decide ((ops.length : Int) > 60) = false := decide_eq_false (by omega)
    have hq2 : decide (60 < ops.length) = false := decide_eq_false h60
    have hq3 : decide ((60 : Int) < (ops.length : Int)) = false := decide_eq_false (by omega)
    go_enter Tryd.func6, Tryd.ntmps6
    go_wp2_with fail
    go_loopw [3] (fun i wr => ∃ k : Nat, k ≤ ops.length ∧ i = .int .i64 k ∧ Below w.heap.size w wr) (fun i _ => ops.length - (RowKit.intOf i).toNat)
    case atStart => exact ⟨0, Nat.zero_le _, rfl, Below.refl _ _⟩
    case round =>
      obtain ⟨k, hk, rfl, hb⟩ := hrel
      by_cases hlt : k < ops.length
      · obtain ⟨x, hx⟩ := at_some hlt
        obtain ⟨b, off, hae, hbl, c0, c1, c2, c3, c4, c5, c6, c7, c8, c9, c10⟩ := opr_at (HA.out _ hb) hx
        subst hae
        have HC := Lib.hid (cright_any x.nc x.nw wr)
        have hlti : (k : Int) < (ops.length : Int) := by omega
        have hlt0 : (0 : Int) ≤ (k : Int) := by omega
        clear hx
        by_cases hr : rightC x.nc x.nw = 0
        · rw [hr] at HC
          clear hr
          go_wp2_with fail
          refine HC.out.mono ?_
          rintro e w2 ⟨rfl, hb2⟩
          have hbw := hb.trans (hb2.mono hb.size)
          go_wp2_with fail
          go_roundw
          case rel => exact ⟨k + 1, by omega, by go_num, hbw⟩
          case measure => simp [RowKit.intOf]; omega
        · have hq4 : (rightC x.nc x.nw != 0) = true := bne_iff_ne.2 hr
          generalize rightC x.nc x.nw = rc at *
          clear hr
          go_wp2_with fail
          refine HC.out.mono ?_
          rintro e w2 ⟨rfl, hb2⟩
          have hbw := hb.trans (hb2.mono hb.size)
          go_wp2_with fail
          refine (HAW.out _ hbw).mono ?_
          rintro e w9 ⟨rfl, hb9⟩
          go_wp2_with fail
          go_ret
          exact ⟨rfl, (hbw).trans (hb9.mono (hbw).size)⟩
      · obtain rfl : k = ops.length := by omega
        have HFo := Lib.hid (fold_any a cap ops wr (by omega) (HA.out wr hb) (fun x h => (HX.out x h).1))
        have hok := foldT_ok (ops := ops) (by omega) HX.out
        have hvl := view_len (foldT ops)
        have hol := hok.len
        have hris := foldT_ris ops
        obtain ⟨nodes, hn⟩ : ∃ nodes, foldT ops = nodes := ⟨_, rfl⟩
        rw [hn] at HFo hok hvl hol hris
        have Hok := Lib.hid hok
        have Hris := Lib.hid hris
        clear hn hok hris
        go_wp2_with fail
        refine HFo.out.mono ?_
        rintro e w2 ⟨av, cv, rfl, hrn, _, hb2⟩
        have hbw2 := hb.trans (hb2.mono hb.size)
        have HV := Lib.hid (view_any av cv nodes w2 (HT.out w2 hbw2) hrn Hok.out)
        have HN := Lib.hid fun W (h : Below w2.heap.size w2 W) => hrn.keeps h
        clear hrn HFo
        go_wp2_with fail
        refine HV.out.mono ?_
        rintro e w3 ⟨a3, c3, rfl, hr3, hb3, _⟩
        have hbw3 := hbw2.trans (hb3.mono hbw2.size)
        have HL := Lib.hid fun W (h : Below w3.heap.size w3 W) => hr3.keeps h
        clear HV hr3
        by_cases hz : (viewF nodes).2 = 0
        · have Hz := Lib.hid hz
          have Hgood := Lib.hid (viewF_good nodes)
          rw [hz]
          clear hz
          obtain ⟨xs, hxs⟩ : ∃ xs, (viewF nodes).1 = xs := ⟨_, rfl⟩
          rw [hxs] at HL hvl Hgood ⊢
          have Hxs := Lib.hid hxs
          clear hxs
          go_wp2_with fail
          go_loopw [7] (fun i wr => ∃ k : Nat, k ≤ xs.length ∧ i = .int .i64 k ∧ Below w3.heap.size w3 wr) (fun i _ => xs.length - (RowKit.intOf i).toNat)
          case atStart => exact ⟨0, Nat.zero_le _, rfl, Below.refl _ _⟩
          case round =>
            obtain ⟨k, hk, rfl, hb5⟩ := hrel
            obtain ⟨wd, hwd⟩ : ∃ wd, wd = wr := ⟨_, rfl⟩
            subst hwd
            by_cases hlt : k < xs.length
            · obtain ⟨x, hx⟩ := at_some hlt
              obtain ⟨b, off, hae, hbl, z0, z1, z2, z3, z4, z5⟩ := itm_at (HL.out wd hb5) hx
              subst hae
              have hlti : (k : Int) < (xs.length : Int) := by omega
              have hlt0 : (0 : Int) ≤ (k : Int) := by omega
              have hxm := List.mem_of_getElem? hx
              have hpx := (Hgood.out x hxm).2
              obtain ⟨n, hfn, hnm, hnn, hown2⟩ := named_own Hris.out Hz.out (x := x) (by rw [Hxs.out]; exact hxm)
              have Hown2 := Lib.hid hown2
              have hb35 := hbw3.trans (hb5.mono hbw3.size)
              have hN5 := hb3.trans (hb5.mono hb3.size)
              have hfi := tfind_any av cv nodes x.cnt x.who wd (by omega) (HN.out wd hN5)
              rw [hfn] at hfi
              dsimp only at hfi
              unfold Nd.agg at hfi
              have HFi := Lib.hid hfi
              have Hx := Lib.hid hx
              clear hx hxm hown2 hfn hfi hnm
              go_wp2_with fail
              refine HFi.out.mono ?_
              rintro e w5 ⟨rfl, hb6⟩
              have hY := VarAt.new w5 #[.int .i64 n.cnt, .int .i64 n.who, .bool n.dir, .int .i64 n.pc, .int .i64 n.pw, .string n.name, .string n.man] 46
              have hA := (Below.refl w5.heap.size w5).alloc (Nat.le_refl _) (.cells #[.int .i64 n.cnt, .int .i64 n.who, .bool n.dir, .int .i64 n.pc, .int .i64 n.pw, .string n.name, .string n.man] 46)
              have hb56 := hb5.trans (hb6.mono hb5.size)
              have hb57 := hb56.trans (hA.mono hb56.size)
              obtain ⟨g8, hg8⟩ : ∃ b, b = w5.heap.size := ⟨_, rfl⟩
              obtain ⟨W5, hW5⟩ : ∃ W, W = w5.alloc (.cells #[.int .i64 n.cnt, .int .i64 n.who, .bool n.dir, .int .i64 n.pc, .int .i64 n.pw, .string n.name, .string n.man] 46) := ⟨_, rfl⟩
              rw [← hg8, ← hW5] at hY
              rw [← hW5] at hb57
              have Hg8 := Lib.hid hg8
              have HW5 := Lib.hid hW5
              clear hA hg8 hW5 hb56 hb6 hb5
              have hN6 := hb3.trans (hb57.mono hb3.size)
              have HCh := Lib.hid (children_any av cv nodes n.pc n.pw W5 hol (HN.out W5 hN6))
              go_upto_region 16 with fail
              rw [← Hg8.out, ← HW5.out]
              have y3 := hY.2.2 3 _ rfl
              have y4 := hY.2.2 4 _ rfl
              go_wp2_with fail
              refine HCh.out.mono ?_
              rintro e w6 ⟨v, rfl, hov, hb7⟩
              obtain ⟨av6, cv6, rfl, hr6, _⟩ := hov.read
              have hY6 := hY.keeps hb7 hY.1
              have hb67 := hb57.trans (hb7.mono hb57.size)
              have HR6 := Lib.hid fun W (h : Below w6.heap.size w6 W) => hr6.keeps h
              have hcl : (childF nodes n.pc n.pw).length ≤ 1000 := Nat.le_trans (List.length_filter_le _ _) hol
              have Hfi := Lib.hid (show firstN nodes n = (childF nodes n.pc n.pw).all fun m => !twinN n m || ltNd n m from rfl)
              obtain ⟨L, hL⟩ : ∃ L, childF nodes n.pc n.pw = L := ⟨_, rfl⟩
              rw [hL] at HR6 hcl Hfi ⊢
              clear hL hov hr6 hY hb7 hb57 hN6 y3 y4 HCh HFi
              go_wp2_with fail
              go_loopw [11, 12, 13] (fun al fi i wq => ∃ j : Nat, j ≤ L.length ∧ i = .int .i64 j ∧ al = .bool (!(L.take j).any (twinN n)) ∧ fi = .bool ((L.take j).all fun m => !twinN n m || ltNd n m) ∧ Below w6.heap.size w6 wq) (fun _ _ i _ => L.length - (RowKit.intOf i).toNat)
              case atStart => exact ⟨0, Nat.zero_le _, rfl, rfl, rfl, Below.refl _ _⟩
              case round =>
                obtain ⟨j, hj, rfl, rfl, rfl, hb8⟩ := hrel
                have hY7 := hY6.keeps hb8 hY6.1
                by_cases hjt : j < L.length
                · obtain ⟨m, hm⟩ := at_some hjt
                  obtain ⟨b6, off6, e6, hbl6, m0, m1, m2, m3, m4, m5, m6⟩ := nd_at (HR6.out wr hb8) hm
                  cases e6
                  have hjti : (j : Int) < (L.length : Int) := by omega
                  have hjt0 : (0 : Int) ≤ (j : Int) := by omega
                  have n0 := hY7.2.2 0 _ rfl
                  have n1 := hY7.2.2 1 _ rfl
                  have n5 := hY7.2.2 5 _ rfl
                  have hst1 : (L.take (j + 1)).any (twinN n) = ((L.take j).any (twinN n) || twinN n m) := by
                    rw [List.take_add_one, hm, Option.toList_some, List.any_append]
                    simp
                  have hst2 : ((L.take (j + 1)).all fun m => !twinN n m || ltNd n m) = (((L.take j).all fun m => !twinN n m || ltNd n m) && (!twinN n m || ltNd n m)) := by
                    rw [List.take_add_one, hm, Option.toList_some, List.all_append]
                    simp
                  obtain ⟨al, hal⟩ : ∃ al, (L.take j).any (twinN n) = al := ⟨_, rfl⟩
                  obtain ⟨fi, hfi⟩ : ∃ fi, ((L.take j).all fun m => !twinN n m || ltNd n m) = fi := ⟨_, rfl⟩
                  rw [hal] at hst1
                  rw [hfi] at hst2
                  rw [hal, hfi]
                  have Hst1 := Lib.hid hst1
                  have Hst2 := Lib.hid hst2
                  have hneq := fun W => neqStp ⟨m.cnt, m.who⟩ ⟨n.cnt, n.who⟩ W
                  obtain ⟨ie, hie⟩ : ∃ ie, decide ((⟨m.cnt, m.who⟩ : Stp) = ⟨n.cnt, n.who⟩) = ie := ⟨_, rfl⟩
                  obtain ⟨ne, hne⟩ : ∃ ne, (m.name.toList == n.name.toList) = ne := ⟨_, rfl⟩
                  have Htw := Lib.hid (show twinN n m = (ne && !ie) by
                    unfold twinN
                    rw [← hie, ← hne]
                    congr 1
                    · rw [Bool.eq_iff_iff, decide_eq_true_eq, beq_iff_eq, toList_inj]
                    · congr 1
                      rw [Bool.eq_iff_iff, decide_eq_true_eq, decide_eq_true_eq, Stp.mk.injEq])
                  have HLs := Lib.hid fun W => cless_any n.cnt n.who m.cnt m.who W
                  obtain ⟨ls, hls⟩ : ∃ ls, ltNd n m = ls := ⟨_, rfl⟩
                  rw [show lessC n.cnt n.who m.cnt m.who = ls from hls] at HLs
                  have Hls := Lib.hid hls
                  simp only [hie] at hneq
                  clear hm hst1 hst2 hal hfi hie hls hY7
                  have hb8w := hb8
                  cases ne with
                  | false =>
                    go_wp2_with fail
                    go_quiet (fail)
                    go_wp2_with fail
                    go_roundw
                    case rel => exact ⟨j + 1, by omega, by go_num, by rw [Hst1.out, Htw.out]; simp, by rw [Hst2.out, Htw.out]; simp, belowDrew hb8 _⟩
                    case measure => simp [RowKit.intOf]; omega
                  | true =>
                    cases ie with
                    | true =>
                      go_wp2_with fail
                      go_quiet (fail)
                      go_wp2_with fail
                      go_roundw
                      case rel => exact ⟨j + 1, by omega, by go_num, by rw [Hst1.out, Htw.out]; simp, by rw [Hst2.out, Htw.out]; simp, belowDrew hb8 _⟩
                      case measure => simp [RowKit.intOf]; omega
                    | false =>
                      go_wp2_with fail
                      go_quiet (fail)
                      go_upto_region 24 with fail
                      have hb9 := belowDrew hb8 nq
                      have p0 : (wr.drewN nq).cell? ⟨b6, off6 + j * 7, none⟩ = _ := m0
                      have p1 : (wr.drewN nq).cell? ⟨b6, off6 + j * 7 + 1, none⟩ = _ := m1
                      have p2 : (wr.drewN nq).cell? ⟨g8, 0, none⟩ = _ := n0
                      have p3 : (wr.drewN nq).cell? ⟨g8, 1, none⟩ = _ := n1
                      obtain ⟨wv, hwv⟩ : ∃ W, W = wr.drewN nq := ⟨_, rfl⟩
                      rw [← hwv] at hb9 p0 p1 p2 p3 ⊢
                      clear hwv m0 m1 m2 m3 m4 m5 m6 n0 n1 n5
                      have q0 := cell_regrown p0
                      have q1 := cell_regrown p1
                      have q2 := cell_regrown p2
                      have q3 := cell_regrown p3
                      cases fi <;> cases ls
                      all_goals
                        refine wp_region_quiet_below (by kernel_rfl) (by kernel_rfl) ?_
                        repeat (go_big_quiet_step (exact Calls.regrown_of (HLs.out _)))
                        refine wpQuiet_nil ?_
                        intro _ hw'
                        obtain ⟨⟨dq, osq⟩, hw''⟩ := hw'
                        subst hw''
                        go_wp2_with fail
                        go_roundw
                        case rel => exact ⟨j + 1, by omega, by go_num, by rw [Hst1.out, Htw.out]; simp, by rw [Hst2.out, Htw.out, Hls.out]; simp, hb9.trans ((below_regrown wv dq osq).mono hb9.size)⟩
                        case measure => simp [RowKit.intOf]; omega
                · obtain rfl : j = L.length := by omega
                  rw [List.take_length]
                  have Hor := Lib.hid (first_or L n)
                  obtain ⟨al, hal⟩ : ∃ al, L.any (twinN n) = al := ⟨_, rfl⟩
                  obtain ⟨fi, hfi⟩ : ∃ fi, (L.all fun m => !twinN n m || ltNd n m) = fi := ⟨_, rfl⟩
                  rw [hal, hfi] at Hor
                  rw [hal, hfi]
                  have Hfn := Lib.hid (Hfi.out.trans hfi)
                  have hb9 := hb67.trans (hb8.mono hb67.size)
                  obtain ⟨b, off, hae, hbl, z0, z1, z2, z3, z4, z5⟩ := itm_at (HL.out wr hb9) Hx.out
                  cases hae
                  have hY7 := hY6.keeps hb8 hY6.1
                  have y5 := hY7.2.2 5 _ rfl
                  have HD := Lib.hid (dir_any x.path wr (by omega))
                  clear hal hfi hY6 hb8
                  go_wp2_with fail
                  refine HD.out.mono ?_
                  rintro e w8 ⟨⟨d, rfl, hd, hds⟩, rfl⟩
                  have hown := Hown2.out d hd
                  have heb : decide (x.path = ownF d n.name) = (!al || fi) := by rw [← hown, Hfn.out, Hor.out]
                  clear hown hd
                  by_cases hde : d = ⟨#[]⟩
                  · subst hde
                    have hob : (x.path.toList == n.name.toList) = (!al || fi) := by
                      rw [← heb, Bool.eq_iff_iff, decide_eq_true_eq, beq_iff_eq, toList_inj]
                      unfold ownF
                      rw [if_pos rfl]
                    clear heb hds
                    cases al <;> cases fi
                    all_goals
                      simp only [Bool.not_true, Bool.not_false, Bool.true_or, Bool.false_or] at hob
                      go_wp2_with fail
                      all_goals
                        go_roundw
                        case rel => exact ⟨k + 1, by omega, by go_num, hb9⟩
                        case measure => simp [RowKit.intOf]; omega
                  · have hob : (x.path.toList == (d ++ ⟨#[47]⟩ ++ n.name).toList) = (!al || fi) := by
                      rw [← heb, Bool.eq_iff_iff, decide_eq_true_eq, beq_iff_eq, toList_inj]
                      unfold ownF
                      rw [if_neg hde]
                      rfl
                    have hdn : d.toList.isEmpty = false := by
                      rw [List.isEmpty_eq_false_iff]
                      exact fun e => hde (toList_inj.1 (e.trans (by rw [toList_data])))
                    have hds2 : (d ++ (⟨#[47]⟩ : ByteArray)).size = d.size + 1 := by rw [ByteArray.size_append]; rfl
                    have hcat : ∀ W' : World, (Op.stringOp .add d ⟨#[47]⟩).run Tryd.prog W' = .ok (.string (d ++ ⟨#[47]⟩)) W' := fun W' => by first | exact run_string_add W' _ _ (by omega) (by decide) | exact run_string_add _ _ (by omega) (by decide)
                    have hcat2 : ∀ W' : World, (Op.stringOp .add (d ++ ⟨#[47]⟩) n.name).run Tryd.prog W' = .ok (.string (d ++ ⟨#[47]⟩ ++ n.name)) W' := fun W' => by first | exact run_string_add W' _ _ (by omega) (by omega) | exact run_string_add _ _ (by omega) (by omega)
                    clear heb hds2 hde
                    cases al <;> cases fi
                    all_goals
                      simp only [Bool.not_true, Bool.not_false, Bool.true_or, Bool.false_or] at hob
                      go_wp2_with fail
                      all_goals
                        go_roundw
                        case rel => exact ⟨k + 1, by omega, by go_num, hb9⟩
                        case measure => simp [RowKit.intOf]; omega
            · obtain rfl : k = xs.length := by omega
              have hb35 := hbw3.trans (hb5.mono hbw3.size)
              go_wp2_with fail
              refine (HAW.out _ hb35).mono ?_
              rintro e w9 ⟨rfl, hb9⟩
              go_wp2_with fail
              go_ret
              exact ⟨rfl, (hb35).trans (hb9.mono (hb35).size)⟩
        · have hnil := viewF_zero hz
          rw [hnil] at HL ⊢
          generalize (viewF nodes).2 = ev at *
          have hq5 : (ev != 0) = true := bne_iff_ne.2 hz
          clear hz hnil
          go_wp2_with fail
          refine (HAW.out _ hbw3).mono ?_
          rintro e w9 ⟨rfl, hb9⟩
          go_wp2_with fail
          go_ret
          exact ⟨rfl, (hbw3).trans (hb9.mono (hbw3).size)⟩
end Go.Proofs.YtfbdbjookkogjaaDoor

