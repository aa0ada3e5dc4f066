/-
  What operations make of a tree: its nodes rise by their stamps (plain law). How the items of a tree are called, and stand below one another: plain law. What the nodes of a tree are called in its view: the plain law of ViewNames.
-/
import Derived.Test.YtfbdbjookkogjaaDoorTreeG
import Derived.Test.YtfbdbjookkogjaaDoorWiderW
import Derived.Test.YtfbdbjookkogjaaDoorShownG
namespace Go.Proofs.YtfbdbjookkogjaaDoor
open Go Go.RowKit Go.Lib
theorem lessN_iff {a b c d : Int} : lessC a b c d = true ↔ a < c ∨ (a = c ∧ b < d) := by
  unfold lessC
  simp
theorem lessN_trans {a b c d e f : Int} (h1 : lessC a b c d = true) (h2 : lessC c d e f = true) : lessC a b e f = true := by
  rw [lessN_iff] at *
  omega
theorem lessN_asymm {a b c d : Int} (h1 : lessC a b c d = true) : lessC c d a b = false := by
  rw [← Bool.not_eq_true, lessN_iff]
  rw [lessN_iff] at h1
  omega
theorem lessN_total {a b c d : Int} (h1 : ¬ lessC a b c d = true) (h2 : ¬ (a = c ∧ b = d)) : lessC c d a b = true := by
  rw [lessN_iff] at *
  omega
def idN (n : Nd) : Int × Int := (n.cnt, n.who)
def RisN (l : List Nd) : Prop := l.Pairwise fun n m => ltNd n m = true
theorem ris_iff {l : List Nd} : RisN l ↔ (l.map idN).Pairwise fun a b => lessC a.1 a.2 b.1 b.2 = true := by
  rw [List.pairwise_map]
  rfl
theorem grownT_ris {l : List Nd} {n : Nd} (h : RisN l) (hm : ∀ y ∈ l, ¬ (y.cnt = n.cnt ∧ y.who = n.who)) : RisN (grownT l n) := by
  have hlo : ∀ y ∈ l.take (l.findIdx (ltNd n)), ltNd y n = true := fun y hy => by
    obtain ⟨j, hj, e⟩ := List.mem_iff_getElem.1 hy
    rw [List.length_take] at hj
    have h2 := List.not_of_lt_findIdx (p := ltNd n) (xs := l) (i := j) (by omega)
    rw [List.getElem_take] at e
    rw [e] at h2
    refine lessN_total (by simpa [ltNd] using h2) (fun e => hm y (List.mem_of_mem_take hy) ⟨e.1.symm, e.2.symm⟩)
  have hhi : ∀ y ∈ l.drop (l.findIdx (ltNd n)), ltNd n y = true := fun y hy => by
    by_cases hlt : l.findIdx (ltNd n) < l.length
    · have h1 : ltNd n l[l.findIdx (ltNd n)] = true := List.findIdx_getElem (w := hlt)
      have h2 : RisN (l.drop (l.findIdx (ltNd n))) := List.Pairwise.sublist (List.drop_sublist _ _) h
      rw [List.drop_eq_getElem_cons hlt] at h2 hy
      rcases List.mem_cons.1 hy with rfl | hy
      · exact h1
      · exact lessN_trans h1 ((List.pairwise_cons.1 h2).1 y hy)
    · rw [List.drop_of_length_le (by omega)] at hy
      cases hy
  unfold grownT RisN
  rw [List.pairwise_append, List.pairwise_cons]
  refine ⟨List.Pairwise.sublist (List.take_sublist _ _) h, ⟨hhi, List.Pairwise.sublist (List.drop_sublist _ _) h⟩, fun a ha b hb => ?_⟩
  rcases List.mem_cons.1 hb with rfl | hb
  · exact hlo a ha
  · exact lessN_trans (hlo a ha) (hhi b hb)
theorem findT_no {l : List Nd} {c q : Int} (h : (findT l c q).2 = false) : ∀ y ∈ l, ¬ (y.cnt = c ∧ y.who = q) := fun y hy e => by
  rcases where_casesG (z := nd0) (l := l) (p := isNd c q) with ⟨_, _, _, _, h1, _⟩ | ⟨_, _, h1⟩
  · have h2 : findT l c q = _ := h1
    rw [h2] at h
    cases h
  · have h2 := h1 y hy
    unfold isNd at h2
    exact absurd e (of_decide_eq_false h2)
theorem findT_at {l : List Nd} {c q : Int} (h : (findT l c q).2 = true) : l[l.findIdx (isNd c q)]? = some (findT l c q).1 := by
  rcases where_casesG (z := nd0) (l := l) (p := isNd c q) with ⟨k, y, h0, h1, h2, _⟩ | ⟨_, h1, _⟩
  · have h3 : findT l c q = _ := h2
    rw [h3]
    unfold whereG at h0
    split at h0
    · have : l.findIdx (isNd c q) = k := by omega
      rw [this]
      exact h1
    · omega
  · have h3 : findT l c q = _ := h1
    rw [h3] at h
    cases h
theorem set_ids {l : List Nd} {i : Nat} {n m : Nd} (hn : l[i]? = some n) (e : idN m = idN n) : (l.set i m).map idN = l.map idN := by
  apply List.ext_getElem?
  intro j
  rw [List.getElem?_map, List.getElem?_map, List.getElem?_set]
  split
  · rename_i h
    subst h
    obtain ⟨h1, h2⟩ := List.getElem?_eq_some_iff.1 hn
    rw [if_pos h1, hn]
    simp [e]
  · rfl
theorem doT_ris {l : List Nd} {x : Opr} (h : RisN l) : RisN (doT l x) := by
  unfold doT
  split
  · rename_i hf
    split
    · refine grownT_ris h (fun y hy => ?_)
      have := findT_no hf y hy
      unfold madeT
      split <;> exact this
    · exact h
  · rename_i hf
    have hf2 : (findT l x.nc x.nw).2 = true := by simpa using hf
    split
    · exact h
    · split
      · rw [ris_iff, set_ids (findT_at hf2)]
        · exact ris_iff.1 h
        · obtain ⟨h1, h2⟩ := turnedT_id l (findT l x.nc x.nw).1 x
          unfold idN
          rw [h1, h2]
      · exact h
theorem foldFrom_ris : ∀ (ops : List Opr) (l : List Nd), RisN l → RisN (ops.foldl doT l)
  | [], _, h => h
  | x :: r, l, h => foldFrom_ris r (doT l x) (doT_ris h)
theorem foldT_ris (ops : List Opr) : RisN (foldT ops) := foldFrom_ris ops [] List.Pairwise.nil
theorem ris_get {l : List Nd} (h : RisN l) {j k : Nat} {y x : Nd} (hy : l[j]? = some y) (hx : l[k]? = some x) (hjk : j < k) : ltNd y x = true := by
  unfold RisN at h
  rw [List.pairwise_iff_getElem] at h
  obtain ⟨a1, a2⟩ := List.getElem?_eq_some_iff.1 hy
  obtain ⟨b1, b2⟩ := List.getElem?_eq_some_iff.1 hx
  have h3 := h j k a1 b1 hjk
  rw [a2, b2] at h3
  exact h3
theorem ltN_ne {n m : Nd} (h : ltNd n m = true) : ¬ (n.cnt = m.cnt ∧ n.who = m.who) := fun e => by
  have h2 := lessN_iff.1 h
  omega
theorem findT_own {l : List Nd} (h : RisN l) {n : Nd} (hn : n ∈ l) : findT l n.cnt n.who = (n, true) := by
  obtain ⟨k, hk⟩ := List.mem_iff_getElem?.1 hn
  refine find_hitG hk (decide_eq_true ⟨rfl, rfl⟩) (fun j z hj hz => ?_)
  exact decide_eq_false (ltN_ne (ris_get h hz hk hj))
theorem ris_same {l : List Nd} (h : RisN l) {n m : Nd} (hn : n ∈ l) (hm : m ∈ l) (e1 : n.cnt = m.cnt) (e2 : n.who = m.who) : n = m := by
  have h1 := findT_own h hn
  rw [e1, e2, findT_own h hm] at h1
  cases h1
  rfl
end Go.Proofs.YtfbdbjookkogjaaDoor

namespace Go.Proofs.YtfbdbjookkogjaaDoor
open Go Go.RowKit Go.Lib
def RelU (nodes : List Nd) (c w : Int) (ahead : List UInt8) (new : List Itm) : Prop :=
  ∀ x ∈ new, ∃ n ∈ nodes, ofNd n x ∧ ∃ g : ByteArray, (n, g) ∈ given nodes n.pc n.pw ∧ uniqueN ((childF nodes n.pc n.pw).map (·.name)) = 0 ∧ ((n.pc = c ∧ n.pw = w ∧ pI x = ahead ++ g.data.toList) ∨ ∃ y ∈ new, under n x y g.data.toList)
def RelSubU (nodes : List Nd) (ahead : List UInt8) (l : List (Nd × ByteArray)) (new : List Itm) : Prop :=
  ∀ x ∈ new, ∃ n ∈ nodes, ofNd n x ∧ ∃ g : ByteArray, (n, g) ∈ given nodes n.pc n.pw ∧ uniqueN ((childF nodes n.pc n.pw).map (·.name)) = 0 ∧ ((∃ p ∈ l, p.1.dir = true ∧ p.1.cnt = n.pc ∧ p.1.who = n.pw ∧ pI x = ahead ++ (p.2.data.toList ++ 47 :: g.data.toList)) ∨ ∃ y ∈ new, under n x y g.data.toList)
theorem subV_relU {nodes : List Nd} {down : Int → Int → ByteArray → List Itm → List Itm × Int} (hd : ∀ c w a o, (down c w a o).2 = 0 → ∃ new, (down c w a o).1 = o ++ new ∧ RelU nodes c w a.data.toList new) (ahead : ByteArray) : ∀ (l : List (Nd × ByteArray)) (out : List Itm), (subV down ahead l out).2 = 0 → ∃ new, (subV down ahead l out).1 = out ++ new ∧ RelSubU nodes ahead.data.toList l new
  | [], out, _ => ⟨[], by simp [subV], fun x hx => by simp at hx⟩
  | (n, g) :: r, out, h => by
    have up : ∀ new, RelSubU nodes ahead.data.toList r new → RelSubU nodes ahead.data.toList ((n, g) :: r) new := fun new hr x hx => by
      obtain ⟨m, hm, ho, q, h1, h2, h3⟩ := hr x hx
      refine ⟨m, hm, ho, q, h1, h2, ?_⟩
      rcases h3 with ⟨p, hp, h4⟩ | h3
      · exact .inl ⟨p, List.mem_cons_of_mem _ hp, h4⟩
      · exact .inr h3
    unfold subV at h ⊢
    by_cases hdir : n.dir = true
    · rw [if_pos hdir] at h ⊢
      by_cases h0 : (down n.cnt n.who (ahead ++ g ++ slashB) out).2 = 0
      · rw [if_pos h0] at h ⊢
        obtain ⟨new1, e1, r1⟩ := hd n.cnt n.who (ahead ++ g ++ slashB) out h0
        obtain ⟨new2, e2, r2⟩ := subV_relU hd ahead r _ h
        refine ⟨new1 ++ new2, by rw [e2, e1, List.append_assoc], fun x hx => ?_⟩
        rcases List.mem_append.1 hx with hx | hx
        · obtain ⟨m, hm, ho, q, h1, h2, h3⟩ := r1 x hx
          refine ⟨m, hm, ho, q, h1, h2, ?_⟩
          rcases h3 with ⟨h4, h5, h6⟩ | ⟨y, hy, h4⟩
          · exact .inl ⟨(n, g), List.mem_cons_self, hdir, h4.symm, h5.symm, by rw [h6, sub_list]⟩
          · exact .inr ⟨y, List.mem_append_left _ hy, h4⟩
        · obtain ⟨m, hm, ho, q, h1, h2, h3⟩ := up new2 r2 x hx
          refine ⟨m, hm, ho, q, h1, h2, ?_⟩
          rcases h3 with h3 | ⟨y, hy, h4⟩
          · exact .inl h3
          · exact .inr ⟨y, List.mem_append_right _ hy, h4⟩
      · rw [if_neg h0] at h
        exact absurd h h0
    · rw [if_neg hdir] at h ⊢
      obtain ⟨new, e, hr⟩ := subV_relU hd ahead r out h
      exact ⟨new, e, up new hr⟩
theorem added_relU {nodes : List Nd} {c w : Int} (ahead : ByteArray) (hu : uniqueN ((childF nodes c w).map (·.name)) = 0) : RelU nodes c w ahead.data.toList ((given nodes c w).map fun p => itmOf ahead p.2 p.1) := fun x hx => by
  obtain ⟨p, hp, rfl⟩ := List.mem_map.1 hx
  obtain ⟨h1, h2⟩ := given_nd p hp
  exact ⟨p.1, h1, ⟨rfl, rfl, rfl, rfl⟩, p.2, by rw [h2.1, h2.2]; exact hp, by rw [h2.1, h2.2]; exact hu, .inl ⟨h2.1, h2.2, pI_of _ _ _⟩⟩
theorem downV_relU (nodes : List Nd) : ∀ (f : Nat) (c w : Int) (ahead : ByteArray) (out : List Itm), (downV nodes f c w ahead out).2 = 0 → ∃ new, (downV nodes f c w ahead out).1 = out ++ new ∧ RelU nodes c w ahead.data.toList new
  | 0, c, w, ahead, out, h => by
    unfold downV at h ⊢
    split at h
    · rename_i h1
      exact absurd h h1
    · rename_i h1
      rw [if_neg h1, addV_does _ _ _ _ h]
      exact ⟨_, rfl, added_relU ahead (Classical.not_not.1 h1)⟩
  | f + 1, c, w, ahead, out, h => by
    unfold downV at h ⊢
    split at h
    · rename_i h1
      exact absurd h h1
    · rename_i h1
      have hu := Classical.not_not.1 h1
      have ha := added_relU (nodes := nodes) (c := c) (w := w) ahead hu
      rw [if_neg h1]
      split at h
      · rename_i h2
        rw [if_pos h2]
        rw [addV_does _ _ _ _ h2] at h ⊢
        obtain ⟨new, e, hr⟩ := subV_relU (downV_relU nodes f) ahead _ _ h
        refine ⟨_, by rw [e, List.append_assoc], fun x hx => ?_⟩
        rcases List.mem_append.1 hx with hx | hx
        · obtain ⟨m, hm, ho, q, h3, h4, h5⟩ := ha x hx
          refine ⟨m, hm, ho, q, h3, h4, ?_⟩
          rcases h5 with h5 | ⟨y, hy, h6⟩
          · exact .inl h5
          · exact .inr ⟨y, List.mem_append_left _ hy, h6⟩
        · obtain ⟨m, hm, ho, q, h3, h4, h5⟩ := hr x hx
          refine ⟨m, hm, ho, q, h3, h4, .inr ?_⟩
          rcases h5 with ⟨p, hp, h6, h7, h8, h9⟩ | ⟨y, hy, h6⟩
          · refine ⟨itmOf ahead p.2 p.1, List.mem_append_left _ (List.mem_map.2 ⟨p, hp, rfl⟩), h6, h7, h8, ?_⟩
            rw [h9, pI_of, List.append_assoc]
          · exact ⟨y, List.mem_append_right _ hy, h6⟩
      · rename_i h2
        exact absurd h h2
end Go.Proofs.YtfbdbjookkogjaaDoor

namespace Go.Proofs.YtfbdbjookkogjaaDoor
open Go Go.RowKit Go.Lib
theorem viewF_relU {nodes : List Nd} (h : (viewF nodes).2 = 0) : RelU nodes 0 0 [] (viewF nodes).1 := by
  by_cases h0 : (downV nodes 16 0 0 ⟨#[]⟩ []).2 = 0
  · obtain ⟨new, e, hr⟩ := downV_relU nodes 16 0 0 ⟨#[]⟩ [] h0
    rw [List.nil_append] at e
    have e2 : (viewF nodes).1 = sortI new := by
      unfold viewF
      rw [if_pos h0, e]
    rw [e2]
    intro x hx
    obtain ⟨n, hn, ho, g, h1, h2, h3⟩ := hr x (mem_sortI.1 hx)
    refine ⟨n, hn, ho, g, h1, h2, ?_⟩
    rcases h3 with h3 | ⟨y, hy, h4⟩
    · exact .inl h3
    · exact .inr ⟨y, mem_sortI.2 hy, h4⟩
  · unfold viewF at h
    rw [if_neg h0] at h
    exact absurd h h0
/-- d is what is ahead of s's last '/'. -/
def IsDir (s d : ByteArray) : Prop := ((47 : UInt8) ∉ s.data.toList ∧ d = ⟨#[]⟩) ∨ ∃ u v : List UInt8, s.data.toList = u ++ 47 :: v ∧ (47 : UInt8) ∉ v ∧ d.data.toList = u
theorem last_slash : ∀ l : List UInt8, (47 : UInt8) ∈ l → ∃ u v : List UInt8, l = u ++ 47 :: v ∧ (47 : UInt8) ∉ v
  | [], h => by cases h
  | x :: r, h => by
    by_cases h2 : (47 : UInt8) ∈ r
    · obtain ⟨u, v, e, hv⟩ := last_slash r h2
      exact ⟨x :: u, v, by rw [e]; rfl, hv⟩
    · rcases List.mem_cons.1 h with e | h
      · exact ⟨[], r, by rw [← e]; rfl, h2⟩
      · exact absurd h h2
theorem isDir_some (s : ByteArray) : ∃ d, IsDir s d := by
  by_cases h : (47 : UInt8) ∈ s.data.toList
  · obtain ⟨u, v, e, hv⟩ := last_slash _ h
    exact ⟨⟨u.toArray⟩, .inr ⟨u, v, e, hv, rfl⟩⟩
  · exact ⟨_, .inl ⟨h, rfl⟩⟩
def ownF (d name : ByteArray) : ByteArray := if d = ⟨#[]⟩ then name else d ++ slashB ++ name
/-- Others of a name. -/
def twinN (n m : Nd) : Bool := decide (m.name = n.name) && !decide (m.cnt = n.cnt ∧ m.who = n.who)
def firstN (nodes : List Nd) (n : Nd) : Bool := (childF nodes n.pc n.pw).all fun m => !twinN n m || ltNd n m
theorem given_first {nodes : List Nd} (hr : RisN nodes) {n : Nd} {g : ByteArray} {c w : Int} (hg : (n, g) ∈ given nodes c w) (hu : uniqueN ((childF nodes c w).map (·.name)) = 0) :
    g = n.name ↔ ∀ m ∈ childF nodes c w, twinN n m = true → ltNd n m = true := by
  unfold given at hg
  have hrl : RisN (childF nodes c w) := List.Pairwise.sublist List.filter_sublist hr
  obtain ⟨L, hL⟩ : ∃ L, childF nodes c w = L := ⟨_, rfl⟩
  rw [hL] at hg hu hrl ⊢
  clear hL
  have hl : ¬ 1000 < (L.map (·.name)).length := fun hl => by
    rw [(unique_big hl).1] at hu
    cases hu
  cases hrr : allRight (L.map (·.name)) with
  | false =>
    rw [(unique_wrong hl hrr).1] at hu
    cases hu
  | true =>
    rw [(unique_right hl hrr).2] at hg
    obtain ⟨k, hk⟩ := List.mem_iff_getElem?.1 hg
    rw [List.getElem?_zip_eq_some] at hk
    obtain ⟨hk1, hk2⟩ := hk
    obtain ⟨klt, hkn⟩ := List.getElem?_eq_some_iff.1 hk1
    have hlen : (L.map (·.name)).length = L.length := List.length_map _
    have hgk : g = pickU (L.map (·.name)) (outU (L.map (·.name)) k) k := by
      rw [← outU_getD (L.map (·.name)) (k := k) (m := (L.map (·.name)).length) (by omega), List.getD_eq_getElem?_getD, hk2]
      rfl
    have hsk : (L.map (·.name)).getD k ByteArray.empty = n.name := by
      rw [List.getD_eq_getElem?_getD, List.getElem?_map, hk1]
      rfl
    have hin : n.name ∈ L.map (·.name) := List.mem_map.2 ⟨n, List.mem_of_getElem? hk1, rfl⟩
    have hx := allRight_at hrr (k := k) (by omega)
    obtain ⟨_, _, n3, _⟩ := nextN_spec (T := L.map (·.name) ++ outU (L.map (·.name)) k) hx (by simp [outU_length]; omega)
    unfold pickU at hgk
    rw [hsk] at hgk n3
    constructor
    · intro e m hm ht
      unfold twinN at ht
      rw [Bool.and_eq_true, decide_eq_true_eq] at ht
      obtain ⟨j, hj⟩ := List.mem_iff_getElem?.1 hm
      by_cases hjk : j < k
      · have h1 : hasB ((L.map (·.name)).take k) n.name = true := by
          rw [hasB_iff, ← ht.1]
          rw [List.mem_iff_getElem?]
          refine ⟨j, ?_⟩
          rw [List.getElem?_take_of_lt hjk, List.getElem?_map, hj]
          rfl
        rw [if_pos h1] at hgk
        rw [← hgk, e] at n3
        exact absurd (List.mem_append_left _ hin) n3
      · by_cases hjk2 : j = k
        · subst hjk2
          rw [hk1] at hj
          cases hj
          simp at ht
        · exact ris_get hrl hk1 hj (by omega)
    · intro h
      have h1 : hasB ((L.map (·.name)).take k) n.name = false := by
        rw [hasB_not]
        intro hm
        obtain ⟨j, hj⟩ := List.mem_iff_getElem?.1 hm
        rw [List.getElem?_take] at hj
        split at hj
        · rename_i hjk
          rw [List.getElem?_map] at hj
          cases hm2 : L[j]? with
          | none => rw [hm2] at hj; cases hj
          | some m =>
            rw [hm2] at hj
            have hnm : m.name = n.name := by simpa using hj
            have h2 := ris_get hrl hm2 hk1 hjk
            have h3 : twinN n m = true := by
              unfold twinN
              rw [Bool.and_eq_true, decide_eq_true_eq]
              refine ⟨hnm, ?_⟩
              rw [decide_eq_false (ltN_ne h2)]
              rfl
            have h4 := h m (List.mem_of_getElem? hm2) h3
            have h5 : ltNd m n = false := lessN_asymm h4
            rw [h2] at h5
            cases h5
        · cases hj
      rw [h1] at hgk
      exact hgk
theorem name_short {nodes : List Nd} {c w : Int} {p : Nd × ByteArray} (hp : p ∈ given nodes c w) (hu : uniqueN ((childF nodes c w).map (·.name)) = 0) : p.1.name.size ≤ 24 := by
  have hl : ¬ 1000 < ((childF nodes c w).map (·.name)).length := fun hl => by
    rw [(unique_big hl).1] at hu
    cases hu
  cases hrr : allRight ((childF nodes c w).map (·.name)) with
  | false =>
    rw [(unique_wrong hl hrr).1] at hu
    cases hu
  | true =>
    have h1 : p.1.name ∈ (childF nodes c w).map (·.name) := List.mem_map.2 ⟨p.1, (List.of_mem_zip hp).1, rfl⟩
    unfold allRight at hrr
    have h2 := rightL_len (List.all_eq_true.1 hrr _ h1)
    rw [size_eq]
    exact h2
theorem bytes_inj {a b : ByteArray} : a.data.toList = b.data.toList ↔ a = b := by
  constructor
  · intro h
    obtain ⟨⟨a⟩⟩ := a
    obtain ⟨⟨b⟩⟩ := b
    have h2 : a = b := h
    rw [h2]
  · intro h
    rw [h]
/-- The law: an item is called by its node's name just when its node is the first of it in its directory. -/
theorem named_own {nodes : List Nd} (hr : RisN nodes) (h0 : (viewF nodes).2 = 0) {x : Itm} (hx : x ∈ (viewF nodes).1) :
    ∃ n, findT nodes x.cnt x.who = (n, true) ∧ n ∈ nodes ∧ n.name.size ≤ 24 ∧ ∀ d, IsDir x.path d → firstN nodes n = decide (x.path = ownF d n.name) := by
  have hR := viewF_relU h0
  obtain ⟨n, hn, ho, g, h1, h2, h3⟩ := hR x hx
  refine ⟨n, by rw [← ho.1, ← ho.2.1]; exact findT_own hr hn, hn, name_short h1 h2, fun d hd => ?_⟩
  have hf : firstN nodes n = true ↔ g = n.name := by
    rw [given_first hr h1 h2]
    unfold firstN
    rw [List.all_eq_true]
    constructor
    · intro h m hm ht
      have := h m hm
      rw [ht] at this
      exact this
    · intro h m hm
      cases ht : twinN n m with
      | false => rfl
      | true => exact h m hm ht
  obtain ⟨hg1, hg2⟩ := (given_ok nodes _ _ h2).1 _ h1
  have key : g = n.name ↔ x.path = ownF d n.name := by
    rcases h3 with ⟨_, _, h4⟩ | ⟨y, hy, _, _, _, h4⟩
    · have h5 : x.path = g := bytes_inj.1 h4
      rcases hd with ⟨_, rfl⟩ | ⟨u, v, e, _, _⟩
      · unfold ownF
        rw [if_pos rfl, h5]
      · have h6 : pI x = u ++ 47 :: v := e
        rw [h4, List.nil_append] at h6
        exact absurd (by rw [h6]; simp) hg2
    · have hyne : pI y ≠ [] := by
        obtain ⟨m, _, _, g', h5, h6, h7⟩ := hR y hy
        have h8 := ((given_ok nodes _ _ h6).1 _ h5).1
        rcases h7 with ⟨_, _, h7⟩ | ⟨z, _, _, _, _, h7⟩
        · rw [h7]
          simpa using h8
        · rw [h7]
          simp
      rcases hd with ⟨e, _⟩ | ⟨u, v, e, hv, hu⟩
      · exact absurd (by rw [show x.path.data.toList = _ from h4]; simp) e
      · have h6 : pI x = u ++ 47 :: v := e
        rw [h4] at h6
        obtain ⟨h7, h8⟩ := split_last _ _ _ _ hg2 hv h6
        have hdne : d ≠ ⟨#[]⟩ := fun e => by
          rw [← h8] at hu
          rw [e] at hu
          exact hyne hu.symm
        unfold ownF
        rw [if_neg hdne, ← bytes_inj, ← bytes_inj, show x.path.data.toList = _ from h4, ByteArray.data_append, ByteArray.data_append, Array.toList_append, Array.toList_append, hu, ← h8]
        show _ ↔ pI y ++ 47 :: g.data.toList = pI y ++ [47] ++ n.name.data.toList
        rw [List.append_assoc, List.append_cancel_left_eq]
        simp
  cases hc : firstN nodes n with
  | true => rw [decide_eq_true (key.1 (hf.1 hc))]
  | false =>
    rw [decide_eq_false (fun e => ?_)]
    rw [hf.2 (key.2 e)] at hc
    cases hc
end Go.Proofs.YtfbdbjookkogjaaDoor

