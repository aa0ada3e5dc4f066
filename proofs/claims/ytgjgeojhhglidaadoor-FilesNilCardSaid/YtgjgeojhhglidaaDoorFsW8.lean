/-
  Rename: entry by entry.
-/
import Derived.Test.YtgjgeojhhglidaaDoorFsW7
import Derived.Shelf.SlMaps.Clone
namespace Go.Proofs.YtgjgeojhhglidaaDoor
open Go Go.RowKit Go.Lib

/-- An entry behind the first steps of a Rename. -/
def mvK (a b : ByteArray) (l : List ByteArray) (x : Ent) : Ent := if amongE l x.path then movE a b x else x
theorem mvK_in {a b : ByteArray} {l : List ByteArray} {x : Ent} (h : x.path ∈ l) : mvK a b l x = movE a b x := if_pos (among_iff.2 h)
theorem mvK_out {a b : ByteArray} {l : List ByteArray} {x : Ent} (h : ¬ x.path ∈ l) : mvK a b l x = x := if_neg (fun e => h (among_iff.1 e))
theorem ren_start (es : List Ent) (a b : ByteArray) (z : Ent) : z ∈ es ↔ ∃ x ∈ es, z = mvK a b [] x := by
  constructor
  · exact fun h => ⟨z, h, (mvK_out (List.not_mem_nil)).symm⟩
  · rintro ⟨x, hx, e⟩
    rw [e, mvK_out (List.not_mem_nil)]
    exact hx
theorem take_mem {α : Type} {l : List α} {k : Nat} {p : α} (h : l[k]? = some p) (q : α) : q ∈ l.take (k + 1) ↔ q ∈ l.take k ∨ q = p := by
  rw [List.take_add_one, h, Option.toList_some, List.mem_append, List.mem_singleton]
theorem ren_step {f : Fs} (h : FsOK f) {a b : ByteArray} (hb : pathG b.data.toList = true) (hn : findE f.es b = none) {ss : List ByteArray} (hnd : ss.Nodup) (hin : ∀ q ∈ ss, inE a q = true) {k : Nat} {p : ByteArray} (hk : ss[k]? = some p)
    {x0 : Ent} (hx0 : x0 ∈ f.es) (hp : x0.path = p) {R : List Ent} (hR : ∀ z, z ∈ R ↔ ∃ x ∈ f.es, z = mvK a b (ss.take k) x) (z : Ent) : z ∈ putE (delE R p) (movE a b x0) ↔ ∃ x ∈ f.es, z = mvK a b (ss.take (k + 1)) x := by
  have hpi : inE a p = true := hin p (List.mem_of_getElem? hk)
  have hpk : ¬ p ∈ ss.take k := by
    intro e
    obtain ⟨j, e2⟩ := List.mem_iff_getElem?.1 e
    have hj := (List.getElem?_eq_some_iff.1 e2).1
    rw [List.length_take] at hj
    rw [List.getElem?_take_of_lt (by omega)] at e2
    have := nodup_at hnd e2 hk
    omega
  have hmv : movE a b x0 = ⟨newP a b p, x0.id, x0.dir, x0.data⟩ := by
    rw [movE_in (by rw [hp]; exact hpi), hp]
  rw [mem_putE, mem_delE, hR z]
  constructor
  · rintro (rfl | ⟨⟨⟨x, hx, rfl⟩, h2⟩, _⟩)
    · exact ⟨x0, hx0, (mvK_in ((take_mem hk _).2 (.inr hp))).symm⟩
    · refine ⟨x, hx, ?_⟩
      by_cases hxp : x.path = p
      · exfalso
        rw [mvK_out (by rw [hxp]; exact hpk)] at h2
        exact h2 hxp
      · by_cases hm : x.path ∈ ss.take k
        · rw [mvK_in hm, mvK_in ((take_mem hk _).2 (.inl hm))]
        · rw [mvK_out hm, mvK_out (fun e => ((take_mem hk _).1 e).elim hm hxp)]
  · rintro ⟨x, hx, rfl⟩
    by_cases hxp : x.path = p
    · have : x = x0 := rising_one h.rise hx hx0 (hxp.trans hp.symm)
      rw [this]
      exact .inl (mvK_in ((take_mem hk _).2 (.inr hp)))
    · refine .inr ?_
      by_cases hm : x.path ∈ ss.take k
      · rw [mvK_in ((take_mem hk _).2 (.inl hm))]
        have hxi := hin _ (List.mem_of_mem_take hm)
        rw [movE_in hxi, hmv]
        refine ⟨⟨⟨x, hx, by rw [mvK_in hm, movE_in hxi]⟩, ?_⟩, ?_⟩
        · intro e
          exact new_apart h hb hn hxi hx0 (hp.trans e.symm)
        · intro e
          exact hxp (new_inj hxi hpi e)
      · rw [mvK_out (fun e => ((take_mem hk _).1 e).elim hm hxp), hmv]
        exact ⟨⟨⟨x, hx, (mvK_out hm).symm⟩, hxp⟩, new_apart h hb hn hpi hx⟩
theorem ren_end {f : Fs} (h : FsOK f) {a b : ByteArray} (hb : pathG b.data.toList = true) (hn : findE f.es b = none) {ss : List ByteArray} (hp : ss.Perm ((f.es.map (·.path)).filter (inE a))) {R : List Ent} (hr : Rising R)
    (hR : ∀ z, z ∈ R ↔ ∃ x ∈ f.es, z = mvK a b ss x) : R = sortE (f.es.map (movE a b)) := by
  refine renamed_ext h hb hn hr fun z => ?_
  rw [hR z]
  have key : ∀ x ∈ f.es, mvK a b ss x = movE a b x := fun x hx => by
    by_cases hm : x.path ∈ ss
    · exact mvK_in hm
    · rw [mvK_out hm, movE_out]
      refine bool_f fun hi => hm (hp.mem_iff.2 (List.mem_filter.2 ⟨List.mem_map.2 ⟨x, hx, rfl⟩, hi⟩))
  constructor
  · rintro ⟨x, hx, e⟩
    exact ⟨x, hx, e.trans (key x hx)⟩
  · rintro ⟨x, hx, e⟩
    exact ⟨x, hx, e.trans (key x hx).symm⟩
theorem len_put_le (es : List Ent) (x : Ent) : (putE es x).length ≤ es.length + 1 := by
  unfold putE
  rw [len_ins]
  have : (delE es x.path).length ≤ es.length := List.length_filter_le _ _
  omega
theorem len_del_le (es : List Ent) (p : ByteArray) : (delE es p).length ≤ es.length := List.length_filter_le _ _
theorem rename_no {f : Fs} {a b : ByteArray} (h : findE f.es a = none) : renameF f a b = (f, 25) := if_pos (by rw [h]; rfl)
theorem rename_bad {f : Fs} {a b : ByteArray} {x : Ent} (h : findE f.es a = some x) (h1 : pathG b.data.toList = false) : renameF f a b = (f, 23) := by
  unfold renameF
  rw [h, if_neg (by simp), if_pos h1]
theorem rename_twice {f : Fs} {a b : ByteArray} {x y : Ent} (h : findE f.es a = some x) (h1 : pathG b.data.toList = true) (h2 : findE f.es b = some y) : renameF f a b = (f, 24) := by
  unfold renameF
  rw [h, if_neg (by simp), if_neg (by rw [h1]; exact Bool.noConfusion), h2]
  exact if_pos rfl
theorem rename_dir {f : Fs} {a b : ByteArray} {x : Ent} (h : findE f.es a = some x) (h1 : pathG b.data.toList = true) (h2 : findE f.es b = none) (h3 : standsE f.es b = false ∨ underB b a = true) : renameF f a b = (f, 44) := by
  unfold renameF
  rw [h, if_neg (by simp), if_neg (by rw [h1]; exact Bool.noConfusion), h2, if_neg (by simp), if_pos h3]
theorem rename_deep {f : Fs} {a b : ByteArray} {x y : Ent} (h : findE f.es a = some x) (h1 : pathG b.data.toList = true) (h2 : findE f.es b = none) (h3 : standsE f.es b = true) (h4 : underB b a = false) (hy : y ∈ f.es) (h5 : inE a y.path = true) (h6 : pathG (newP a b y.path).data.toList = false) : renameF f a b = (f, 23) := by
  unfold renameF
  rw [h, if_neg (by simp), if_neg (by rw [h1]; exact Bool.noConfusion), h2, if_neg (by simp), if_neg (by rw [h3, h4]; simp), if_pos]
  exact List.any_eq_true.2 ⟨y, hy, by rw [h5, h6]; rfl⟩
theorem newP_size {a b q : ByteArray} (hb : b.size ≤ 400) (hq : q.size ≤ 400) : (newP a b q).size ≤ 800 := by
  unfold newP
  rw [ByteArray.size_append, ByteArray.size_extract]
  omega
theorem in_size {a q : ByteArray} (h : inE a q = true) : a.size ≤ q.size := by
  obtain ⟨t, _, e⟩ := in_tail.1 h
  rw [size_eq, size_eq, e, List.length_append]
  omega
theorem mclone_any {w : World} {mb : Nat} {es : List Ent} (h : MapE Tryd.prog 9 w mb es) : Calls Tryd.prog 50 #[.map (some mb)] w fun e w' => e = .returned (.map (some w.heap.size)) ∧ MapE Tryd.prog 9 w' w.heap.size es ∧ Below w.heap.size w w' ∧ w.heap.size < w'.heap.size :=
  (AnyW.maps_Clone_owns Tryd.cloneA 9 rowE mb es.length (datE es) w h).mono fun _ _ hh => ⟨hh.1, hh.2.1, hh.2.2.2, World.ownsMap.lt hh.2.1⟩
end Go.Proofs.YtgjgeojhhglidaaDoor
