/-
  A Rename: plain law.
-/
import Derived.Test.YtgjgeojhhglidaaDoorFsPath
namespace Go.Proofs.YtgjgeojhhglidaaDoor
open Go Go.RowKit Go.Lib

theorem in_tail {a q : ByteArray} : inE a q = true ↔ ∃ t, (t = [] ∨ ∃ r, r ≠ [] ∧ t = 47 :: r) ∧ q.data.toList = a.data.toList ++ t := by
  rw [inE_iff]
  constructor
  · rintro (rfl | ⟨r, hr, e⟩)
    · exact ⟨[], .inl rfl, (List.append_nil _).symm⟩
    · exact ⟨47 :: r, .inr ⟨r, hr, rfl⟩, e⟩
  · rintro ⟨t, rfl | ⟨r, hr, rfl⟩, e⟩
    · exact .inl (pB_inj.1 (by rw [e, List.append_nil]))
    · exact .inr ⟨r, hr, e⟩
theorem newP_tail {a b q : ByteArray} {t : List UInt8} (h : q.data.toList = a.data.toList ++ t) : (newP a b q).data.toList = b.data.toList ++ t := by
  unfold newP
  have h1 : (q.extract a.size q.size).data.toList = t := by
    rw [← toList_data, extract_toList, size_eq, size_eq, h]
    simp
  rw [ByteArray.data_append, Array.toList_append, h1]
theorem movE_in {a b : ByteArray} {x : Ent} (h : inE a x.path = true) : movE a b x = ⟨newP a b x.path, x.id, x.dir, x.data⟩ := if_pos h
theorem movE_out {a b : ByteArray} {x : Ent} (h : inE a x.path = false) : movE a b x = x := if_neg (by rw [h]; exact Bool.false_ne_true)
theorem new_inj {a b p q : ByteArray} (hp : inE a p = true) (hq : inE a q = true) (e : newP a b p = newP a b q) : p = q := by
  obtain ⟨t, _, h1⟩ := in_tail.1 hp
  obtain ⟨u, _, h2⟩ := in_tail.1 hq
  have h3 := newP_tail (b := b) h1
  rw [e, newP_tail (b := b) h2] at h3
  rw [← pB_inj, h1, h2, List.append_cancel_left h3]
theorem new_apart {f : Fs} (h : FsOK f) {a b : ByteArray} (hb : pathG b.data.toList = true) (hn : findE f.es b = none) {q : ByteArray} (hq : inE a q = true) {y : Ent} (hy : y ∈ f.es) : y.path ≠ newP a b q := by
  intro e
  obtain ⟨t, ht, h1⟩ := in_tail.1 hq
  have h2 := newP_tail (b := b) h1
  rw [← e] at h2
  rcases ht with rfl | ⟨r, hr, rfl⟩
  · exact find_none hn y hy (pB_inj.1 (by rw [h2, List.append_nil]))
  · obtain ⟨z, hz, hzb⟩ := anc h (path_rights hb) r.length y hy r (Nat.le_refl _) h2
    exact find_none hn z hz hzb
theorem mov_one {f : Fs} (h : FsOK f) {a b : ByteArray} (hb : pathG b.data.toList = true) (hn : findE f.es b = none) {x y : Ent} (hx : x ∈ f.es) (hy : y ∈ f.es) (e : (movE a b x).path = (movE a b y).path) : x = y := by
  cases h1 : inE a x.path with
  | true =>
    rw [movE_in h1] at e
    cases h2 : inE a y.path with
    | true =>
      rw [movE_in h2] at e
      exact rising_one h.rise hx hy (new_inj h1 h2 e)
    | false =>
      rw [movE_out h2] at e
      exact absurd e.symm (new_apart h hb hn h1 hy)
  | false =>
    rw [movE_out h1] at e
    cases h2 : inE a y.path with
    | true =>
      rw [movE_in h2] at e
      exact absurd e (new_apart h hb hn h2 hx)
    | false =>
      rw [movE_out h2] at e
      exact rising_one h.rise hx hy e
theorem mem_sortE {z : Ent} : ∀ {l : List Ent}, z ∈ sortE l ↔ z ∈ l
  | [] => Iff.rfl
  | x :: l => by
    show z ∈ insE x (sortE l) ↔ _
    rw [mem_insE, mem_sortE, List.mem_cons]
theorem len_sortE : ∀ l : List Ent, (sortE l).length = l.length
  | [] => rfl
  | x :: l => by
    show (insE x (sortE l)).length = _
    rw [len_ins, len_sortE l, List.length_cons]
theorem rising_sort : ∀ {l : List Ent}, l.Pairwise (fun x y => x.path ≠ y.path) → Rising (sortE l)
  | [], _ => List.Pairwise.nil
  | x :: l, h => by
    obtain ⟨h1, h2⟩ := List.pairwise_cons.1 h
    exact rising_ins (rising_sort h2) (fun y hy => (h1 y (mem_sortE.1 hy)).symm)
theorem mov_apart {f : Fs} (h : FsOK f) {a b : ByteArray} (hb : pathG b.data.toList = true) (hn : findE f.es b = none) : (f.es.map (movE a b)).Pairwise (fun x y => x.path ≠ y.path) := by
  rw [List.pairwise_map]
  refine (rising_nodup h.rise).imp_of_mem fun {x y} hx hy hne e => hne (mov_one h hb hn hx hy e)
/-- The entries behind a Rename, whatever the order. -/
theorem renamed_ext {f : Fs} (h : FsOK f) {a b : ByteArray} (hb : pathG b.data.toList = true) (hn : findE f.es b = none) {l : List Ent} (hr : Rising l) (hm : ∀ z, z ∈ l ↔ ∃ x ∈ f.es, z = movE a b x) : l = sortE (f.es.map (movE a b)) := by
  refine rising_ext hr (rising_sort (mov_apart h hb hn)) fun z => ?_
  rw [hm z, mem_sortE, List.mem_map]
  constructor
  · rintro ⟨x, hx, rfl⟩
    exact ⟨x, hx, rfl⟩
  · rintro ⟨x, hx, rfl⟩
    exact ⟨x, hx, rfl⟩
theorem bool_f {b : Bool} (h : ¬ b = true) : b = false := by
  cases b
  · rfl
  · exact absurd rfl h
theorem bool_t {b : Bool} (h : ¬ b = false) : b = true := by
  cases b
  · exact absurd rfl h
  · rfl
theorem opt_n {α : Type} {o : Option α} (h : ¬ o.isSome = true) : o = none := by
  cases o
  · rfl
  · exact absurd rfl h
theorem opt_s {α : Type} {o : Option α} (h : ¬ o.isNone = true) : ∃ x, o = some x := by
  cases o with
  | none => exact absurd rfl h
  | some x => exact ⟨x, rfl⟩
/-- What lets a Rename be done. -/
structure MayRen (f : Fs) (a b : ByteArray) : Prop where
  there : ∃ x, findE f.es a = some x
  path : pathG b.data.toList = true
  free : findE f.es b = none
  up : standsE f.es b = true
  out : underB b a = false
  all : ∀ x ∈ f.es, inE a x.path = true → pathG (newP a b x.path).data.toList = true
theorem rename_does {f : Fs} {a b : ByteArray} (h : MayRen f a b) : renameF f a b = (⟨f.n, sortE (f.es.map (movE a b))⟩, 0) := by
  unfold renameF
  obtain ⟨x, hx⟩ := h.there
  rw [hx, if_neg (by simp), if_neg (by rw [h.path]; simp), h.free, if_neg (by simp), if_neg (by rw [h.up, h.out]; simp), if_neg]
  intro ha
  obtain ⟨y, hy, h1⟩ := List.any_eq_true.1 ha
  rw [Bool.and_eq_true, Bool.not_eq_true'] at h1
  rw [h.all y hy h1.1] at h1
  cases h1.2
theorem rename_may {f : Fs} {a b : ByteArray} : (∃ e, e ≠ 0 ∧ renameF f a b = (f, e)) ∨ MayRen f a b := by
  unfold renameF
  split
  · exact .inl ⟨25, by decide, rfl⟩
  rename_i h1
  split
  · exact .inl ⟨23, by decide, rfl⟩
  rename_i h2
  split
  · exact .inl ⟨24, by decide, rfl⟩
  rename_i h3
  split
  · exact .inl ⟨44, by decide, rfl⟩
  rename_i h4
  split
  · exact .inl ⟨23, by decide, rfl⟩
  rename_i h5
  refine .inr ⟨opt_s h1, bool_t h2, opt_n h3, bool_t (fun e => h4 (.inl e)), bool_f (fun e => h4 (.inr e)), fun x hx hi => ?_⟩
  have := List.any_eq_false.1 (bool_f h5) x hx
  rw [hi, Bool.true_and, Bool.not_eq_true'] at this
  exact bool_t this
theorem ok_rename {f : Fs} (h : FsOK f) (a b : ByteArray) : FsOK (renameF f a b).1 := by
  rcases rename_may (f := f) (a := a) (b := b) with ⟨e, _, h1⟩ | hm
  · rw [h1]
    exact h
  rw [rename_does hm]
  have hr := rising_sort (mov_apart (a := a) h hm.path hm.free)
  refine ⟨hr, fun z hz => ?_, fun z hz => ?_, ?_⟩
  · obtain ⟨x, hx, rfl⟩ := List.mem_map.1 (mem_sortE.1 hz)
    cases hi : inE a x.path with
    | true =>
      rw [movE_in hi]
      exact hm.all x hx hi
    | false =>
      rw [movE_out hi]
      exact h.path x hx
  · obtain ⟨x, hx, rfl⟩ := List.mem_map.1 (mem_sortE.1 hz)
    have keep : ∀ y ∈ f.es, inE a y.path = false → y ∈ sortE (f.es.map (movE a b)) := fun y hy hi => mem_sortE.2 (List.mem_map.2 ⟨y, hy, movE_out hi⟩)
    refine up_of hr ?_
    cases hi : inE a x.path with
    | false =>
      rw [movE_out hi]
      rcases up_split h.rise (h.up x hx) with h1 | ⟨y, hy, hd, c, h1, h2⟩
      · exact .inl h1
      · refine .inr ⟨y, keep y hy ?_, hd, c, h1, h2⟩
        cases hy2 : inE a y.path with
        | false => rfl
        | true =>
          rw [in_up (path_rights (h.path x hx)) h1 hy2] at hi
          cases hi
    | true =>
      rw [movE_in hi]
      obtain ⟨t, ht, h1⟩ := in_tail.1 hi
      have h2 := newP_tail (b := b) h1
      rcases ht with rfl | ⟨r, hr0, rfl⟩
      · rw [List.append_nil] at h2
        rw [pB_inj.1 h2]
        rcases up_split h.rise hm.up with h3 | ⟨y, hy, hd, c, h3, h4⟩
        · exact .inl h3
        · refine .inr ⟨y, keep y hy ?_, hd, c, h3, h4⟩
          cases hy2 : inE a y.path with
          | false => rfl
          | true =>
            have hb := in_up (path_rights hm.path) h3 hy2
            unfold inE at hb
            rw [hm.out, Bool.or_false, decide_eq_true_eq] at hb
            obtain ⟨u, hu⟩ := hm.there
            obtain ⟨hu1, hu2⟩ := find_some hu
            rw [hb] at hm
            exact absurd hu2 (find_none hm.free u hu1)
      · rcases up_split h.rise (h.up x hx) with h3 | ⟨y, hy, hd, c, h3, h4⟩
        · exact absurd rfl (h3 47 (by rw [h1]; simp))
        · rw [h1] at h3
          have hy2 : inE a y.path = true ∧ ∃ u, y.path.data.toList = a.data.toList ++ u ∧ 47 :: r = u ++ 47 :: c := by
            rcases List.append_eq_append_iff.1 h3 with ⟨u, h5, h6⟩ | ⟨u, h5, h6⟩
            · refine ⟨?_, u, h5, h6⟩
              cases u with
              | nil => exact inE_iff.2 (.inl (pB_inj.1 (by simpa using h5)))
              | cons v u =>
                simp only [List.cons_append, List.cons.injEq] at h6
                obtain ⟨rfl, h6⟩ := h6
                refine inE_iff.2 (.inr ⟨u, ?_, h5⟩)
                rintro rfl
                have h7 := path_rights (h.path y hy)
                rw [h5, rights_join, Bool.and_eq_true] at h7
                exact absurd rfl (rights_ne h7.2)
            · cases u with
              | nil => exact ⟨inE_iff.2 (.inl (pB_inj.1 (by simpa using h5.symm))), [], by simpa using h5.symm, by simpa using h6.symm⟩
              | cons v u =>
                simp only [List.cons_append, List.cons.injEq] at h6
                exact absurd rfl (h4 47 (by rw [h6.2]; simp))
          obtain ⟨hy2, u, h5, h6⟩ := hy2
          refine .inr ⟨movE a b y, mem_sortE.2 (List.mem_map.2 ⟨y, hy, rfl⟩), ?_, c, ?_, h4⟩
          · rw [movE_in hy2]
            exact hd
          · rw [movE_in hy2]
            show (newP a b x.path).data.toList = (newP a b y.path).data.toList ++ 47 :: c
            rw [h2, newP_tail (b := b) h5, h6, List.append_assoc]
  · show (sortE (f.es.map (movE a b))).length ≤ 300
    rw [len_sortE, List.length_map]
    exact h.few
end Go.Proofs.YtgjgeojhhglidaaDoor
