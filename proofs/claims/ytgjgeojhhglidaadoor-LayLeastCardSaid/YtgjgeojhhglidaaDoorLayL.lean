/-
  What a plan's acts make of a file system: plain law. How many acts a plan has for each path: plain law.
-/
import Derived.Test.YtgjgeojhhglidaaDoorFsD
import Derived.Test.YtgjgeojhhglidaaDoorFsX4
namespace Go.Proofs.YtgjgeojhhglidaaDoor
open Go Go.RowKit Go.Lib

/-- What may be wanted. -/
structure RightW (want : List Ent) : Prop where
  ok : FsOK ⟨0, want⟩
  data : ∀ x ∈ want, x.data.size ≤ 4096
  bare : ∀ x ∈ want, x.dir = true → x.data = noBa
  up : ∀ (j : Nat) (x : Ent), want[j]? = some x → slashI x.path < 0 ∨ ∃ (k : Nat) (y : Ent), k < j ∧ want[k]? = some y ∧ y.dir = true ∧ y.path = x.path.extract 0 (slashI x.path).toNat
  len : want.length ≤ 100
theorem anc_dir {f : Fs} (h : FsOK f) {d : ByteArray} : ∀ (n : Nat) (y : Ent), y ∈ f.es → ∀ r, r.length ≤ n → y.path.data.toList = d.data.toList ++ 47 :: r → ∃ z ∈ f.es, z.path = d ∧ z.dir = true
  | n, y, hy, r, hn, e => by
    rcases up_split h.rise (h.up y hy) with h1 | ⟨z, hz, hzd, b, h1, h2⟩
    · exact absurd rfl (h1 47 (by rw [e]; simp))
    · rw [e] at h1
      rcases List.append_eq_append_iff.1 h1 with ⟨c, h4, h5⟩ | ⟨c, h4, h5⟩
      · cases c with
        | nil => exact ⟨z, hz, pB_inj.1 (by simpa using h4), hzd⟩
        | cons x c =>
          simp only [List.cons_append, List.cons.injEq] at h5
          obtain ⟨rfl, h5⟩ := h5
          cases n with
          | zero =>
            rw [h5] at hn
            simp at hn
          | succ n =>
            refine anc_dir h n z hz c ?_ h4
            rw [h5] at hn
            simp only [List.length_append, List.length_cons] at hn
            omega
      · cases c with
        | nil => exact ⟨z, hz, pB_inj.1 (by simpa using h4.symm), hzd⟩
        | cons x c =>
          simp only [List.cons_append, List.cons.injEq] at h5
          exact absurd rfl (h2 47 (by rw [h5.2]; simp))
/-- Where a path is in an entry's, the entry is it, or a directory that is above it. -/
theorem in_dirE {f : Fs} (h : FsOK f) {x y : Ent} (hx : x ∈ f.es) (hy : y ∈ f.es) (hi : inE y.path x.path = true) : y = x ∨ (y.dir = true ∧ underB x.path y.path = true) := by
  rcases inE_iff.1 hi with e | ⟨r, hr, e⟩
  · exact .inl (rising_one h.rise hy hx e.symm)
  · obtain ⟨z, hz, h1, h2⟩ := anc_dir h r.length x hx r (Nat.le_refl _) e
    rw [rising_one h.rise hy hz h1.symm]
    exact .inr ⟨h2, underE_iff.2 ⟨r, hr, by rw [h1]; exact e⟩⟩
theorem in_transE {a b c : ByteArray} (h1 : inE a b = true) (h2 : inE b c = true) : inE a c = true := by
  rw [inE_iff] at *
  rcases h1 with rfl | ⟨r, hr, e⟩
  · exact h2
  rcases h2 with rfl | ⟨s, hs, e2⟩
  · exact .inr ⟨r, hr, e⟩
  · refine .inr ⟨r ++ 47 :: s, by simp, ?_⟩
    rw [e2, e]
    simp
theorem stays_iff {x : Ent} {want : List Ent} (hr : Rising want) : staysE x want = true ↔ ∃ w ∈ want, w.path = x.path ∧ w.dir = x.dir := by
  unfold staysE
  constructor
  · intro h
    cases hf : findE want x.path with
    | none => rw [hf] at h; cases h
    | some y =>
      rw [hf] at h
      obtain ⟨h1, h2⟩ := find_some hf
      exact ⟨y, h1, h2, (beq_iff_eq.1 h).symm⟩
  · rintro ⟨w, hw, h1, h2⟩
    rw [← h1, find_of hr hw]
    exact beq_iff_eq.2 h2.symm
/-- What stays stands in directories that stay. -/
theorem stays_up {f : Fs} (hf : FsOK f) {want : List Ent} (hw : RightW want) {x y : Ent} (hx : x ∈ f.es) (hy : y ∈ f.es) (hs : staysE x want = true) (hi : inE y.path x.path = true) : staysE y want = true := by
  rcases in_dirE hf hx hy hi with rfl | ⟨h1, h2⟩
  · exact hs
  · obtain ⟨w, hw1, e1, e2⟩ := (stays_iff hw.ok.rise).1 hs
    obtain ⟨r, hr, e⟩ := underE_iff.1 h2
    obtain ⟨z, hz, h3, h4⟩ := anc_dir hw.ok r.length w hw1 r (Nat.le_refl _) (by rw [e1]; exact e)
    exact (stays_iff hw.ok.rise).2 ⟨z, hz, h3, h4.trans h1.symm⟩
theorem do_snoc (f : Fs) (l : List Act3) (x : Act3) (h : (doF f l).2 = 0) : doF f (l ++ [x]) = actF (doF f l).1 x := by
  induction l generalizing f with
  | nil =>
    show (if (actF f x).2 = 0 then ((actF f x).1, (0 : Int)) else actF f x) = actF f x
    split
    · rename_i h
      rw [← h]
    · rfl
  | cons y l ih =>
    unfold doF at h
    show doF f (y :: (l ++ [x])) = actF (doF f (y :: l)).1 x
    unfold doF
    split at h
    · rename_i h1
      rw [if_pos h1, if_pos h1]
      exact ih _ h
    · rename_i h1
      exact absurd h h1

/-! ### what is taken away -/
def goneB (now want : List Ent) (k : Nat) (z : Ent) : Bool := (now.take k).any fun y => !staysE y want && inE y.path z.path
theorem gone_succ {now want : List Ent} {k : Nat} {x : Ent} (h : now[k]? = some x) (z : Ent) : goneB now want (k + 1) z = (goneB now want k z || (!staysE x want && inE x.path z.path)) := by
  unfold goneB
  rw [List.take_add_one, h, Option.toList_some, List.any_append]
  simp
theorem fs_eta (f : Fs) : (⟨f.n, f.es⟩ : Fs) = f := rfl
theorem rem_do {f : Fs} (hf : FsOK f) {want : List Ent} : ∀ k, k ≤ f.es.length → doF f (remA f.es want k) = (⟨f.n, f.es.filter fun z => !goneB f.es want k z⟩, 0)
  | 0, _ => by
    have h1 : (f.es.filter fun z => !goneB f.es want 0 z) = f.es := List.filter_eq_self.2 fun _ _ => rfl
    show (f, (0 : Int)) = _
    rw [h1]
  | k + 1, hk => by
    have ih := rem_do hf (want := want) k (by omega)
    have hx : f.es[k]? = some f.es[k] := List.getElem?_eq_getElem (by omega)
    generalize f.es[k] = x at hx
    have hxm := List.mem_of_getElem? hx
    rw [remA_step hx]
    have same : (∀ z ∈ f.es, goneB f.es want (k + 1) z = goneB f.es want k z) → doF f (remA f.es want k) = (⟨f.n, f.es.filter fun z => !goneB f.es want (k + 1) z⟩, 0) := fun h => by
      rw [ih]
      congr 2
      exact List.filter_congr fun z hz => by rw [h z hz]
    by_cases hs : staysE x want = true
    · rw [hs, if_neg (by simp)]
      refine same fun z _ => ?_
      rw [gone_succ hx, hs]
      simp
    · rw [bool_f hs]
      cases hin : inB f.es want k x.path with
      | true =>
        rw [if_neg (by simp)]
        refine same fun z _ => ?_
        rw [gone_succ hx]
        cases hi : inE x.path z.path with
        | false => simp
        | true =>
          unfold inB at hin
          obtain ⟨y, hy, h1⟩ := List.any_eq_true.1 hin
          rw [Bool.and_eq_true, Bool.and_eq_true] at h1
          have h2 : goneB f.es want k z = true := List.any_eq_true.2 ⟨y, hy, by
            rw [h1.1.2, Bool.true_and]
            exact in_transE (by unfold inE; rw [h1.2, Bool.or_true]) hi⟩
          rw [h2]
          rfl
      | false =>
        rw [if_pos (by simp), do_snoc _ _ _ (by rw [ih]), ih]
        have hng : goneB f.es want k x = false := by
          cases hg : goneB f.es want k x with
          | false => rfl
          | true =>
            obtain ⟨y, hy, h1⟩ := List.any_eq_true.1 hg
            rw [Bool.and_eq_true] at h1
            have hym := List.mem_of_mem_take hy
            rcases in_dirE hf hxm hym h1.2 with e | ⟨h2, h3⟩
            · obtain ⟨j, hj⟩ := List.mem_iff_getElem?.1 hy
              have hjk : j < k := by
                have := (List.getElem?_eq_some_iff.1 hj).1
                rw [List.length_take] at this
                omega
              rw [List.getElem?_take_of_lt hjk, e] at hj
              have := nodup_at (rising_nodup hf.rise) hj hx
              omega
            · have h4 : inB f.es want k x.path = true := List.any_eq_true.2 ⟨y, hy, by rw [h2, h1.1, h3]; rfl⟩
              rw [h4] at hin
              cases hin
        have hmem : x ∈ f.es.filter fun z => !goneB f.es want k z := List.mem_filter.2 ⟨hxm, by rw [hng]; rfl⟩
        rw [act_1 rfl]
        show removeF ⟨f.n, f.es.filter fun z => !goneB f.es want k z⟩ x.path = _
        unfold removeF
        rw [if_neg (by
          show ¬ (findE (f.es.filter fun z => !goneB f.es want k z) x.path).isNone = true
          rw [find_of (rising_filter hf.rise _) hmem]
          simp)]
        show ((⟨f.n, (f.es.filter fun z => !goneB f.es want k z).filter fun z => !inE x.path z.path⟩ : Fs), (0 : Int)) = _
        rw [List.filter_filter]
        congr 2
        refine List.filter_congr fun z _ => ?_
        rw [gone_succ hx, bool_f hs]
        cases goneB f.es want k z <;> cases inE x.path z.path <;> rfl
/-- Behind the Removes there is what stays. -/
def stayF (f : Fs) (want : List Ent) : Fs := ⟨f.n, f.es.filter fun z => staysE z want⟩
theorem rem_all {f : Fs} (hf : FsOK f) {want : List Ent} (hw : RightW want) : doF f (remA f.es want f.es.length) = (stayF f want, 0) := by
  rw [rem_do hf _ (Nat.le_refl _)]
  unfold stayF
  congr 2
  refine List.filter_congr fun z hz => ?_
  cases hs : staysE z want with
  | true =>
    cases hg : goneB f.es want f.es.length z with
    | false => rfl
    | true =>
      obtain ⟨y, hy, h1⟩ := List.any_eq_true.1 hg
      rw [List.take_length] at hy
      rw [Bool.and_eq_true] at h1
      rw [stays_up hf hw hz hy hs h1.2] at h1
      cases h1.1
  | false =>
    have : goneB f.es want f.es.length z = true := List.any_eq_true.2 ⟨z, by rw [List.take_length]; exact hz, by rw [hs, in_self]; rfl⟩
    rw [this]
    rfl
theorem ok_do : ∀ (l : List Act3) {f : Fs}, FsOK f → FsOK (doF f l).1
  | [], _, h => h
  | x :: l, f, h => by
    unfold doF
    split
    · exact ok_do l (ok_act h x)
    · exact ok_act h x
theorem ids_do : ∀ (l : List Act3) {f : Fs}, IdsOK f → IdsOK (doF f l).1
  | [], _, h => h
  | x :: l, f, h => by
    unfold doF
    split
    · exact ids_do l (step_act h x).ids
    · exact (step_act h x).ids
theorem there_iff (f : Fs) (want : List Ent) (p : ByteArray) : thereE f.es want p = findE (stayF f want).es p := by
  unfold thereE findE stayF
  induction f.es with
  | nil => rfl
  | cons x l ih =>
    rw [List.filter_cons, List.find?_cons, ih]
    cases hs : staysE x want <;> cases hd : decide (x.path = p) <;> simp [hd]
theorem nodup_len {α : Type} [BEq α] [LawfulBEq α] : ∀ {l m : List α}, l.Nodup → (∀ x ∈ l, x ∈ m) → l.length ≤ m.length
  | [], _, _, _ => Nat.zero_le _
  | x :: l, m, hn, h => by
    obtain ⟨h1, h2⟩ := List.nodup_cons.1 hn
    have hx := h x List.mem_cons_self
    have := nodup_len (m := m.erase x) h2 fun y hy => (List.mem_erase_of_ne (fun e => h1 (by rw [← e]; exact hy))).2 (h y (List.mem_cons_of_mem _ hy))
    have hl := List.length_erase_of_mem hx
    have := List.length_pos_of_mem hx
    rw [List.length_cons]
    omega
theorem len_want {f : Fs} (hf : FsOK f) {want : List Ent} (h : ∀ e ∈ f.es, ∃ w ∈ want, w.path = e.path ∧ w.dir = e.dir) : f.es.length ≤ want.length := by
  have h1 : (f.es.map pB).Nodup := by
    refine List.pairwise_map.2 (hf.rise.imp fun {a b} hab e => ?_)
    exact befE_ne hab (pB_inj.1 e)
  have h2 := nodup_len (m := want.map pB) h1 fun x hx => by
    obtain ⟨e, he, rfl⟩ := List.mem_map.1 hx
    obtain ⟨w, hw1, h3, _⟩ := h e he
    exact List.mem_map.2 ⟨w, hw1, by unfold pB; rw [h3]⟩
  rw [List.length_map, List.length_map] at h2
  exact h2
/-- Where a path's directory is wanted ahead of it, and is there, it stands. -/
theorem stands_want {f : Fs} (hf : FsOK f) {want : List Ent} (hw : RightW want) {k : Nat} {x : Ent} (hx : want[k]? = some x) (h : ∀ (j : Nat) (y : Ent), j < k → want[j]? = some y → y.dir = true → ∃ e ∈ f.es, e.path = y.path ∧ e.dir = true) : standsE f.es x.path = true := by
  rw [stands_of hf.rise]
  rcases hw.up k x hx with h1 | ⟨j, y, hj, hy, hd, e⟩
  · exact .inl h1
  · obtain ⟨z, hz, h2, h3⟩ := h j y hj hy hd
    exact .inr ⟨z, hz, h2.trans e, h3⟩
structure InMk (f : Fs) (want : List Ent) (k : Nat) (t : Fs) : Prop where
  all : ∀ x ∈ (stayF f want).es, x ∈ t.es
  src : ∀ e ∈ t.es, e ∈ (stayF f want).es ∨ ∃ (j : Nat) (w : Ent), j < k ∧ want[j]? = some w ∧ w.dir = true ∧ e.path = w.path ∧ e.dir = true ∧ findE (stayF f want).es w.path = none
  got : ∀ (j : Nat) (w : Ent), j < k → want[j]? = some w → w.dir = true → ∃ e ∈ t.es, e.path = w.path ∧ e.dir = true
theorem stay_want {f : Fs} {want : List Ent} (hw : RightW want) {x : Ent} (hx : x ∈ (stayF f want).es) : ∃ w ∈ want, w.path = x.path ∧ w.dir = x.dir := (stays_iff hw.ok.rise).1 (List.mem_filter.1 hx).2
theorem InMk.want {f : Fs} {want : List Ent} {k : Nat} {t : Fs} (h : InMk f want k t) (hw : RightW want) : ∀ e ∈ t.es, ∃ w ∈ want, w.path = e.path ∧ w.dir = e.dir := by
  intro e he
  rcases h.src e he with h1 | ⟨j, w, _, h1, h2, h3, h4, _⟩
  · exact stay_want hw h1
  · exact ⟨w, List.mem_of_getElem? h1, h3.symm, h2.trans h4.symm⟩
theorem find_isNone {es : List Ent} {p : ByteArray} (h : ∀ x ∈ es, x.path ≠ p) : findE es p = none := by
  cases hf : findE es p with
  | none => rfl
  | some x => exact absurd (find_some hf).2 (h x (find_some hf).1)
theorem mk_do {f : Fs} (hf : FsOK f) {want : List Ent} (hw : RightW want) : ∀ k, k ≤ want.length → (doF f (mkA f.es want k)).2 = 0 ∧ InMk f want k (doF f (mkA f.es want k)).1
  | 0, _ => by
    show (doF f (remA f.es want f.es.length)).2 = 0 ∧ InMk f want 0 (doF f (remA f.es want f.es.length)).1
    rw [rem_all hf hw]
    exact ⟨rfl, fun x hx => hx, fun e he => .inl he, fun j w hj => absurd hj (Nat.not_lt_zero _)⟩
  | k + 1, hk => by
    obtain ⟨i1, i2⟩ := mk_do hf hw k (by omega)
    have hx : want[k]? = some want[k] := List.getElem?_eq_getElem (by omega)
    generalize want[k] = x at hx
    have hxm := List.mem_of_getElem? hx
    have hok := ok_do (mkA f.es want k) hf
    rw [mkA_step hx, there_iff f]
    have keep : (∀ w, w = x → w.dir = true → ∃ e ∈ (doF f (mkA f.es want k)).1.es, e.path = w.path ∧ e.dir = true) → InMk f want (k + 1) (doF f (mkA f.es want k)).1 := fun h => by
      refine ⟨i2.all, fun e he => ?_, fun j w hj hw2 hd => ?_⟩
      · rcases i2.src e he with h1 | ⟨j, w, h0, h1⟩
        · exact .inl h1
        · exact .inr ⟨j, w, by omega, h1⟩
      · by_cases hjk : j = k
        · rw [hjk, hx] at hw2
          exact h w (Option.some.inj hw2).symm hd
        · exact i2.got j w (by omega) hw2 hd
    by_cases hd : x.dir = true
    · cases ht : findE (stayF f want).es x.path with
      | some y =>
        rw [if_neg (by simp)]
        obtain ⟨h1, h2⟩ := find_some ht
        refine ⟨i1, keep fun w e hd2 => ?_⟩
        subst e
        obtain ⟨w2, hw2, h3, h4⟩ := stay_want hw h1
        have := rising_one hw.ok.rise hw2 hxm (h3.trans h2)
        rw [this] at h4
        exact ⟨y, i2.all y h1, h2, h4.symm.trans hd⟩
      | none =>
        rw [if_pos (by rw [hd]; rfl), do_snoc _ _ _ i1, act_2 rfl]
        generalize (doF f (mkA f.es want k)).1 = t at *
        have hnone : findE t.es x.path = none := find_isNone fun e he h1 => by
          rcases i2.src e he with h2 | ⟨j, w, hj, h2, _, h3, _⟩
          · exact find_none ht e h2 h1
          · have h4 := rising_one hw.ok.rise (List.mem_of_getElem? h2) hxm (h3.symm.trans h1)
            rw [h4] at h2
            have := nodup_at (rising_nodup hw.ok.rise) h2 hx
            omega
        have hlen := len_want hok (i2.want hw)
        have hl := hw.len
        show (mkdirF t x.path).2 = 0 ∧ InMk f want (k + 1) (mkdirF t x.path).1
        have hm : mkdirF t x.path = (⟨t.n + 1, putE t.es ⟨x.path, (t.n : Int) + 1, true, noBa⟩⟩, 0) := by
          unfold mkdirF
          rw [if_neg (by rw [hw.ok.path x hxm]; simp), hnone, if_neg (by simp)]
          unfold madeF
          rw [if_neg (by
            show ¬ standsE t.es x.path = false
            rw [stands_want hok hw hx fun j y hj hy hyd => i2.got j y hj hy hyd]
            simp), if_neg (by omega)]
        rw [hm]
        refine ⟨rfl, fun z hz => mem_putE.2 (.inr ⟨i2.all z hz, fun e => find_none ht z hz e⟩), fun e he => ?_, fun j w hj hw2 hwd => ?_⟩
        · rcases mem_putE.1 he with rfl | ⟨he, _⟩
          · exact .inr ⟨k, x, by omega, hx, hd, rfl, rfl, ht⟩
          · rcases i2.src e he with h1 | ⟨j, w, h0, h1⟩
            · exact .inl h1
            · exact .inr ⟨j, w, by omega, h1⟩
        · by_cases hjk : j = k
          · rw [hjk, hx] at hw2
            obtain rfl := Option.some.inj hw2
            exact ⟨_, mem_putE.2 (.inl rfl), rfl, rfl⟩
          · obtain ⟨e, he, h1, h2⟩ := i2.got j w (by omega) hw2 hwd
            exact ⟨e, mem_putE.2 (.inr ⟨he, fun h3 => find_none hnone e he h3⟩), h1, h2⟩
    · rw [if_neg (by rw [bool_f hd]; simp)]
      exact ⟨i1, keep fun w e hd2 => absurd (e ▸ hd2) hd⟩

/-! ### what is written -/
structure InWr (f : Fs) (want : List Ent) (k : Nat) (u : Fs) : Prop where
  src : ∀ e ∈ u.es, ∃ w ∈ want, w.path = e.path ∧ w.dir = e.dir
  dirs : ∀ w ∈ want, w.dir = true → ∃ e ∈ u.es, e.path = w.path
  got : ∀ (j : Nat) (w : Ent), j < k → want[j]? = some w → ∃ e ∈ u.es, e.path = w.path ∧ e.dir = w.dir ∧ e.data = w.data
  kept : ∀ x ∈ (stayF f want).es, ∃ e ∈ u.es, e.path = x.path ∧ e.id = x.id ∧ e.dir = x.dir
  wait : ∀ (j : Nat) (w : Ent), k ≤ j → want[j]? = some w → w.dir = false → findE u.es w.path = findE (stayF f want).es w.path
theorem find_put_ne {es : List Ent} (hr : Rising es) {x : Ent} {p : ByteArray} (h : p ≠ x.path) : findE (putE es x) p = findE es p := by
  cases h1 : findE es p with
  | some y =>
    obtain ⟨hy, rfl⟩ := find_some h1
    exact find_of (rising_put hr x) (mem_putE.2 (.inr ⟨hy, h⟩))
  | none =>
    refine find_isNone fun z hz e => ?_
    rcases mem_putE.1 hz with rfl | ⟨hz, _⟩
    · exact h e.symm
    · exact find_none h1 z hz e
theorem wr_put {f : Fs} {want : List Ent} (hw : RightW want) {k : Nat} {u : Fs} (hok : FsOK u) (i2 : InWr f want k u) {x : Ent} (hx : want[k]? = some x) (hd : x.dir = false) (n : Nat) (id : Int)
    (hid : ∀ y ∈ (stayF f want).es, y.path = x.path → y.id = id) : InWr f want (k + 1) ⟨n, putE u.es ⟨x.path, id, false, x.data⟩⟩ := by
  have hxm := List.mem_of_getElem? hx
  have other : ∀ (j : Nat) (w : Ent), j ≠ k → want[j]? = some w → w.path ≠ x.path := fun j w hj hw2 e => by
    rw [rising_one hw.ok.rise (List.mem_of_getElem? hw2) hxm e] at hw2
    exact hj (nodup_at (rising_nodup hw.ok.rise) hw2 hx)
  refine ⟨fun e he => ?_, fun w hw2 hwd => ?_, fun j w hj hw2 => ?_, fun y hy => ?_, fun j w hj hw2 hwd => ?_⟩
  · rcases mem_putE.1 he with rfl | ⟨he, _⟩
    · exact ⟨x, hxm, rfl, hd⟩
    · exact i2.src e he
  · obtain ⟨e, he, h1⟩ := i2.dirs w hw2 hwd
    refine ⟨e, mem_putE.2 (.inr ⟨he, fun h2 => ?_⟩), h1⟩
    have h3 : w.path = x.path := h1.symm.trans h2
    rw [rising_one hw.ok.rise hw2 hxm h3, hd] at hwd
    cases hwd
  · by_cases hjk : j = k
    · rw [hjk, hx] at hw2
      obtain rfl := Option.some.inj hw2
      exact ⟨_, mem_putE.2 (.inl rfl), rfl, hd.symm, rfl⟩
    · obtain ⟨e, he, h1, h2⟩ := i2.got j w (by omega) hw2
      exact ⟨e, mem_putE.2 (.inr ⟨he, fun h3 => other j w hjk hw2 (h1.symm.trans h3)⟩), h1, h2⟩
  · obtain ⟨e, he, h1, h2, h3⟩ := i2.kept y hy
    by_cases h4 : e.path = x.path
    · refine ⟨_, mem_putE.2 (.inl rfl), h4.symm.trans h1, (hid y hy (h1.symm.trans h4)).symm, ?_⟩
      obtain ⟨w, hw2, h5, h6⟩ := i2.src e he
      rw [← h3, ← h6, rising_one hw.ok.rise hw2 hxm (h5.trans h4)]
      exact hd.symm
    · exact ⟨e, mem_putE.2 (.inr ⟨he, h4⟩), h1, h2, h3⟩
  · show findE (putE u.es _) w.path = _
    rw [find_put_ne (x := ⟨x.path, id, false, x.data⟩) hok.rise (other j w (by omega) hw2)]
    exact i2.wait j w (by omega) hw2 hwd
theorem wr_do {f : Fs} (hf : FsOK f) (hfi : IdsOK f) {want : List Ent} (hw : RightW want) : ∀ k, k ≤ want.length → (doF f (wrA f.es want k)).2 = 0 ∧ InWr f want k (doF f (wrA f.es want k)).1
  | 0, _ => by
    obtain ⟨i1, i2⟩ := mk_do hf hw want.length (Nat.le_refl _)
    refine ⟨i1, i2.want hw, fun w hw2 hwd => ?_, fun j w hj => absurd hj (Nat.not_lt_zero _), fun x hx => ⟨x, i2.all x hx, rfl, rfl, rfl⟩, fun j w _ hw2 hwd => ?_⟩
    · obtain ⟨j, hj⟩ := List.mem_iff_getElem?.1 hw2
      obtain ⟨e, he, h1, _⟩ := i2.got j w (List.getElem?_eq_some_iff.1 hj).1 hj hwd
      exact ⟨e, he, h1⟩
    · have hwm := List.mem_of_getElem? hw2
      show findE (doF f (mkA f.es want want.length)).1.es w.path = _
      cases h1 : findE (stayF f want).es w.path with
      | some y =>
        obtain ⟨hy, e⟩ := find_some h1
        rw [← e]
        exact find_of (ok_do _ hf).rise (i2.all y hy)
      | none =>
        refine find_isNone fun e he h2 => ?_
        rcases i2.src e he with h3 | ⟨j', w', _, h3, h4, h5, _⟩
        · exact find_none h1 e h3 h2
        · rw [rising_one hw.ok.rise (List.mem_of_getElem? h3) hwm (h5.symm.trans h2), hwd] at h4
          cases h4
  | k + 1, hk => by
    obtain ⟨i1, i2⟩ := wr_do hf hfi hw k (by omega)
    have hx : want[k]? = some want[k] := List.getElem?_eq_getElem (by omega)
    generalize want[k] = x at hx
    have hxm := List.mem_of_getElem? hx
    have hok := ok_do (wrA f.es want k) hf
    have hids := ids_do (wrA f.es want k) hfi
    rw [wrA_step hx]
    have keep : (∃ e ∈ (doF f (wrA f.es want k)).1.es, e.path = x.path ∧ e.dir = x.dir ∧ e.data = x.data) → InWr f want (k + 1) (doF f (wrA f.es want k)).1 := fun h => by
      refine ⟨i2.src, i2.dirs, fun j w hj hw2 => ?_, i2.kept, fun j w hj => i2.wait j w (by omega)⟩
      by_cases hjk : j = k
      · rw [hjk, hx] at hw2
        rw [← Option.some.inj hw2]
        exact h
      · exact i2.got j w (by omega) hw2
    have isdir : ∀ e ∈ (doF f (wrA f.es want k)).1.es, e.path = x.path → e.dir = x.dir := fun e he h1 => by
      obtain ⟨w, hw2, h2, h3⟩ := i2.src e he
      rw [← h3, rising_one hw.ok.rise hw2 hxm (h2.trans h1)]
    by_cases hd : x.dir = true
    · rw [if_neg (by unfold wrB; rw [hd]; simp)]
      refine ⟨i1, keep ?_⟩
      obtain ⟨e, he, h1⟩ := i2.dirs x hxm hd
      have h2 := isdir e he h1
      exact ⟨e, he, h1, h2, by rw [hids.bare e he (h2.trans hd), hw.bare x hxm hd]⟩
    · have hd := bool_f hd
      have hwait := i2.wait k x (Nat.le_refl _) hx hd
      cases hb : wrB f.es want x with
      | false =>
        rw [if_neg (by simp)]
        unfold wrB at hb
        rw [hd, there_iff f] at hb
        cases ht : findE (stayF f want).es x.path with
        | none => rw [ht] at hb; cases hb
        | some y =>
          rw [ht] at hb hwait
          obtain ⟨h1, h2⟩ := find_some hwait
          have h3 : y.data = x.data := by
            have h4 : decide (¬ y.data = x.data) = false := by simpa using hb
            exact Classical.not_not.1 (of_decide_eq_false h4)
          exact ⟨i1, keep ⟨y, h1, h2, isdir y h1 h2, h3⟩⟩
      | true =>
        rw [if_pos rfl, do_snoc _ _ _ i1, act_3 rfl]
        have hlen := len_want hok i2.src
        have hl := hw.len
        have hdirs := i2.dirs
        generalize (doF f (wrA f.es want k)).1 = u at *
        show (writeF u x.path x.data).2 = 0 ∧ InWr f want (k + 1) (writeF u x.path x.data).1
        unfold writeF
        rw [if_neg (by rw [hw.ok.path x hxm]; simp), if_neg (by have := hw.data x hxm; omega)]
        cases ht : findE (stayF f want).es x.path with
        | none =>
          rw [ht] at hwait
          rw [hwait]
          dsimp only
          unfold madeF
          rw [if_neg (by
            show ¬ standsE u.es x.path = false
            rw [stands_want hok hw hx fun j y _ hy hyd => by
              obtain ⟨e, he, h1⟩ := hdirs y (List.mem_of_getElem? hy) hyd
              obtain ⟨w, hw2, h2, h3⟩ := i2.src e he
              exact ⟨e, he, h1, by rw [← h3, rising_one hw.ok.rise hw2 (List.mem_of_getElem? hy) (h2.trans h1)]; exact hyd⟩]
            simp), if_neg (by omega)]
          exact ⟨rfl, wr_put hw hok i2 hx hd _ _ fun y hy e => absurd e (find_none ht y hy)⟩
        | some y =>
          rw [ht] at hwait
          rw [hwait]
          obtain ⟨h1, h2⟩ := find_some hwait
          obtain ⟨h3, _⟩ := find_some ht
          have h4 : y.dir = false := (isdir y h1 h2).trans hd
          dsimp only
          rw [if_neg (by rw [h4]; simp), h2, h4]
          refine ⟨rfl, wr_put hw hok i2 hx hd _ _ fun z hz e => ?_⟩
          rw [rising_one (rising_filter hf.rise _) hz h3 (e.trans h2.symm)]
/-- An entry without its number. -/
def bareE (x : Ent) : Ent := ⟨x.path, 0, x.dir, x.data⟩
theorem rising_bare {l : List Ent} (h : Rising l) : Rising (l.map bareE) := List.pairwise_map.2 (h.imp fun hab => hab)
/-- **What a plan's acts make.** -/
theorem plan_makes {f : Fs} (hf : FsOK f) (hfi : IdsOK f) {want : List Ent} (hw : RightW want) : (doF f (planA f.es want)).2 = 0 ∧ (doF f (planA f.es want)).1.es.map bareE = want.map bareE ∧ (∀ x ∈ f.es, ∀ e ∈ (doF f (planA f.es want)).1.es, x.path = e.path → x.dir = e.dir → x.id = e.id) ∧ planA (doF f (planA f.es want)).1.es want = [] := by
  obtain ⟨i1, i2⟩ := wr_do hf hfi hw want.length (Nat.le_refl _)
  have hok := ok_do (wrA f.es want want.length) hf
  show (doF f (wrA f.es want want.length)).2 = 0 ∧ (doF f (wrA f.es want want.length)).1.es.map bareE = want.map bareE ∧ (∀ x ∈ f.es, ∀ e ∈ (doF f (wrA f.es want want.length)).1.es, x.path = e.path → x.dir = e.dir → x.id = e.id) ∧ planA (doF f (wrA f.es want want.length)).1.es want = []
  generalize (doF f (wrA f.es want want.length)).1 = u at *
  have got : ∀ w ∈ want, ∃ e ∈ u.es, e.path = w.path ∧ e.dir = w.dir ∧ e.data = w.data := fun w hw2 => by
    obtain ⟨j, hj⟩ := List.mem_iff_getElem?.1 hw2
    exact i2.got j w (List.getElem?_eq_some_iff.1 hj).1 hj
  have stays : ∀ e ∈ u.es, staysE e want = true := fun e he => (stays_iff hw.ok.rise).2 (i2.src e he)
  refine ⟨i1, ?_, fun x hx e he h1 h2 => ?_, ?_⟩
  · refine rising_ext (rising_bare hok.rise) (rising_bare hw.ok.rise) fun z => ?_
    constructor
    · intro hz
      obtain ⟨e, he, rfl⟩ := List.mem_map.1 hz
      obtain ⟨w, hw2, h1, h2⟩ := i2.src e he
      obtain ⟨e', he', h3, h4, h5⟩ := got w hw2
      refine List.mem_map.2 ⟨w, hw2, ?_⟩
      obtain rfl := rising_one hok.rise he' he (h3.trans h1)
      unfold bareE
      rw [h3, h4, h5]
    · intro hz
      obtain ⟨w, hw2, rfl⟩ := List.mem_map.1 hz
      obtain ⟨e', he', h3, h4, h5⟩ := got w hw2
      refine List.mem_map.2 ⟨e', he', ?_⟩
      unfold bareE
      rw [h3, h4, h5]
  · obtain ⟨w, hw2, h3, h4⟩ := i2.src e he
    have hs : x ∈ (stayF f want).es := List.mem_filter.2 ⟨hx, (stays_iff hw.ok.rise).2 ⟨w, hw2, h3.trans h1.symm, h4.trans h2.symm⟩⟩
    obtain ⟨e', he', h5, h6, _⟩ := i2.kept x hs
    rw [← h6, rising_one hok.rise he' he (h5.trans h1)]
  · have find : ∀ w ∈ want, ∃ e, thereE u.es want w.path = some e ∧ e.data = w.data := fun w hw2 => by
      obtain ⟨e, he, h3, h4, h5⟩ := got w hw2
      refine ⟨e, ?_, h5⟩
      rw [there_iff u, ← h3]
      exact find_of (rising_filter hok.rise _) (List.mem_filter.2 ⟨he, stays e he⟩)
    have p1 : ∀ k, remA u.es want k = [] := by
      intro k
      induction k with
      | zero => rfl
      | succ k ih =>
        unfold remA
        split
        · rename_i x hx
          rw [stays x (List.mem_of_getElem? hx), if_neg (by simp)]
          exact ih
        · exact ih
    have p2 : ∀ k, mkA u.es want k = [] := by
      intro k
      induction k with
      | zero => exact p1 _
      | succ k ih =>
        unfold mkA
        split
        · rename_i x hx
          obtain ⟨e, h1, _⟩ := find x (List.mem_of_getElem? hx)
          rw [h1, if_neg (by simp)]
          exact ih
        · exact ih
    have p3 : ∀ k, wrA u.es want k = [] := by
      intro k
      induction k with
      | zero => exact p2 _
      | succ k ih =>
        unfold wrA
        split
        · rename_i x hx
          obtain ⟨e, h1, h2⟩ := find x (List.mem_of_getElem? hx)
          rw [if_neg (by unfold wrB; rw [h1]; simp [h2])]
          exact ih
        · exact ih
    exact p3 _
end Go.Proofs.YtgjgeojhhglidaaDoor

namespace Go.Proofs.YtgjgeojhhglidaaDoor
open Go Go.RowKit Go.Lib

def atP (p : ByteArray) (a : Act3) : Bool := decide (a.path = p)
/-- How often a path is odd. -/
def oddP (now want : List Ent) (p : ByteArray) : Nat := match findE want p with
  | none => if (findE now p).isSome then 1 else 0
  | some w => match findE now p with
    | none => 1
    | some x => if x.dir = w.dir then (if x.data = w.data then 0 else 1) else 2
theorem count_steps {L : Nat → List Act3} {l : List Ent} (hr : Rising l) {c : Nat → Ent → Bool} {a : Ent → Act3} (ha : ∀ x, (a x).path = x.path) (hL : ∀ (k : Nat) (x : Ent), l[k]? = some x → L (k + 1) = if c k x then L k ++ [a x] else L k) (p : ByteArray) :
    ∀ k, k ≤ l.length → (L k).countP (atP p) ≤ (L 0).countP (atP p) + 1 ∧ ((∀ (j : Nat) (x : Ent), l[j]? = some x → x.path = p → c j x = false) → (L k).countP (atP p) = (L 0).countP (atP p)) ∧ ((∀ (j : Nat) (x : Ent), j < k → l[j]? = some x → x.path ≠ p) → (L k).countP (atP p) = (L 0).countP (atP p))
  | 0, _ => ⟨Nat.le_succ _, fun _ => rfl, fun _ => rfl⟩
  | k + 1, hk => by
    obtain ⟨i1, i2, i3⟩ := count_steps hr ha hL p k (by omega)
    have hx : l[k]? = some l[k] := List.getElem?_eq_getElem (by omega)
    generalize l[k] = x at hx
    have hs := hL k x hx
    by_cases hp : x.path = p
    · have h0 : (L k).countP (atP p) = (L 0).countP (atP p) := i3 fun j y hj hy e => by
        rw [rising_one hr (List.mem_of_getElem? hy) (List.mem_of_getElem? hx) (e.trans hp.symm)] at hy
        have := nodup_at (rising_nodup hr) hy hx
        omega
      refine ⟨?_, fun h => ?_, fun h => absurd hp (h k x (by omega) hx)⟩
      · rw [hs]
        split
        · rw [List.countP_append, h0, List.countP_cons, List.countP_nil]
          split <;> omega
        · omega
      · rw [hs, if_neg (by rw [h k x hx hp]; simp)]
        exact h0
    · have h1 : (L (k + 1)).countP (atP p) = (L k).countP (atP p) := by
        rw [hs]
        split
        · rw [List.countP_append, List.countP_cons, List.countP_nil, if_neg (by
            unfold atP
            rw [ha, decide_eq_true_eq]
            exact hp)]
          rfl
        · rfl
      rw [h1]
      exact ⟨i1, i2, fun h => i3 fun j y hj => h j y (by omega)⟩
theorem plan_count {f : Fs} (hf : FsOK f) {want : List Ent} (hw : RightW want) (p : ByteArray) : (planA f.es want).countP (atP p) ≤ oddP f.es want p := by
  obtain ⟨r1, r2, r3⟩ := count_steps hf.rise (L := remA f.es want) (c := fun k x => !staysE x want && !inB f.es want k x.path) (a := fun x => ⟨1, x.path, ⟨#[]⟩⟩) (fun _ => rfl) (fun k x h => remA_step h) p _ (Nat.le_refl _)
  obtain ⟨m1, m2, m3⟩ := count_steps hw.ok.rise (L := mkA f.es want) (c := fun k x => x.dir && !(thereE f.es want x.path).isSome) (a := fun x => ⟨2, x.path, ⟨#[]⟩⟩) (fun _ => rfl) (fun k x h => mkA_step h) p _ (Nat.le_refl _)
  obtain ⟨w1, w2, w3⟩ := count_steps hw.ok.rise (L := wrA f.es want) (c := fun k x => wrB f.es want x) (a := fun x => ⟨3, x.path, x.data⟩) (fun _ => rfl) (fun k x h => wrA_step h) p _ (Nat.le_refl _)
  have e1 : wrA f.es want 0 = mkA f.es want want.length := rfl
  have e2 : mkA f.es want 0 = remA f.es want f.es.length := rfl
  have e3 : (remA f.es want 0).countP (atP p) = 0 := rfl
  dsimp only at r1 r2 r3 m1 m2 m3 w1 w2 w3
  rw [e3] at r1 r2 r3
  rw [e2] at m1 m2 m3
  rw [e1] at w1 w2 w3
  show (wrA f.es want want.length).countP (atP p) ≤ _
  have rnone : findE f.es p = none → (remA f.es want f.es.length).countP (atP p) = 0 := fun h => r3 fun j x _ hx e => find_none h x (List.mem_of_getElem? hx) e
  unfold oddP
  cases h1 : findE want p with
  | none =>
    have hm := m3 fun j x _ hx e => find_none h1 x (List.mem_of_getElem? hx) e
    have hwr := w3 fun j x _ hx e => find_none h1 x (List.mem_of_getElem? hx) e
    dsimp only
    cases h2 : findE f.es p with
    | none =>
      rw [hwr, hm, rnone h2]
      exact Nat.zero_le _
    | some x =>
      rw [hwr, hm]
      exact r1
  | some w =>
    obtain ⟨hwm, hwp⟩ := find_some h1
    have only : ∀ (j : Nat) (x : Ent), want[j]? = some x → x.path = p → x = w := fun j x hx e => rising_one hw.ok.rise (List.mem_of_getElem? hx) hwm (e.trans hwp.symm)
    have hmw : (wrA f.es want want.length).countP (atP p) ≤ (remA f.es want f.es.length).countP (atP p) + 1 := by
      cases hd : w.dir with
      | true =>
        rw [w2 fun j x hx e => by
          rw [only j x hx e]
          unfold wrB
          rw [hd]
          rfl]
        exact m1
      | false =>
        rw [m2 fun j x hx e => by rw [only j x hx e, hd]; rfl] at w1
        exact w1
    dsimp only
    cases h2 : findE f.es p with
    | none =>
      have := rnone h2
      dsimp only
      omega
    | some x =>
      obtain ⟨hxm, hxp⟩ := find_some h2
      dsimp only
      by_cases hd : x.dir = w.dir
      · rw [if_pos hd]
        have hst : staysE x want = true := (stays_iff hw.ok.rise).2 ⟨w, hwm, hwp.trans hxp.symm, hd.symm⟩
        have hr0 := r2 fun j y hy e => by
          rw [rising_one hf.rise (List.mem_of_getElem? hy) hxm (e.trans hxp.symm), hst]
          rfl
        have hth : thereE f.es want p = some x := by
          rw [there_iff f, ← hxp]
          exact find_of (rising_filter hf.rise _) (List.mem_filter.2 ⟨hxm, hst⟩)
        have hm0 := m2 fun j y hy e => by
          rw [e, hth]
          simp
        split
        · rename_i hda
          rw [w2 fun j y hy e => by
            rw [only j y hy e]
            unfold wrB
            rw [hwp, hth]
            simp [hda], hm0, hr0]
          exact Nat.le_refl _
        · omega
      · rw [if_neg hd]
        omega
/-- At each act its path is odd still. -/
theorem plan_odd {f : Fs} (hf : FsOK f) {want : List Ent} (hw : RightW want) {k : Nat} {a : Act3} (h : (planA f.es want)[k]? = some a) : ((planA f.es want).take k).countP (atP a.path) + 1 ≤ oddP f.es want a.path := by
  refine Nat.le_trans ?_ (plan_count hf hw a.path)
  have h1 : ((planA f.es want).take (k + 1)).countP (atP a.path) ≤ (planA f.es want).countP (atP a.path) := List.Sublist.countP_le (List.take_sublist _ _)
  rw [List.take_add_one, h, Option.toList_some, List.countP_append, List.countP_cons, List.countP_nil, if_pos (by unfold atP; exact decide_eq_true rfl)] at h1
  omega
end Go.Proofs.YtgjgeojhhglidaaDoor

