/-
  What Diff says between two states of one file system: plain law. What Diff says behind a Write, and behind a Rename: plain law. What Diff says behind a Rename: plain law. played.
-/
import Derived.Test.YtgjgeojhhglidaaDoorFsX4
import Derived.Test.YtgjgeojhhglidaaDoorScanPure
import Derived.Test.YtgjgeojhhglidaaDoorFsX5
namespace Go.Proofs.YtgjgeojhhglidaaDoor
open Go Go.RowKit Go.Lib

/-! ### lists whose numbers are unlike -/
def UniqK (l : List KEnt) : Prop := ∀ (i j : Nat) (x y : KEnt), l[i]? = some x → l[j]? = some y → x.id = y.id → i = j
theorem first_at {l : List KEnt} (h : UniqK l) {k : Nat} {x : KEnt} (hx : l[k]? = some x) : l.findIdx? (fun y => decide (y.id = x.id)) = some k := by
  obtain ⟨hk, e⟩ := List.getElem?_eq_some_iff.1 hx
  rw [List.findIdx?_eq_some_iff_getElem]
  refine ⟨hk, by rw [e]; exact decide_eq_true rfl, fun j hj => ?_⟩
  intro hd
  have := h j k _ x (List.getElem?_eq_getElem (by omega)) hx (of_decide_eq_true hd)
  omega
theorem getK_of {l : List KEnt} (h : UniqK l) {x : KEnt} (hx : x ∈ l) : getK l x.id = some x := by
  obtain ⟨k, hk⟩ := List.mem_iff_getElem?.1 hx
  obtain ⟨y, hy, e⟩ := getK_idx (first_at h hk)
  rw [hk] at hy
  cases hy
  exact e
theorem madeK_uniq {old now : List KEnt} (h : UniqK now) : ∀ n, n ≤ now.length → madeK old now n = (now.take n).flatMap (chgsK old now)
  | 0, _ => rfl
  | n + 1, hn => by
    have hx : now[n]? = some now[n] := List.getElem?_eq_getElem (by omega)
    have e : madeK old now (n + 1) = madeK old now n ++ chgsK old now now[n] := by
      simp only [madeK, hx]
      exact if_pos (first_at h hx)
    rw [e, madeK_uniq h n (by omega), List.take_add_one, hx, List.flatMap_append, Option.toList_some, List.flatMap_cons, List.flatMap_nil, List.append_nil]
def dropQ (old now : List KEnt) (y : KEnt) : Bool := !keptK old now y.id && (decide ((splitK y.path).1 = ⟨#[]⟩) || atK old now (splitK y.path).1)
def dropC (y : KEnt) : Chg := ⟨4, y.id, y.path, y.dir, ⟨#[]⟩⟩
theorem diffK_uniq {old now : List KEnt} (h : UniqK old) : ∀ k, k ≤ old.length → diffK old now k = madeK old now now.length ++ ((old.take k).filter (dropQ old now)).map dropC
  | 0, _ => by simp [diffK]
  | k + 1, hk => by
    have hx : old[k]? = some old[k] := List.getElem?_eq_getElem (by omega)
    have hd : dropB old now k old[k] = dropQ old now old[k] := by
      unfold dropB dropQ
      rw [decide_eq_true (first_at h hx), Bool.true_and]
    have e : diffK old now (k + 1) = if dropQ old now old[k] then diffK old now k ++ [dropC old[k]] else diffK old now k := by
      rw [← hd]
      simp only [diffK, hx]
      rfl
    rw [e, diffK_uniq h k (by omega), List.take_add_one, hx, Option.toList_some, List.filter_append, List.filter_cons, List.filter_nil]
    split
    · rw [List.map_append, List.map_cons, List.map_nil, List.append_assoc]
    · rw [List.append_nil]
theorem scan_form {old : List KEnt} {nowE : List Ent} (ho : UniqK old) (hn : UniqK (nowE.map toK)) : scanK old nowE = (nowE.map toK).flatMap (chgsK old (nowE.map toK)) ++ (old.filter (dropQ old (nowE.map toK))).map dropC := by
  unfold scanK
  rw [diffK_uniq ho _ (Nat.le_refl _), madeK_uniq hn _ (Nat.le_refl _), List.take_length, List.take_length]
/-- A file system's entries, as they are known. -/
def knowF (f : Fs) : List KEnt := f.es.map toK
theorem know_uniq {f : Fs} (h : FsOK f) (hi : IdsOK f) : UniqK (knowF f) := by
  intro i j x y hx hy e
  unfold knowF at hx hy
  rw [List.getElem?_map] at hx hy
  obtain ⟨u, hu, rfl⟩ := Option.map_eq_some_iff.1 hx
  obtain ⟨v, hv, rfl⟩ := Option.map_eq_some_iff.1 hy
  have h1 := hi.one u (List.mem_of_getElem? hu) v (List.mem_of_getElem? hv) e
  rw [← h1] at hv
  exact nodup_at (rising_nodup h.rise) hu hv
theorem know_get {f : Fs} (h : FsOK f) (hi : IdsOK f) {x : Ent} (hx : x ∈ f.es) : getK (knowF f) x.id = some (toK x) := getK_of (know_uniq h hi) (List.mem_map.2 ⟨x, hx, rfl⟩)
theorem know_no {f : Fs} {c : Int} (h : ∀ x ∈ f.es, x.id ≠ c) : getK (knowF f) c = none := by
  unfold getK knowF
  rw [List.find?_eq_none]
  intro x hx
  obtain ⟨u, hu, rfl⟩ := List.mem_map.1 hx
  rw [decide_eq_true_eq]
  exact h u hu
theorem kept_both {f g : Fs} (hf : FsOK f) (hfi : IdsOK f) (hg : FsOK g) (hgi : IdsOK g) {x y : Ent} (hx : x ∈ f.es) (hy : y ∈ g.es) (e : y.id = x.id) (hd : y.dir = x.dir) : keptK (knowF f) (knowF g) x.id = true := by
  unfold keptK
  rw [know_get hf hfi hx, ← e, know_get hg hgi hy]
  show (x.dir == y.dir) = true
  rw [hd]
  exact beq_self_eq_true _

/-! ### a path's directory and its name -/
def nameE (p : ByteArray) : ByteArray := p.extract (slashI p + 1).toNat p.size
theorem split_E (p : ByteArray) : splitK p = (dirE p, nameE p) := by
  unfold splitK splitAtI dirE nameE slashI
  refine Prod.ext ?_ rfl
  show p.extract 0 (max (lastIndexByte p 47) 0).toNat = _
  split
  · rename_i h
    rw [show max (lastIndexByte p 47) 0 = 0 by omega]
    apply ByteArray.ext
    rw [ByteArray.data_extract]
    simp
  · rename_i h
    rw [show max (lastIndexByte p 47) 0 = lastIndexByte p 47 by omega]
theorem ext_tail (p : ByteArray) (k : Nat) : (p.extract k p.size).data.toList = p.data.toList.drop k := by
  rw [ByteArray.data_extract]
  simp only [Array.toList_extract]
  rw [List.extract_eq_take_drop, List.take_of_length_le (by rw [List.length_drop, ← size_eq]; omega)]
theorem drop_tail (a n : List UInt8) (c : UInt8) : (a ++ c :: n).drop (a.length + 1) = n := by simp
theorem path_split {p : ByteArray} (hr : rightsL p.data.toList = true) : (dirE p = ⟨#[]⟩ ∧ p = nameE p ∧ ∀ x ∈ p.data.toList, x ≠ 47) ∨ (dirE p ≠ ⟨#[]⟩ ∧ p.data.toList = (dirE p).data.toList ++ 47 :: (nameE p).data.toList ∧ ∀ x ∈ (nameE p).data.toList, x ≠ 47) := by
  rcases slash_spec p with ⟨h1, h2⟩ | ⟨a, b, h1, h2, h3⟩
  · refine .inl ⟨if_pos h1, ?_, h2⟩
    rw [← pB_inj]
    unfold nameE
    rw [ext_tail, show (slashI p + 1).toNat = 0 by
      have : slashI p = -1 := by
        rcases lastIndexByte_spec p 47 with ⟨e, _⟩ | ⟨i, _, e, _⟩
        · exact e
        · have h5 : slashI p = (i : Int) := e
          omega
      omega, List.drop_zero]
  · have h4 := dir_list h1 h3
    have h5 : dirE p = p.extract 0 (slashI p).toNat := if_neg (by omega)
    rw [← h5] at h4
    have h6 : (nameE p).data.toList = b := by
      unfold nameE
      rw [ext_tail, h3, show ((a.length : Nat) : Int) + 1 = ((a.length + 1 : Nat) : Int) by omega, Int.toNat_natCast, h1]
      simp
    refine .inr ⟨fun e => ?_, by rw [h4, h6]; exact h1, by rw [h6]; exact h2⟩
    rw [e] at h4
    have h7 : a = [] := h4.symm
    rw [h1, h7, rights_join, rights_nil, Bool.false_and] at hr
    cases hr
theorem dir_of {p d : ByteArray} {n : List UInt8} (h : p.data.toList = d.data.toList ++ 47 :: n) (hn : ∀ x ∈ n, x ≠ 47) : dirE p = d ∧ (nameE p).data.toList = n := by
  have h1 := slash_split h hn
  constructor
  · rw [← pB_inj, show dirE p = p.extract 0 (slashI p).toNat from if_neg (by omega)]
    exact dir_list h h1
  · unfold nameE
    rw [ext_tail, h1, show ((d.data.toList.length : Nat) : Int) + 1 = ((d.data.toList.length + 1 : Nat) : Int) by omega, Int.toNat_natCast, h]
    exact drop_tail _ _ _
theorem path_same {p q : ByteArray} (hp : rightsL p.data.toList = true) (hq : rightsL q.data.toList = true) (h1 : dirE p = dirE q) (h2 : nameE p = nameE q) : p = q := by
  rcases path_split hp with ⟨a1, a2, _⟩ | ⟨a1, a2, _⟩ <;> rcases path_split hq with ⟨b1, b2, _⟩ | ⟨b1, b2, _⟩
  · rw [a2, b2, h2]
  · exact absurd (h1.symm.trans a1) b1
  · exact absurd (h1.trans b1) a1
  · rw [← pB_inj, a2, b2, h1, h2]
/-- The number of an entry's directory, and its name. -/
def seatF (es : List Ent) (p : ByteArray) : Int × ByteArray := if dirE p = ⟨#[]⟩ then (0, nameE p) else (((findE es (dirE p)).map (·.id)).getD 0, nameE p)
theorem seat_F (f : Fs) (x : Ent) : seatK (knowF f) (toK x) = seatF f.es x.path := by
  unfold seatK seatF
  show (if (splitK x.path).1 = ⟨#[]⟩ then _ else _) = _
  rw [split_E]
  dsimp only
  split
  · rfl
  · congr 1
    unfold knowF
    rw [List.find?_map]
    have e1 : List.find? ((fun y : KEnt => decide (y.path = (splitK (toK x).path).1)) ∘ toK) f.es = findE f.es (dirE x.path) := by
      unfold findE
      congr 1
      funext u
      show decide (u.path = (splitK x.path).1) = _
      rw [split_E]
    rw [e1]
    cases findE f.es (dirE x.path) <;> rfl
theorem up_there {f : Fs} (h : FsOK f) {x : Ent} (hx : x ∈ f.es) (hd : dirE x.path ≠ ⟨#[]⟩) : ∃ u ∈ f.es, u.path = dirE x.path ∧ u.dir = true := by
  have h1 := (stands_of h.rise).1 (h.up x hx)
  unfold dirE at *
  split
  · rename_i h2
    rw [if_pos h2] at hd
    exact absurd rfl hd
  · rename_i h2
    exact h1.resolve_left h2
theorem seat_up {f : Fs} (h : FsOK f) {x u : Ent} (hd : dirE x.path ≠ ⟨#[]⟩) (hu : u ∈ f.es) (e : u.path = dirE x.path) : seatF f.es x.path = (u.id, nameE x.path) := by
  unfold seatF
  rw [if_neg hd, ← e, find_of h.rise hu]
  rfl
/-- What Diff says of an entry that stayed. -/
theorem chgs_kept {f g : Fs} (hf : FsOK f) (hfi : IdsOK f) (hg : FsOK g) (hgi : IdsOK g) {x y : Ent} (hx : x ∈ f.es) (hy : y ∈ g.es) (e : y.id = x.id) (hd : y.dir = x.dir) :
    chgsK (knowF f) (knowF g) (toK y) = (if seatF f.es x.path ≠ seatF g.es y.path then [⟨2, y.id, y.path, y.dir, ⟨#[]⟩⟩] else []) ++ (if !y.dir && decide (y.data ≠ x.data) then [⟨3, y.id, y.path, false, y.data⟩] else []) := by
  have hk := kept_both hf hfi hg hgi hx hy e hd
  unfold chgsK
  show (if (!keptK (knowF f) (knowF g) y.id) = true then _ else _) = _
  have hk2 : keptK (knowF f) (knowF g) y.id = true := by rw [e]; exact hk
  rw [hk2, if_neg (by simp)]
  have h1 : getK (knowF f) (toK y).id = some (toK x) := by
    show getK (knowF f) y.id = _
    rw [e, know_get hf hfi hx]
  rw [h1]
  dsimp only [Option.getD_some]
  rw [seat_F, seat_F]
  have h3 : (((seatF f.es x.path).1 ≠ (seatF g.es y.path).1 ∨ (seatF f.es x.path).2 ≠ (seatF g.es y.path).2) ↔ seatF f.es x.path ≠ seatF g.es y.path) := by
    constructor
    · rintro (h | h) e2
      · exact h (by rw [e2])
      · exact h (by rw [e2])
    · intro h
      by_cases h1 : (seatF f.es x.path).1 = (seatF g.es y.path).1
      · exact .inr fun h2 => h (Prod.ext h1 h2)
      · exact .inl h1
  congr 1
  by_cases hs : seatF f.es x.path = seatF g.es y.path
  · rw [if_neg (fun h => h3.1 h hs), if_neg (fun h => h hs)]
  · rw [if_pos (h3.2 hs), if_pos hs]
    rfl
end Go.Proofs.YtgjgeojhhglidaaDoor

namespace Go.Proofs.YtgjgeojhhglidaaDoor
open Go Go.RowKit Go.Lib

theorem none_flat {l : List Ent} {g : Ent → List Chg} (h : ∀ y ∈ l, g y = []) : l.flatMap g = [] := List.flatMap_eq_nil_iff.2 h
theorem sole_flat {g : Ent → List Chg} {z : Ent} : ∀ {l : List Ent}, z ∈ l → l.Nodup → (∀ y ∈ l, y ≠ z → g y = []) → l.flatMap g = g z
  | y :: r, hz, hnd, h => by
    obtain ⟨h1, h2⟩ := List.nodup_cons.1 hnd
    rw [List.flatMap_cons]
    by_cases e : y = z
    · subst e
      rw [none_flat fun v hv => h v (List.mem_cons_of_mem _ hv) (fun e => h1 (e ▸ hv)), List.append_nil]
    · rw [h y List.mem_cons_self e, List.nil_append]
      exact sole_flat ((List.mem_cons.1 hz).resolve_left (fun e2 => e e2.symm)) h2 (fun v hv => h v (List.mem_cons_of_mem _ hv))
theorem scan_F {f g : Fs} (hf : FsOK f) (hfi : IdsOK f) (hg : FsOK g) (hgi : IdsOK g) (hk : ∀ x ∈ f.es, ∃ y ∈ g.es, y.id = x.id ∧ y.dir = x.dir) : scanK (knowF f) g.es = g.es.flatMap fun y => chgsK (knowF f) (knowF g) (toK y) := by
  rw [scan_form (know_uniq hf hfi) (know_uniq hg hgi)]
  have h1 : (knowF f).filter (dropQ (knowF f) (g.es.map toK)) = [] := by
    refine List.filter_eq_nil_iff.2 fun x hx => ?_
    obtain ⟨u, hu, rfl⟩ := List.mem_map.1 hx
    obtain ⟨y, hy, e1, e2⟩ := hk u hu
    have h2 := kept_both hf hfi hg hgi hu hy e1 e2
    unfold dropQ
    show ¬ (!keptK (knowF f) (knowF g) u.id && _) = true
    rw [h2]
    simp
  rw [h1, List.map_nil, List.append_nil, List.flatMap_map]
  rfl
theorem scan_same {f : Fs} (hf : FsOK f) (hfi : IdsOK f) : scanK (knowF f) f.es = [] := by
  rw [scan_F hf hfi hf hfi fun x hx => ⟨x, hx, rfl, rfl⟩]
  refine none_flat fun y hy => ?_
  rw [chgs_kept hf hfi hf hfi hy hy rfl rfl]
  simp
/-- Two states in which an entry's directory has one number give it one seat. -/
theorem seat_eq {f g : Fs} (hf : FsOK f) (hg : FsOK g) {x : Ent} (hx : x ∈ f.es) (h : ∀ u ∈ f.es, u.dir = true → u.path = dirE x.path → ∃ v ∈ g.es, v.path = u.path ∧ v.id = u.id) : seatF f.es x.path = seatF g.es x.path := by
  by_cases hd : dirE x.path = ⟨#[]⟩
  · unfold seatF
    rw [if_pos hd, if_pos hd]
  · obtain ⟨u, hu, e, hu2⟩ := up_there hf hx hd
    obtain ⟨v, hv, e1, e2⟩ := h u hu hu2 e
    rw [seat_up hf hd hu e]
    unfold seatF
    rw [if_neg hd, ← e, ← e1, find_of hg.rise hv]
    show _ = (v.id, _)
    rw [e2]

/-! ### a Write -/
theorem write_cases (f : Fs) (p d : ByteArray) : (writeF f p d).1 = f ∨ (findE f.es p = none ∧ (writeF f p d).1 = ⟨f.n + 1, putE f.es ⟨p, (f.n : Int) + 1, false, d⟩⟩) ∨ ∃ x ∈ f.es, x.path = p ∧ x.dir = false ∧ (writeF f p d).1 = ⟨f.n, putE f.es ⟨p, x.id, false, d⟩⟩ := by
  unfold writeF
  split
  · exact .inl rfl
  split
  · exact .inl rfl
  split
  · rename_i hf
    unfold madeF
    split
    · exact .inl rfl
    split
    · exact .inl rfl
    exact .inr (.inl ⟨hf, rfl⟩)
  · rename_i x hf
    obtain ⟨hx, e⟩ := find_some hf
    split
    · exact .inl rfl
    · rename_i hd
      refine .inr (.inr ⟨x, hx, e, bool_f hd, ?_⟩)
      show (⟨f.n, putE f.es ⟨x.path, x.id, x.dir, d⟩⟩ : Fs) = _
      rw [e, bool_f hd]
theorem scan_made {f : Fs} (hf : FsOK f) (hfi : IdsOK f) {p d : ByteArray} (hn : findE f.es p = none) (hr : (writeF f p d).1 = ⟨f.n + 1, putE f.es ⟨p, (f.n : Int) + 1, false, d⟩⟩) :
    scanK (knowF f) (writeF f p d).1.es = [⟨1, (f.n : Int) + 1, p, false, d⟩] := by
  have hg := ok_write hf p d
  have hgi := (step_op hfi ⟨1, p, p, d⟩).ids
  have e1 : opF f ⟨1, p, p, d⟩ = writeF f p d := rfl
  rw [e1] at hgi
  rw [hr] at hg hgi ⊢
  have hkeep : ∀ x ∈ f.es, x ∈ putE f.es ⟨p, (f.n : Int) + 1, false, d⟩ := fun x hx => mem_putE.2 (.inr ⟨hx, find_none hn x hx⟩)
  rw [scan_F hf hfi hg hgi fun x hx => ⟨x, hkeep x hx, rfl, rfl⟩]
  rw [sole_flat (z := ⟨p, (f.n : Int) + 1, false, d⟩) (mem_putE.2 (.inl rfl)) (rising_nodup hg.rise) fun y hy hne => ?_]
  · unfold chgsK
    have h1 : getK (knowF f) ((f.n : Int) + 1) = none := know_no fun x hx e => by
      have := (hfi.low x hx).2
      omega
    have h2 : keptK (knowF f) (knowF ⟨f.n + 1, putE f.es ⟨p, (f.n : Int) + 1, false, d⟩⟩) ((f.n : Int) + 1) = false := by
      unfold keptK
      rw [h1]
    show (if (!keptK (knowF f) _ ((f.n : Int) + 1)) = true then _ else _) = _
    rw [h2, if_pos (show (!false) = true from rfl)]
    rfl
  · have hy2 : y ∈ f.es := by
      rcases mem_putE.1 hy with h | ⟨h, _⟩
      · exact absurd h hne
      · exact h
    rw [chgs_kept hf hfi hg hgi hy2 hy rfl rfl, seat_eq hf hg hy2 fun u hu _ _ => ⟨u, hkeep u hu, rfl, rfl⟩]
    simp
theorem scan_edit {f : Fs} (hf : FsOK f) (hfi : IdsOK f) {p d : ByteArray} {x : Ent} (hx : x ∈ f.es) (hp : x.path = p) (hd : x.dir = false) (hr : (writeF f p d).1 = ⟨f.n, putE f.es ⟨p, x.id, false, d⟩⟩) (hne : d ≠ x.data) :
    scanK (knowF f) (writeF f p d).1.es = [⟨3, x.id, p, false, d⟩] := by
  have hg := ok_write hf p d
  have hgi := (step_op hfi ⟨1, p, p, d⟩).ids
  have e1 : opF f ⟨1, p, p, d⟩ = writeF f p d := rfl
  rw [e1] at hgi
  rw [hr] at hg hgi ⊢
  have hz : (⟨p, x.id, false, d⟩ : Ent) ∈ putE f.es ⟨p, x.id, false, d⟩ := mem_putE.2 (.inl rfl)
  have hkeep : ∀ u ∈ f.es, u.path ≠ p → u ∈ putE f.es ⟨p, x.id, false, d⟩ := fun u hu h => mem_putE.2 (.inr ⟨hu, h⟩)
  have hup : ∀ u ∈ f.es, u.dir = true → ∃ v ∈ putE f.es ⟨p, x.id, false, d⟩, v.path = u.path ∧ v.id = u.id := fun u hu hud => ⟨u, hkeep u hu (fun e => by
    have := rising_one hf.rise hu hx (e.trans hp.symm)
    rw [this, hd] at hud
    cases hud), rfl, rfl⟩
  rw [scan_F hf hfi hg hgi fun u hu => by
    by_cases e : u.path = p
    · have := rising_one hf.rise hu hx (e.trans hp.symm)
      rw [this]
      exact ⟨_, hz, rfl, hd.symm⟩
    · exact ⟨u, hkeep u hu e, rfl, rfl⟩]
  rw [sole_flat (z := ⟨p, x.id, false, d⟩) hz (rising_nodup hg.rise) fun y hy hne => ?_]
  · rw [chgs_kept hf hfi hg hgi hx hz rfl hd.symm]
    have h1 : seatF f.es x.path = seatF (putE f.es ⟨p, x.id, false, d⟩) x.path := seat_eq (g := ⟨f.n, putE f.es ⟨p, x.id, false, d⟩⟩) hf hg hx fun u hu hud _ => hup u hu hud
    rw [hp] at h1
    rw [hp]
    show (if seatF f.es p ≠ seatF (putE f.es ⟨p, x.id, false, d⟩) p then _ else _) ++ _ = _
    rw [h1, if_neg (fun h => h rfl)]
    simp [hne]
  · have hy2 : y ∈ f.es := by
      rcases mem_putE.1 hy with h | ⟨h, _⟩
      · exact absurd h hne
      · exact h
    rw [chgs_kept hf hfi hg hgi hy2 hy rfl rfl, seat_eq hf hg hy2 fun u hu hud _ => hup u hu hud]
    simp
theorem del_len : ∀ {es : List Ent} {x : Ent}, Rising es → x ∈ es → (delE es x.path).length + 1 = es.length
  | z :: r, x, hr, hx => by
    obtain ⟨h1, h2⟩ := List.pairwise_cons.1 hr
    by_cases e : x = z
    · subst e
      have h3 : delE (x :: r) x.path = r := by
        show List.filter _ (x :: r) = r
        rw [List.filter_cons_of_neg (by simp)]
        refine List.filter_eq_self.2 fun v hv => ?_
        have := befE_ne (h1 v hv)
        simp only [Bool.not_eq_true', decide_eq_false_iff_not]
        exact fun h => this h.symm
      rw [h3]
      rfl
    · have hxr := (List.mem_cons.1 hx).resolve_left e
      have h3 : delE (z :: r) x.path = z :: delE r x.path := by
        show List.filter _ (z :: r) = _
        rw [List.filter_cons_of_pos (by simp only [Bool.not_eq_true', decide_eq_false_iff_not]; exact befE_ne (h1 x hxr))]
        rfl
      rw [h3, List.length_cons, List.length_cons, del_len h2 hxr]
theorem write_back {f : Fs} (hf : FsOK f) {x : Ent} (hx : x ∈ f.es) (hd : x.dir = false) : putE f.es ⟨x.path, x.id, false, x.data⟩ = f.es := by
  have e : (⟨x.path, x.id, false, x.data⟩ : Ent) = x := by
    rw [← hd]
  rw [e]
  refine rising_ext (rising_put hf.rise x) hf.rise fun z => ?_
  rw [mem_putE]
  constructor
  · rintro (rfl | ⟨h, _⟩)
    · exact hx
    · exact h
  · intro h
    by_cases e : z.path = x.path
    · exact .inl (rising_one hf.rise h hx e)
    · exact .inr ⟨h, e⟩
/-- **Behind a Write.** -/
theorem scan_write {f : Fs} (hf : FsOK f) (hfi : IdsOK f) (p d : ByteArray) :
    ((writeF f p d).1.es = f.es ∧ scanK (knowF f) (writeF f p d).1.es = []) ∨
    ((writeF f p d).1.es.length = f.es.length + 1 ∧ ∃ i, scanK (knowF f) (writeF f p d).1.es = [⟨1, i, p, false, d⟩]) ∨
    ((writeF f p d).1.es.length = f.es.length ∧ (writeF f p d).1.es ≠ f.es ∧ ∃ i, scanK (knowF f) (writeF f p d).1.es = [⟨3, i, p, false, d⟩]) := by
  rcases write_cases f p d with h | ⟨hn, h⟩ | ⟨x, hx, hp, hd, h⟩
  · rw [h]
    exact .inl ⟨rfl, scan_same hf hfi⟩
  · refine .inr (.inl ⟨?_, _, scan_made hf hfi hn h⟩)
    rw [h]
    exact len_put_new (x := ⟨p, (f.n : Int) + 1, false, d⟩) hn
  · by_cases hne : d = x.data
    · have h2 : (writeF f p d).1 = f := by
        rw [h, hne, ← hp, write_back hf hx hd]
      rw [h2]
      exact .inl ⟨rfl, scan_same hf hfi⟩
    · refine .inr (.inr ⟨?_, ?_, _, scan_edit hf hfi hx hp hd h hne⟩)
      · rw [h]
        show (insE _ (delE f.es p)).length = _
        rw [len_ins, ← hp, del_len hf.rise hx]
      · rw [h]
        intro e
        have h3 : (⟨p, x.id, false, d⟩ : Ent) ∈ f.es := by
          rw [← e]
          exact mem_putE.2 (.inl rfl)
        have h4 := rising_one hf.rise h3 hx hp.symm
        have h5 := congrArg Ent.data h4
        exact hne h5
end Go.Proofs.YtgjgeojhhglidaaDoor

namespace Go.Proofs.YtgjgeojhhglidaaDoor
open Go Go.RowKit Go.Lib

theorem seat_of {f : Fs} (h : FsOK f) {p : ByteArray} {u : Ent} (hd : dirE p ≠ ⟨#[]⟩) (hu : u ∈ f.es) (e : u.path = dirE p) : seatF f.es p = (u.id, nameE p) := by
  unfold seatF
  rw [if_neg hd, ← e, find_of h.rise hu]
  rfl
/-- The directory of what stands in a directory stands in it, or is it. -/
theorem in_dir {a d : ByteArray} {q : List UInt8} {n r : List UInt8} (h1 : q = a.data.toList ++ 47 :: r) (h2 : q = d.data.toList ++ 47 :: n) (hn : ∀ x ∈ n, x ≠ 47) (hd : rightsL d.data.toList = true) : inE a d = true ∧ ∃ t, d.data.toList = a.data.toList ++ t ∧ 47 :: r = t ++ 47 :: n := by
  have h3 : a.data.toList ++ 47 :: r = d.data.toList ++ 47 :: n := h1.symm.trans h2
  rcases List.append_eq_append_iff.1 h3 with ⟨u, h5, h6⟩ | ⟨u, h5, h6⟩
  · refine ⟨?_, u, h5, h6⟩
    cases u with
    | nil => exact inE_iff.2 (.inl (pB_inj.1 (by simpa using h5)))
    | cons v u =>
      simp only [List.cons_append, List.cons.injEq] at h6
      obtain ⟨rfl, h6⟩ := h6
      refine inE_iff.2 (.inr ⟨u, ?_, h5⟩)
      rintro rfl
      rw [h5, rights_join, Bool.and_eq_true] at hd
      exact absurd rfl (rights_ne hd.2)
  · cases u with
    | nil => exact ⟨inE_iff.2 (.inl (pB_inj.1 (by simpa using h5.symm))), [], by simpa using h5.symm, by simpa using h6.symm⟩
    | cons v u =>
      simp only [List.cons_append, List.cons.injEq] at h6
      exact absurd rfl (hn 47 (by rw [h6.2]; simp))
theorem seat_moved {f : Fs} (hf : FsOK f) {a b : ByteArray} (hm : MayRen f a b) {y : Ent} (hy : y ∈ f.es) (hya : y.path ≠ a) : seatF f.es y.path = seatF (renameF f a b).1.es (movE a b y).path := by
  have hg := ok_rename hf a b
  cases hi : inE a y.path with
  | false =>
    rw [movE_out hi]
    refine seat_eq hf hg hy fun u hu _ e => ⟨u, (mem_ren hm).2 ⟨u, hu, (movE_out ?_).symm⟩, rfl, rfl⟩
    refine bool_f fun e2 => ?_
    rcases path_split (path_rights (hf.path y hy)) with ⟨h1, _, _⟩ | ⟨_, h2, h3⟩
    · rw [h1] at e
      have := path_rights (hf.path u hu)
      rw [e] at this
      exact absurd rfl (rights_ne this)
    · rw [← e] at h2
      rw [in_up (path_rights (hf.path y hy)) h2 e2] at hi
      cases hi
  | true =>
    rw [movE_in hi]
    show _ = seatF (renameF f a b).1.es (newP a b y.path)
    rcases inE_iff.1 hi with e | ⟨r, hr, e⟩
    · exact absurd e hya
    rcases path_split (path_rights (hf.path y hy)) with ⟨_, _, h3⟩ | ⟨h1, h2, h3⟩
    · exact absurd rfl (h3 47 (by rw [e]; simp))
    obtain ⟨u, hu, hup, hud⟩ := up_there hf hy h1
    rw [← hup] at h2
    obtain ⟨h4, t, h5, h6⟩ := in_dir e h2 h3 (path_rights (hf.path u hu))
    have h7 : (newP a b y.path).data.toList = (newP a b u.path).data.toList ++ 47 :: (nameE y.path).data.toList := by
      rw [newP_tail (b := b) e, newP_tail (b := b) h5, List.append_assoc, h6]
    obtain ⟨h8, h9⟩ := dir_of h7 h3
    have hv : movE a b u ∈ (renameF f a b).1.es := (mem_ren hm).2 ⟨u, hu, rfl⟩
    have hvp : (movE a b u).path = dirE (newP a b y.path) := by
      rw [movE_in h4, h8]
    have hne : dirE (newP a b y.path) ≠ ⟨#[]⟩ := fun e2 => by
      have := path_rights (hg.path _ hv)
      rw [hvp, e2] at this
      exact absurd rfl (rights_ne this)
    rw [seat_up hf h1 hu hup, seat_of hg hne hv hvp, (mov_id a b u).1, pB_inj.1 h9]
theorem seat_new {f : Fs} (hf : FsOK f) (hfi : IdsOK f) {a b : ByteArray} (hm : MayRen f a b) {x : Ent} (hx : x ∈ f.es) (hxa : x.path = a) : seatF f.es a ≠ seatF (renameF f a b).1.es b := by
  intro e
  have hg := ok_rename hf a b
  have hgi : IdsOK (renameF f a b).1 := (step_op hfi ⟨2, a, b, a⟩).ids
  have hz : movE a b x ∈ (renameF f a b).1.es := (mem_ren hm).2 ⟨x, hx, rfl⟩
  have hzb : (movE a b x).path = b := by
    rw [movE_in (by rw [hxa]; exact in_self a)]
    show newP a b x.path = b
    rw [hxa, new_self]
  have hra : rightsL a.data.toList = true := by rw [← hxa]; exact path_rights (hf.path x hx)
  have hrb : rightsL b.data.toList = true := path_rights hm.path
  have hab : a ≠ b := fun e2 => find_none hm.free x hx (hxa.trans e2)
  by_cases ha : dirE a = ⟨#[]⟩
  · by_cases hb : dirE b = ⟨#[]⟩
    · unfold seatF at e
      rw [if_pos ha, if_pos hb] at e
      exact hab (path_same hra hrb (ha.trans hb.symm) (congrArg Prod.snd e))
    · obtain ⟨v, hv, hvp, _⟩ := up_there hg hz (by rw [hzb]; exact hb)
      rw [hzb] at hvp
      rw [seat_of hg hb hv hvp] at e
      unfold seatF at e
      rw [if_pos ha] at e
      have h1 : 0 = v.id := congrArg Prod.fst e
      have := (hgi.low v hv).1
      omega
  · obtain ⟨u, hu, hup, _⟩ := up_there hf hx (by rw [hxa]; exact ha)
    rw [hxa] at hup
    rw [seat_of hf ha hu hup] at e
    by_cases hb : dirE b = ⟨#[]⟩
    · unfold seatF at e
      rw [if_pos hb] at e
      have h1 : u.id = 0 := congrArg Prod.fst e
      have := (hfi.low u hu).1
      omega
    · obtain ⟨v, hv, hvp, _⟩ := up_there hg hz (by rw [hzb]; exact hb)
      rw [hzb] at hvp
      rw [seat_of hg hb hv hvp] at e
      obtain ⟨v0, hv0, rfl⟩ := (mem_ren hm).1 hv
      have h1 : u.id = (movE a b v0).id := congrArg Prod.fst e
      rw [(mov_id a b v0).1] at h1
      have h2 := hfi.one u hu v0 hv0 h1
      subst h2
      have h3 : inE a u.path = false := bool_f fun e2 => by
        obtain ⟨t, _, e3⟩ := in_tail.1 e2
        rcases path_split hra with ⟨h4, _, _⟩ | ⟨_, h4, _⟩
        · exact ha h4
        · rw [← hup, e3] at h4
          have := congrArg List.length h4
          simp only [List.length_append, List.length_cons] at this
          omega
      rw [movE_out h3] at hvp
      exact hab (path_same hra hrb (hup.symm.trans hvp) (congrArg Prod.snd e))
/-- **Behind a Rename.** -/
theorem scan_rename {f : Fs} (hf : FsOK f) (hfi : IdsOK f) (a b : ByteArray) :
    ((renameF f a b).1.es = f.es ∧ scanK (knowF f) (renameF f a b).1.es = []) ∨
    ((renameF f a b).1.es ≠ f.es ∧ ∃ i d, scanK (knowF f) (renameF f a b).1.es = [⟨2, i, b, d, ⟨#[]⟩⟩]) := by
  rcases rename_may (f := f) (a := a) (b := b) with ⟨e, _, h⟩ | hm
  · rw [h]
    exact .inl ⟨rfl, scan_same hf hfi⟩
  refine .inr ⟨fun e => ?_, ?_⟩
  · have h1 := ren_there hf hm
    rw [e, hm.free] at h1
    cases h1
  have hg := ok_rename hf a b
  have hgi : IdsOK (renameF f a b).1 := (step_op hfi ⟨2, a, b, a⟩).ids
  obtain ⟨x, hx0⟩ := hm.there
  obtain ⟨hx, hxa⟩ := find_some hx0
  have hz : movE a b x ∈ (renameF f a b).1.es := (mem_ren hm).2 ⟨x, hx, rfl⟩
  have hzb : (movE a b x).path = b := by
    rw [movE_in (by rw [hxa]; exact in_self a)]
    show newP a b x.path = b
    rw [hxa, new_self]
  refine ⟨(movE a b x).id, (movE a b x).dir, ?_⟩
  rw [scan_F hf hfi hg hgi fun y hy => ⟨movE a b y, (mem_ren hm).2 ⟨y, hy, rfl⟩, (mov_id a b y).1, (mov_id a b y).2.1⟩]
  rw [sole_flat (z := movE a b x) hz (rising_nodup hg.rise) fun z hz2 hne => ?_]
  · rw [chgs_kept hf hfi hg hgi hx hz (mov_id a b x).1 (mov_id a b x).2.1, hzb, hxa, if_pos (seat_new hf hfi hm hx hxa), (mov_id a b x).2.2]
    simp
  · obtain ⟨y, hy, rfl⟩ := (mem_ren hm).1 hz2
    have hya : y.path ≠ a := fun e => hne (by rw [rising_one hf.rise hy hx (e.trans hxa.symm)])
    rw [chgs_kept hf hfi hg hgi hy hz2 (mov_id a b y).1 (mov_id a b y).2.1, seat_moved hf hm hy hya, (mov_id a b y).2.2]
    simp
end Go.Proofs.YtgjgeojhhglidaaDoor

namespace Go.Proofs.YtgjgeojhhglidaaDoor
open Go Go.RowKit Go.Lib

/-- What there is behind calls. -/
def playF (f : Fs) (l : List Ask) : Fs := l.foldl (fun f x => (opF f x).1) f
theorem play_snoc (f : Fs) (l : List Ask) (x : Ask) : playF f (l ++ [x]) = (opF (playF f l) x).1 := by
  unfold playF
  rw [List.foldl_append]
  rfl
set_option maxRecDepth 100000 in
set_option maxHeartbeats 6400000 in
/-- **played.** -/
theorem played_any (a : Option Addr) (cap : Nat) (xs : List Ask) (a2 : Option Addr) (cap2 : Nat) (ys : List Ask) (w : World) (ha : RowsAt askLay w a xs) (hb : RowsAt askLay w a2 ys) (hm : MaxAt w) :
    Calls Tryd.prog 34 #[.slice a xs.length cap, .slice a2 ys.length cap2] w fun e w' => Below w.heap.size w w' ∧ (e = .returned (.tuple #[.slice none 0 0, .slice none 0 0, .bool false]) ∨
      ∃ (f g : Fs) (av : Option Addr) (cv : Nat) (v2 : Value), e = .returned (.tuple #[.slice av f.es.length cv, v2, .bool true]) ∧ FsOK f ∧ IdsOK f ∧ FsOK g ∧ IdsOK g ∧ f = playF ⟨0, []⟩ xs ∧ g = playF f ys ∧ RowsAt entLay w' av f.es ∧ OwnRows entLay w' w.heap.size 38 v2 g.es) := by
  have HN := Lib.hid (fnew_any w)
  have HA := Lib.hid ha
  have HB := Lib.hid hb
  clear ha hb
  go_enter Tryd.func34, Tryd.ntmps34
  go_wp2_with fail
  refine HN.out.mono ?_
  rintro e w1 ⟨rfl, hF1, hb1, hs1⟩
  obtain ⟨fb, hfb⟩ : ∃ fb, fb = w.heap.size + 1 := ⟨_, rfl⟩
  obtain ⟨mb, hmb⟩ : ∃ mb, mb = w.heap.size := ⟨_, rfl⟩
  rw [← hfb] at hF1 ⊢
  rw [← hmb] at hF1
  have hfw : w.heap.size ≤ fb := by omega
  have hmw : w.heap.size ≤ mb := by omega
  clear hfb hmb hs1 HN
  by_cases hl1 : xs.length ≤ 60
  · have g1 : ¬ ((xs.length : Int) > 60) := by omega
    by_cases hl2 : ys.length ≤ 60
    · have g2 : ¬ ((ys.length : Int) > 60) := by omega
      go_wp2_with fail
      go_loopw [8, 9] (fun i _ wr => ∃ k : Nat, k ≤ xs.length + ys.length ∧ i = .int .i64 k ∧ FAt wr fb mb ⟨0, []⟩ ∧ Hid (∀ x ∈ (xs ++ ys).take k, x.path.size ≤ 300 ∧ x.dest.size ≤ 300) ∧ Below w.heap.size w wr) (fun i _ _ => xs.length + ys.length - (RowKit.intOf i).toNat)
      case atStart => exact ⟨0, Nat.zero_le _, rfl, hF1, Lib.hid (fun x hx => by rw [List.take_zero] at hx; cases hx), hb1⟩
      case round =>
        clear hF1 hb1
        obtain ⟨k, hk, rfl, hF1, Hs, hb⟩ := hrel
        by_cases hlt : k < xs.length + ys.length
        · obtain ⟨x, hx⟩ := at_some (show k < (xs ++ ys).length by rw [List.length_append]; exact hlt)
          have Hx := Lib.hid hx
          have hlti : (k : Int) < (xs.length : Int) + (ys.length : Int) := by omega
          obtain ⟨xk, xp, xt, xd⟩ := x
          have hb3 := hb.alloc hb.size (.cells #[.int .i64 0, .string ⟨#[]⟩, .string ⟨#[]⟩, .string ⟨#[]⟩] 30)
          have hb31 := (Below.refl wr.heap.size wr).alloc (Nat.le_refl _) (.cells #[.int .i64 0, .string ⟨#[]⟩, .string ⟨#[]⟩, .string ⟨#[]⟩] 30)
          have hV3 := VarAt.new wr #[.int .i64 0, .string ⟨#[]⟩, .string ⟨#[]⟩, .string ⟨#[]⟩] 30
          obtain ⟨xb, hxb⟩ : ∃ xb, xb = wr.heap.size := ⟨_, rfl⟩
          have hxbw : w.heap.size ≤ xb := by rw [hxb]; exact hb.size
          have hxb1 : wr.heap.size ≤ xb := by rw [hxb]; exact Nat.le_refl _
          rw [← hxb] at hV3
          have Hxb := Lib.hid hxb
          clear hxb
          by_cases hlx : k < xs.length
          · have hx1 : xs[k]? = some ⟨xk, xp, xt, xd⟩ := by rw [List.getElem?_append_left hlx] at hx; exact hx
            obtain ⟨b, off, hae, hbl, c0, c1, c2, c3⟩ := ask_at ((HA.out.keeps hb).keeps hb31) hx1
            dsimp only at c0 c1 c2 c3
            subst hae
            have hlxi : (k : Int) < (xs.length : Int) := by omega
            clear hx hx1 hbl
            go_upto_region 8 with fail
            rw [← Hxb.out]
            generalize wr.alloc (.cells #[.int .i64 0, .string ⟨#[]⟩, .string ⟨#[]⟩, .string ⟨#[]⟩] 30) = w3 at *
            have q0 : (w3).cell? ⟨xb, 0, none⟩ = some (.int .i64 0) := hV3.2.2 0 _ rfl
            have z0 : (w3).frozen? ⟨xb, 0, none⟩ = false := hV3.2.1 0
            have s0 := hV3.set 0 (.int .i64 xk) (by simp)
            have q1 : ((w3).setCell ⟨xb, 0, none⟩ (.int .i64 xk)).cell? ⟨xb, 1, none⟩ = some (.string ⟨#[]⟩) := s0.2.2 1 _ rfl
            have z1 : ((w3).setCell ⟨xb, 0, none⟩ (.int .i64 xk)).frozen? ⟨xb, 1, none⟩ = false := s0.2.1 1
            have s1 := s0.set 1 (.string xp) (by simp)
            have q2 : (((w3).setCell ⟨xb, 0, none⟩ (.int .i64 xk)).setCell ⟨xb, 1, none⟩ (.string xp)).cell? ⟨xb, 2, none⟩ = some (.string ⟨#[]⟩) := s1.2.2 2 _ rfl
            have z2 : (((w3).setCell ⟨xb, 0, none⟩ (.int .i64 xk)).setCell ⟨xb, 1, none⟩ (.string xp)).frozen? ⟨xb, 2, none⟩ = false := s1.2.1 2
            have s2 := s1.set 2 (.string xt) (by simp)
            have q3 : ((((w3).setCell ⟨xb, 0, none⟩ (.int .i64 xk)).setCell ⟨xb, 1, none⟩ (.string xp)).setCell ⟨xb, 2, none⟩ (.string xt)).cell? ⟨xb, 3, none⟩ = some (.string ⟨#[]⟩) := s2.2.2 3 _ rfl
            have z3 : ((((w3).setCell ⟨xb, 0, none⟩ (.int .i64 xk)).setCell ⟨xb, 1, none⟩ (.string xp)).setCell ⟨xb, 2, none⟩ (.string xt)).frozen? ⟨xb, 3, none⟩ = false := s2.2.1 3
            have s3 := s2.set 3 (.string xd) (by simp)
            dsimp only [List.set] at s3
            have hbz := ((((hb3.setCell (p := ⟨xb, 0, none⟩) hxbw (.int .i64 xk)).setCell (p := ⟨xb, 1, none⟩) hxbw (.string xp)).setCell (p := ⟨xb, 2, none⟩) hxbw (.string xt)).setCell (p := ⟨xb, 3, none⟩) hxbw (.string xd))
            have hFz := hF1.below (((((hb31.setCell (p := ⟨xb, 0, none⟩) hxb1 (.int .i64 xk)).setCell (p := ⟨xb, 1, none⟩) hxb1 (.string xp)).setCell (p := ⟨xb, 2, none⟩) hxb1 (.string xt)).setCell (p := ⟨xb, 3, none⟩) hxb1 (.string xd)))
            go_upto_region 11 with fail
            clear c0 c1 c2 c3
            generalize ((((w3).setCell ⟨xb, 0, none⟩ (.int .i64 xk)).setCell ⟨xb, 1, none⟩ (.string xp)).setCell ⟨xb, 2, none⟩ (.string xt)).setCell ⟨xb, 3, none⟩ (.string xd) = W4 at *
            have y1 : W4.cell? ⟨xb, 1, none⟩ = some (.string xp) := s3.2.2 1 _ rfl
            have y2 : W4.cell? ⟨xb, 2, none⟩ = some (.string xt) := s3.2.2 2 _ rfl
            have y3 : W4.cell? ⟨xb, 3, none⟩ = some (.string xd) := s3.2.2 3 _ rfl
            clear s0 s1 s2 s3 q0 q1 q2 q3 z0 z1 z2 z3
            by_cases hp1 : xp.size ≤ 300
            · have g3 : ¬ ((xp.size : Int) > 300) := by omega
              by_cases hp2 : xt.size ≤ 300
              · have g4 : ¬ ((xt.size : Int) > 300) := by omega
                by_cases hp3 : xd.size ≤ 1000
                · have g5 : ¬ ((xd.size : Int) > 1000) := by omega
                  have Hs2 := Lib.hid (show ∀ x ∈ (xs ++ ys).take (k + 1), x.path.size ≤ 300 ∧ x.dest.size ≤ 300 from fun x hx => by
                    rw [List.take_add_one, Hx.out] at hx
                    rcases List.mem_append.1 hx with hx | hx
                    · exact Hs.out x hx
                    · rw [Option.toList_some, List.mem_singleton] at hx
                      rw [hx]
                      exact ⟨hp1, hp2⟩)
                  go_wp2_with fail
                  go_roundw
                  case rel => exact ⟨k + 1, by omega, by go_num, hFz, Hs2, hbz⟩
                  case measure => simp [RowKit.intOf]; omega
                · have g5 : (xd.size : Int) > 1000 := by omega
                  go_wp2_with fail
                  refine bodyPost_ret (v := .tuple #[.slice none 0 0, .slice none 0 0, .bool false]) (by simp [results, Tryd.results34, go_sem]) rfl ⟨hbz, .inl rfl⟩
              · have g4 : (xt.size : Int) > 300 := by omega
                go_wp2_with fail
                refine bodyPost_ret (v := .tuple #[.slice none 0 0, .slice none 0 0, .bool false]) (by simp [results, Tryd.results34, go_sem]) rfl ⟨hbz, .inl rfl⟩
            · have g3 : (xp.size : Int) > 300 := by omega
              go_wp2_with fail
              refine bodyPost_ret (v := .tuple #[.slice none 0 0, .slice none 0 0, .bool false]) (by simp [results, Tryd.results34, go_sem]) rfl ⟨hbz, .inl rfl⟩
          · have hx1 : ys[k - xs.length]? = some ⟨xk, xp, xt, xd⟩ := by rw [List.getElem?_append_right (by omega)] at hx; exact hx
            obtain ⟨j, hj⟩ : ∃ j, k - xs.length = j := ⟨_, rfl⟩
            rw [hj] at hx1
            have hji : (k : Int) - (xs.length : Int) = (j : Int) := by omega
            have hjl : (j : Int) < (ys.length : Int) := by omega
            have hj0 : (0 : Int) ≤ (j : Int) := by omega
            obtain ⟨b, off, hae, hbl, c0, c1, c2, c3⟩ := ask_at ((HB.out.keeps hb).keeps hb31) hx1
            dsimp only at c0 c1 c2 c3
            subst hae
            have hlxi : ¬ ((k : Int) < (xs.length : Int)) := by omega
            have Hj := Lib.hid hj
            clear hx hx1 hbl hj
            go_upto_region 8 with fail
            rw [← Hxb.out]
            generalize wr.alloc (.cells #[.int .i64 0, .string ⟨#[]⟩, .string ⟨#[]⟩, .string ⟨#[]⟩] 30) = w3 at *
            have q0 : (w3).cell? ⟨xb, 0, none⟩ = some (.int .i64 0) := hV3.2.2 0 _ rfl
            have z0 : (w3).frozen? ⟨xb, 0, none⟩ = false := hV3.2.1 0
            have s0 := hV3.set 0 (.int .i64 xk) (by simp)
            have q1 : ((w3).setCell ⟨xb, 0, none⟩ (.int .i64 xk)).cell? ⟨xb, 1, none⟩ = some (.string ⟨#[]⟩) := s0.2.2 1 _ rfl
            have z1 : ((w3).setCell ⟨xb, 0, none⟩ (.int .i64 xk)).frozen? ⟨xb, 1, none⟩ = false := s0.2.1 1
            have s1 := s0.set 1 (.string xp) (by simp)
            have q2 : (((w3).setCell ⟨xb, 0, none⟩ (.int .i64 xk)).setCell ⟨xb, 1, none⟩ (.string xp)).cell? ⟨xb, 2, none⟩ = some (.string ⟨#[]⟩) := s1.2.2 2 _ rfl
            have z2 : (((w3).setCell ⟨xb, 0, none⟩ (.int .i64 xk)).setCell ⟨xb, 1, none⟩ (.string xp)).frozen? ⟨xb, 2, none⟩ = false := s1.2.1 2
            have s2 := s1.set 2 (.string xt) (by simp)
            have q3 : ((((w3).setCell ⟨xb, 0, none⟩ (.int .i64 xk)).setCell ⟨xb, 1, none⟩ (.string xp)).setCell ⟨xb, 2, none⟩ (.string xt)).cell? ⟨xb, 3, none⟩ = some (.string ⟨#[]⟩) := s2.2.2 3 _ rfl
            have z3 : ((((w3).setCell ⟨xb, 0, none⟩ (.int .i64 xk)).setCell ⟨xb, 1, none⟩ (.string xp)).setCell ⟨xb, 2, none⟩ (.string xt)).frozen? ⟨xb, 3, none⟩ = false := s2.2.1 3
            have s3 := s2.set 3 (.string xd) (by simp)
            dsimp only [List.set] at s3
            have hbz := ((((hb3.setCell (p := ⟨xb, 0, none⟩) hxbw (.int .i64 xk)).setCell (p := ⟨xb, 1, none⟩) hxbw (.string xp)).setCell (p := ⟨xb, 2, none⟩) hxbw (.string xt)).setCell (p := ⟨xb, 3, none⟩) hxbw (.string xd))
            have hFz := hF1.below (((((hb31.setCell (p := ⟨xb, 0, none⟩) hxb1 (.int .i64 xk)).setCell (p := ⟨xb, 1, none⟩) hxb1 (.string xp)).setCell (p := ⟨xb, 2, none⟩) hxb1 (.string xt)).setCell (p := ⟨xb, 3, none⟩) hxb1 (.string xd)))
            go_upto_region 11 with fail
            clear c0 c1 c2 c3
            generalize ((((w3).setCell ⟨xb, 0, none⟩ (.int .i64 xk)).setCell ⟨xb, 1, none⟩ (.string xp)).setCell ⟨xb, 2, none⟩ (.string xt)).setCell ⟨xb, 3, none⟩ (.string xd) = W4 at *
            have y1 : W4.cell? ⟨xb, 1, none⟩ = some (.string xp) := s3.2.2 1 _ rfl
            have y2 : W4.cell? ⟨xb, 2, none⟩ = some (.string xt) := s3.2.2 2 _ rfl
            have y3 : W4.cell? ⟨xb, 3, none⟩ = some (.string xd) := s3.2.2 3 _ rfl
            clear s0 s1 s2 s3 q0 q1 q2 q3 z0 z1 z2 z3
            by_cases hp1 : xp.size ≤ 300
            · have g3 : ¬ ((xp.size : Int) > 300) := by omega
              by_cases hp2 : xt.size ≤ 300
              · have g4 : ¬ ((xt.size : Int) > 300) := by omega
                by_cases hp3 : xd.size ≤ 1000
                · have g5 : ¬ ((xd.size : Int) > 1000) := by omega
                  have Hs2 := Lib.hid (show ∀ x ∈ (xs ++ ys).take (k + 1), x.path.size ≤ 300 ∧ x.dest.size ≤ 300 from fun x hx => by
                    rw [List.take_add_one, Hx.out] at hx
                    rcases List.mem_append.1 hx with hx | hx
                    · exact Hs.out x hx
                    · rw [Option.toList_some, List.mem_singleton] at hx
                      rw [hx]
                      exact ⟨hp1, hp2⟩)
                  go_wp2_with fail
                  go_roundw
                  case rel => exact ⟨k + 1, by omega, by go_num, hFz, Hs2, hbz⟩
                  case measure => simp [RowKit.intOf]; omega
                · have g5 : (xd.size : Int) > 1000 := by omega
                  go_wp2_with fail
                  refine bodyPost_ret (v := .tuple #[.slice none 0 0, .slice none 0 0, .bool false]) (by simp [results, Tryd.results34, go_sem]) rfl ⟨hbz, .inl rfl⟩
              · have g4 : (xt.size : Int) > 300 := by omega
                go_wp2_with fail
                refine bodyPost_ret (v := .tuple #[.slice none 0 0, .slice none 0 0, .bool false]) (by simp [results, Tryd.results34, go_sem]) rfl ⟨hbz, .inl rfl⟩
            · have g3 : (xp.size : Int) > 300 := by omega
              go_wp2_with fail
              refine bodyPost_ret (v := .tuple #[.slice none 0 0, .slice none 0 0, .bool false]) (by simp [results, Tryd.results34, go_sem]) rfl ⟨hbz, .inl rfl⟩
        · have hkk : k = xs.length + ys.length := by omega
          have hlt8 : ¬ ((k : Int) < (xs.length : Int) + (ys.length : Int)) := by omega
          have Hsz := Lib.hid (show ∀ x ∈ xs ++ ys, x.path.size ≤ 300 ∧ x.dest.size ≤ 300 from fun x hx => Hs.out x (by rw [hkk, ← List.length_append, List.take_length]; exact hx))
          clear hkk
          have hb1 := hb
          clear hb Hs hk hlt
          generalize hwo : wr = wo at *
          clear hwo wr
          go_wp2_with fail
          go_loopw [10] (fun i wr => ∃ (k : Nat) (f : Fs) (mb : Nat), k ≤ xs.length ∧ i = .int .i64 k ∧ f.n ≤ k ∧ FAt wr fb mb f ∧ Hid (FsOK f ∧ IdsOK f) ∧ w.heap.size ≤ mb ∧ Hid (f = playF ⟨0, []⟩ (xs.take k)) ∧ Below w.heap.size w wr) (fun i _ => xs.length - (RowKit.intOf i).toNat)
          case atStart => exact ⟨0, _, mb, Nat.zero_le _, rfl, by first | exact Nat.zero_le _ | omega, hF1, Lib.hid ⟨ok_new, ids_new⟩, hmw, Lib.hid (by rw [List.take_zero]; rfl), hb1⟩
          case round =>
            clear hmw hF1 hb1
            obtain ⟨k, f, mb, hk, rfl, hnk, hF, Hok, hmw, Hpl, hb⟩ := hrel
            by_cases hlt : k < xs.length
            · obtain ⟨x, hx⟩ := at_some hlt
              obtain ⟨b, off, hae, hbl, c0, c1, c2, c3⟩ := ask_at (HA.out.keeps hb) hx
              have hsz := Hsz.out x (List.mem_append_left _ (List.mem_of_getElem? hx))
              have Hst := Lib.hid (step_op Hok.out.2 x)
              have Hok2 := Lib.hid (ok_op Hok.out.1 x)
              have hopn := op_n Hok.out.2 x
              have Hpl2 := Lib.hid (show (opF f x).1 = playF ⟨0, []⟩ (xs.take (k + 1)) by
                rw [List.take_add_one, hx, Option.toList_some, play_snoc, ← Hpl.out])
              have HDo := Lib.hid fun W hF hp ht hM => fdo_any fb mb f x W hF Hok.out.1 (by omega) hp ht hM
              generalize opF f x = r at *
              obtain ⟨f', er⟩ := r
              obtain ⟨xk, xp, xt, xd⟩ := x
              dsimp only at c0 c1 c2 c3 hsz HDo hopn Hpl2
              subst hae
              have hlti : (k : Int) < (xs.length : Int) := by omega
              have hlf := hF.1.1
              have hlm := hF.2.lt
              clear hx
              go_wp2_with fail
              refine (HDo.out _ hF (by omega) (by omega) (hm.keeps hb)).mono ?_
              rintro e w4 ⟨rfl, mb', hF4, hmb', ht4⟩
              have hb4w := hb.trans (ht4.below hb.size (fun j hj e => by rcases e with rfl | rfl <;> omega))
              have hz4 := ht4.size
              have hmw' : w.heap.size ≤ mb' := by
                rcases hmb' with rfl | h1
                · exact hmw
                · exact Nat.le_trans hb.size h1

              go_wp2_with fail
              go_roundw
              case rel => exact ⟨k + 1, f', mb', by omega, by go_num, by omega, hF4, Lib.hid ⟨Hok2.out, Hst.out.ids⟩, hmw', Hpl2, hb4w⟩
              case measure => simp [RowKit.intOf]; omega
            · obtain rfl : k = xs.length := by omega
              have Hpl3 := Lib.hid (show f = playF ⟨0, []⟩ xs by rw [Hpl.out, List.take_length])
              clear Hpl hlt hk
              have hfewf : f.es.length ≤ 300 := Hok.out.1.few
              have HL := Lib.hid (flist_any fb mb f wr hF Hok.out.1.rise hfewf (fun y hy => path_size (Hok.out.1.path y hy)))
              have hlf := hF.1.1
              have hlm := hF.2.lt
              go_wp2_with fail
              refine HL.out.mono ?_
              rintro e w3 ⟨v, rfl, hov, hb3⟩
              obtain ⟨av, cv, rfl, hrow, hcv, hlow⟩ := own_low hov
              have hb1 := hb.trans (hb3.mono hb.size)
              have hF1 := hF.below hb3
              have hlowv : ∀ ad, av = some ad → ad.block < w3.heap.size ∧ ¬ FsS fb mb ad.block := fun ad e => ⟨(hlow ad e).2, by have := (hlow ad e).1; rintro (e2 | e2) <;> omega⟩
              obtain ⟨f0, hf0⟩ : ∃ f0, f0 = f := ⟨_, rfl⟩
              have Hok0 := Lib.hid (show FsOK f0 ∧ IdsOK f0 by rw [hf0]; exact Hok.out)
              have Hpl0 := Lib.hid (show f0 = playF ⟨0, []⟩ xs by rw [hf0]; exact Hpl3.out)
              rw [← hf0] at hF1 hrow ⊢
              have Hok1 := Hok0
              have hn0 : f0.n ≤ 60 := by rw [hf0]; omega
              clear hf0 Hok HL hov hb3 hlow Hpl3 hF hb hnk hfewf hlf hlm
              have Hok := Hok1
              go_wp2_with fail
              go_loopw [12] (fun i wr => ∃ (k : Nat) (f : Fs) (mb : Nat), k ≤ ys.length ∧ i = .int .i64 k ∧ f.n ≤ 60 + k ∧ FAt wr fb mb f ∧ Hid (FsOK f ∧ IdsOK f) ∧ w.heap.size ≤ mb ∧ Hid (f = playF f0 (ys.take k)) ∧ Below w.heap.size w wr ∧ RowsAt entLay wr av f0.es ∧ (∀ ad, av = some ad → ad.block < wr.heap.size ∧ ¬ FsS fb mb ad.block)) (fun i _ => ys.length - (RowKit.intOf i).toNat)
              case atStart => exact ⟨0, _, mb, Nat.zero_le _, rfl, by first | exact Nat.zero_le _ | omega, hF1, Hok, hmw, Lib.hid (by rw [List.take_zero]; rfl), hb1, hrow, hlowv⟩
              case round =>
                clear hmw hF1 hb1 hrow hlowv Hok
                obtain ⟨k, f, mb, hk, rfl, hnk, hF, Hok, hmw, Hpl, hb, hrow, hlowv⟩ := hrel
                by_cases hlt : k < ys.length
                · obtain ⟨x, hx⟩ := at_some hlt
                  obtain ⟨b, off, hae, hbl, c0, c1, c2, c3⟩ := ask_at (HB.out.keeps hb) hx
                  have hsz := Hsz.out x (List.mem_append_right _ (List.mem_of_getElem? hx))
                  have Hst := Lib.hid (step_op Hok.out.2 x)
                  have Hok2 := Lib.hid (ok_op Hok.out.1 x)
                  have hopn := op_n Hok.out.2 x
                  have Hpl2 := Lib.hid (show (opF f x).1 = playF f0 (ys.take (k + 1)) by
                    rw [List.take_add_one, hx, Option.toList_some, play_snoc, ← Hpl.out])
                  have HDo := Lib.hid fun W hF hp ht hM => fdo_any fb mb f x W hF Hok.out.1 (by omega) hp ht hM
                  generalize opF f x = r at *
                  obtain ⟨f', er⟩ := r
                  obtain ⟨xk, xp, xt, xd⟩ := x
                  dsimp only at c0 c1 c2 c3 hsz HDo hopn Hpl2
                  subst hae
                  have hlti : (k : Int) < (ys.length : Int) := by omega
                  have hlf := hF.1.1
                  have hlm := hF.2.lt
                  clear hx
                  go_wp2_with fail
                  refine (HDo.out _ hF (by omega) (by omega) (hm.keeps hb)).mono ?_
                  rintro e w4 ⟨rfl, mb', hF4, hmb', ht4⟩
                  have hb4w := hb.trans (ht4.below hb.size (fun j hj e => by rcases e with rfl | rfl <;> omega))
                  have hz4 := ht4.size
                  have hmw' : w.heap.size ≤ mb' := by
                    rcases hmb' with rfl | h1
                    · exact hmw
                    · exact Nat.le_trans hb.size h1
                  have hrow4 := hrow.turned ht4 hlowv
                  have hlow4 : ∀ ad, av = some ad → ad.block < w4.heap.size ∧ ¬ FsS fb mb' ad.block := fun ad e => by
                    have h1 := hlowv ad e
                    refine ⟨by omega, ?_⟩
                    rintro (e2 | e2)
                    · exact h1.2 (.inl e2)
                    · rcases hmb' with rfl | h3
                      · exact h1.2 (.inr e2)
                      · omega
                  go_wp2_with fail
                  go_roundw
                  case rel => exact ⟨k + 1, f', mb', by omega, by go_num, by omega, hF4, Lib.hid ⟨Hok2.out, Hst.out.ids⟩, hmw', Hpl2, hb4w, hrow4, hlow4⟩
                  case measure => simp [RowKit.intOf]; omega
                · obtain rfl : k = ys.length := by omega
                  have Hpl3 := Lib.hid (show f = playF f0 ys by rw [Hpl.out, List.take_length])
                  clear Hpl hlt hk
                  have hfewf : f.es.length ≤ 300 := Hok.out.1.few
                  have HL := Lib.hid (flist_any fb mb f wr hF Hok.out.1.rise hfewf (fun y hy => path_size (Hok.out.1.path y hy)))
                  have hrow2 := hrow
                  go_wp2_with fail
                  refine HL.out.mono ?_
                  rintro e w5 ⟨v2, rfl, hov2, hb5⟩
                  have hb5w := hb.trans (hb5.mono hb.size)
                  go_wp2_with fail
                  refine bodyPost_ret (v := .tuple #[.slice av f0.es.length cv, v2, .bool true]) (by simp [results, Tryd.results34, go_sem]) rfl ⟨hb5w, .inr ⟨f0, f, av, cv, v2, rfl, Hok0.out.1, Hok0.out.2, Hok.out.1, Hok.out.2, Hpl0.out, Hpl3.out, hrow.keeps hb5, hov2.lower hb.size⟩⟩
    · have g2 : (ys.length : Int) > 60 := by omega
      go_wp2_with fail
      refine bodyPost_ret (v := .tuple #[.slice none 0 0, .slice none 0 0, .bool false]) (by simp [results, Tryd.results34, go_sem]) rfl ⟨hb1, .inl rfl⟩
  · have g1 : (xs.length : Int) > 60 := by omega
    go_wp2_with fail
    refine bodyPost_ret (v := .tuple #[.slice none 0 0, .slice none 0 0, .bool false]) (by simp [results, Tryd.results34, go_sem]) rfl ⟨hb1, .inl rfl⟩
end Go.Proofs.YtgjgeojhhglidaaDoor

