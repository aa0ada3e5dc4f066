/-
  The opening of a log cuts what is behind the records: the plain law. Whatever acts of an append stay, torn or not, there are all records of before, and a beginning of the others: the plain law. What an append writes: the plain law.
-/
import Derived.Test.YtgglheelhbfgiaaGreatDoorMg3
namespace Go.Proofs.YtgglheelhbfgiaaGreatDoor
open Go Go.RowKit
theorem hasD_put {now : Fls} (hn : (now.map (·.1)).Nodup) (p s q : ByteArray) : hasD (putK now p s) q = if q = p then s else hasD now q := by
  unfold hasD
  rw [findK_put hn]
  split <;> rfl
structure NamesOK (now : Fls) : Prop where
  nodup : (now.map (·.1)).Nodup
  names : ∀ p, (findK now p).isSome = true → ∃ k, k < 100 ∧ p = nameS k
  small : ∀ p, (hasD now p).size ≤ 16300
theorem NamesOK.put {now : Fls} (h : NamesOK now) {k : Nat} (hk : k < 100) {s : ByteArray} (hs : s.size ≤ 16300) : NamesOK (putK now (nameS k) s) := by
  refine ⟨keysK_put _ _ _ h.nodup, fun p hp => ?_, fun p => ?_⟩
  · rw [findK_put h.nodup] at hp
    split at hp
    · exact ⟨k, hk, ‹_›⟩
    · exact h.names p hp
  · rw [hasD_put h.nodup]
    split
    · exact hs
    · exact h.small p
theorem hasD_none {now : Fls} {p : ByteArray} (h : findK now p = none) : hasD now p = noB := by
  unfold hasD
  rw [h]
  rfl
theorem hasD_some {now : Fls} {p s : ByteArray} (h : findK now p = some s) : hasD now p = s := by
  unfold hasD
  rw [h]
  rfl
theorem size_list (s : ByteArray) : s.size = s.data.toList.length := rfl
theorem short_list (s : ByteArray) (n : Nat) : (shortB s n).data.toList = s.data.toList.take n := by
  unfold shortB
  rw [ByteArray.data_extract, Array.toList_extract, List.extract_eq_take_drop, List.drop_zero, Nat.sub_zero, size_list]
  by_cases h : s.data.toList.length ≤ n
  · rw [Nat.min_eq_left h, List.take_of_length_le (Nat.le_refl _), List.take_of_length_le h]
  · rw [Nat.min_eq_right (by omega)]
theorem short_size (s : ByteArray) (n : Nat) : (shortB s n).size ≤ s.size := by
  unfold shortB
  rw [ByteArray.size_extract]
  omega
/-- All is there, and nothing else. -/
structure CleanF (now : Fls) (R : List (List UInt8)) : Prop where
  len : R.length ≤ 800
  right : ∀ s ∈ R, recOk s = true
  has : ∀ k, k < 100 → (hasD now (nameS k)).data.toList = fileL R k
theorem CleanF.dirty {now : Fls} {R : List (List UInt8)} (h : CleanF now R) : DirtyF now R := by
  refine ⟨h.len, h.right, fun k hk => ⟨[], by rw [h.has k hk, List.append_nil]⟩, fun hl => ?_⟩
  rw [h.has _ (by omega), List.drop_eq_nil_of_le (Nat.le_refl _)]
  exact first_nil _
def KeepsA (E : Ends) (a : ActD) : Prop := a.cut = true ∧ (a.n : Int) = endOf E a.name
theorem cut_dirty {now : Fls} {R : List (List UInt8)} {E : Ends} {a : ActD} (torn : Bool) (hN : NamesOK now) (hd : DirtyF now R) (hE : EndsOf R E) (ha : KeepsA E a) :
    DirtyF (doD now a torn) R ∧ NamesOK (doD now a torn) ∧ (∀ p, (findK (doD now a torn) p).isSome = (findK now p).isSome) ∧ (∀ p, p ≠ a.name → hasD (doD now a torn) p = hasD now p) ∧ (hasD (doD now a torn) a.name).size ≤ a.n := by
  obtain ⟨cut, name, n, data⟩ := a
  obtain ⟨rfl, hn⟩ := ha
  dsimp only at hn
  unfold doD
  rw [if_pos rfl]
  dsimp only
  cases hf : findK now name with
  | none =>
    refine ⟨hd, hN, fun _ => rfl, fun _ _ => rfl, ?_⟩
    dsimp only
    rw [hasD_none hf]
    exact Nat.zero_le _
  | some s =>
    dsimp only
    obtain ⟨k, hk, rfl⟩ := hN.names name (by rw [hf]; rfl)
    have hs := hasD_some hf
    have hss := hN.small (nameS k)
    rw [hs] at hss
    have hnk : n = (fileL R k).length := by
      have := hE.2.1 k
      omega
    have hsz := short_size s n
    refine ⟨⟨hd.len, hd.right, fun j hj => ?_, fun hl => ?_⟩, hN.put hk (by omega), fun p => ?_, fun p hp => ?_, ?_⟩
    · rw [hasD_put hN.nodup]
      split
      · rename_i e
        obtain rfl := nameS_inj e
        obtain ⟨more, hm⟩ := hd.has j hj
        rw [hs] at hm
        refine ⟨[], ?_⟩
        rw [short_list, hm, List.append_nil, hnk, List.take_left']
        rfl
      · exact hd.has j hj
    · rw [hasD_put hN.nodup]
      split
      · rename_i e
        have e2 := nameS_inj e
        rw [short_list, hnk, e2, List.drop_eq_nil_of_le (by rw [List.length_take]; omega)]
        exact first_nil _
      · exact hd.ends hl
    · rw [findK_put hN.nodup]
      split
      · rename_i e
        rw [e, hf]
        rfl
      · rfl
    · rw [hasD_put hN.nodup, if_neg hp]
    · rw [hasD_put hN.nodup, if_pos rfl, size_list, short_list, List.length_take]
      omega
theorem name_size {k : Nat} (hk : k < 10000) : 5 ≤ (nameS k).size ∧ (nameS k).size ≤ 24 := by
  have h1 := decDigits_small hk
  have h2 : (Lib.decDigits k).length ≠ 0 := fun e => decDigits_ne k (List.length_eq_zero_iff.1 e)
  have h3 : (nameS k).size = 4 + (Lib.decDigits k).length := by
    unfold nameS
    rw [mkB_size, List.length_append]
    rfl
  omega
theorem wrong_none {d : Dk} (hd : d.dead = false) {k : Nat} (hk : k < 10000) {n : Int} (h0 : 0 ≤ n) (h1 : n ≤ d.limit) : wrongD d (nameS k) n = 0 := by
  have := name_size hk
  unfold wrongD
  rw [hd, if_neg (by simp), if_neg (by omega)]
/-- What an act leaves: the disk has died, or it was done. -/
theorem does_cases (d : Dk) (a : ActD) (hd : d.dead = false) :
    ((doesD d a).2 = 42 ∧ (doesD d a).1.dead = true ∧ (doesD d a).1.firm = d.firm ∧ (doesD d a).1.limit = d.limit ∧ (doesD d a).1.acts = d.acts ++ [a] ∧ 0 < d.armed) ∨
    ((doesD d a).2 = 0 ∧ (doesD d a).1.dead = false ∧ (doesD d a).1.firm = d.firm ∧ (doesD d a).1.limit = d.limit ∧ (doesD d a).1.acts = d.acts ++ [a] ∧ (doesD d a).1.now = doD d.now a false ∧ (d.armed ≤ 0 → (doesD d a).1.armed = d.armed)) := by
  unfold doesD
  by_cases h : (diesD { d with acts := d.acts ++ [a] }).dead = true
  · rw [if_pos h]
    refine .inl ⟨rfl, h, ?_, ?_, ?_, ?_⟩
    · unfold diesD; split <;> rfl
    · unfold diesD; split <;> rfl
    · unfold diesD; split <;> rfl
    · unfold diesD at h
      split at h
      · assumption
      · dsimp only at h
        rw [hd] at h
        cases h
  · rw [if_neg h]
    refine .inr ⟨rfl, by simpa using h, ?_, ?_, ?_, rfl, fun h0 => ?_⟩
    · unfold diesD; split <;> rfl
    · unfold diesD; split <;> rfl
    · unfold diesD; split <;> rfl
    · unfold diesD
      rw [if_neg (by dsimp only; omega)]
theorem sync_cases (d : Dk) (hd : d.dead = false) :
    ((syncD d).2 = 42 ∧ (syncD d).1.dead = true ∧ (syncD d).1.firm = d.firm ∧ (syncD d).1.limit = d.limit ∧ (syncD d).1.acts = d.acts ∧ 0 < d.armed) ∨
    ((syncD d).2 = 0 ∧ (syncD d).1.dead = false ∧ (syncD d).1.firm = d.now ∧ (syncD d).1.now = d.now ∧ (syncD d).1.limit = d.limit ∧ (syncD d).1.acts = [] ∧ (d.armed ≤ 0 → (syncD d).1.armed = d.armed)) := by
  unfold syncD
  rw [if_neg (by rw [hd]; simp)]
  by_cases h : (diesD d).dead = true
  · rw [if_pos h]
    refine .inl ⟨rfl, h, ?_, ?_, ?_, ?_⟩
    · unfold diesD; split <;> rfl
    · unfold diesD; split <;> rfl
    · unfold diesD; split <;> rfl
    · unfold diesD at h
      split at h
      · assumption
      · rw [hd] at h
        cases h
  · rw [if_neg h]
    refine .inr ⟨rfl, by simpa using h, rfl, ?_, ?_, rfl, fun h0 => ?_⟩
    · unfold diesD; split <;> rfl
    · unfold diesD; split <;> rfl
    · unfold diesD
      rw [if_neg (by omega)]
/-- The cuts of an opening. -/
theorem cuts_cases {R : List (List UInt8)} {E : Ends} (hE : EndsOf R E) : ∀ (ps : List ByteArray) (d : Dk), d.dead = false → 16300 ≤ d.limit → NamesOK d.now → DirtyF d.now R → (∀ p ∈ ps, (findK d.now p).isSome = true) →
    ∃ cuts : List ActD, (∀ a ∈ cuts, KeepsA E a) ∧
      (((cutsD E ps d).2 = 42 ∧ (cutsD E ps d).1.dead = true ∧ (cutsD E ps d).1.firm = d.firm ∧ (cutsD E ps d).1.limit = d.limit ∧ (cutsD E ps d).1.acts = d.acts ++ cuts ∧ 0 < d.armed) ∨
       ((cutsD E ps d).2 = 0 ∧ (cutsD E ps d).1.dead = false ∧ (cutsD E ps d).1.firm = d.firm ∧ (cutsD E ps d).1.limit = d.limit ∧ (cutsD E ps d).1.acts = d.acts ++ cuts ∧ (d.armed ≤ 0 → (cutsD E ps d).1.armed = d.armed) ∧
         NamesOK (cutsD E ps d).1.now ∧ DirtyF (cutsD E ps d).1.now R ∧ (∀ p, (findK (cutsD E ps d).1.now p).isSome = (findK d.now p).isSome) ∧
         (∀ p, (hasD (cutsD E ps d).1.now p).size ≤ (hasD d.now p).size) ∧ ∀ p ∈ ps, ((hasD (cutsD E ps d).1.now p).size : Int) ≤ endOf E p))
  | [], d, hd, _, hN, hD, _ => ⟨[], by simp, .inr ⟨rfl, hd, rfl, rfl, by rw [List.append_nil]; rfl, fun _ => rfl, hN, hD, fun _ => rfl, fun _ => Nat.le_refl _, by simp⟩⟩
  | p :: r, d, hd, hl, hN, hD, hp => by
    rw [cutsD]
    by_cases hlt : endOf E p < ((hasD d.now p).size : Int)
    · rw [if_pos hlt]
      have hpk := hp p (by simp)
      obtain ⟨k, hk, hpe⟩ := hN.names p hpk
      have hend : endOf E p = ((fileL R k).length : Int) := by rw [hpe]; exact hE.2.1 k
      have hsm := hN.small p
      have hcut : cutD d p (endOf E p) = doesD d ⟨true, p, (endOf E p).toNat, noB⟩ := by
        unfold cutD
        rw [hpe, wrong_none hd (by omega) (by rw [← hpe]; omega) (by rw [← hpe]; omega), if_neg (by simp), ← hpe, if_neg (by cases h : findK d.now p with | none => rw [h] at hpk; cases hpk | some s => simp)]
      have ha : KeepsA E ⟨true, p, (endOf E p).toNat, noB⟩ := ⟨rfl, by dsimp only; omega⟩
      rw [hcut]
      rcases does_cases d ⟨true, p, (endOf E p).toNat, noB⟩ hd with ⟨e1, e2, e3, e4, e5, e6⟩ | ⟨e1, e2, e3, e4, e5, e6, e7⟩
      · rw [if_pos (by rw [e1]; decide)]
        exact ⟨[⟨true, p, (endOf E p).toNat, noB⟩], by simpa using ha, .inl ⟨e1, e2, e3, e4, e5, e6⟩⟩
      · rw [if_neg (by rw [e1]; decide)]
        obtain ⟨c1, c2, c3, c4, c5⟩ := cut_dirty false hN hD hE ha
        rw [← e6] at c1 c2 c3 c4 c5
        obtain ⟨cuts, q1, q2⟩ := cuts_cases hE r (doesD d ⟨true, p, (endOf E p).toNat, noB⟩).1 e2 (by rw [e4]; exact hl) c2 c1 (fun q hq => by rw [c3]; exact hp q (by simp [hq]))
        have hle : ∀ q, (hasD (doesD d ⟨true, p, (endOf E p).toNat, noB⟩).1.now q).size ≤ (hasD d.now q).size := fun q => by
          by_cases hq : q = p
          · subst hq
            dsimp only at c5
            omega
          · rw [c4 q hq]
            exact Nat.le_refl _
        refine ⟨⟨true, p, (endOf E p).toNat, noB⟩ :: cuts, ?_, ?_⟩
        · intro a haa
          rcases List.mem_cons.1 haa with rfl | haa
          · exact ha
          · exact q1 a haa
        · rcases q2 with ⟨f1, f2, f3, f4, f5, f6⟩ | ⟨f1, f2, f3, f4, f5, f6, f7, f8, f9, f10, f11⟩
          · refine .inl ⟨f1, f2, f3.trans e3, f4.trans e4, by rw [f5, e5, List.append_assoc]; rfl, ?_⟩
            refine Classical.byContradiction fun h0 => ?_
            rw [e7 (by omega)] at f6
            exact h0 f6
          · refine .inr ⟨f1, f2, f3.trans e3, f4.trans e4, by rw [f5, e5, List.append_assoc]; rfl, fun h => (by rw [f6 (by rw [e7 h]; exact h), e7 h]), f7, f8, fun q => (f9 q).trans (c3 q), fun q => Nat.le_trans (f10 q) (hle q), fun q hq => ?_⟩
            rcases List.mem_cons.1 hq with rfl | hq
            · have := f10 q
              dsimp only at c5
              omega
            · exact f11 q hq
    · rw [if_neg hlt]
      obtain ⟨cuts, q1, q2⟩ := cuts_cases hE r d hd hl hN hD (fun q hq => hp q (by simp [hq]))
      refine ⟨cuts, q1, ?_⟩
      rcases q2 with q2 | ⟨f1, f2, f3, f4, f5, f6, f7, f8, f9, f10, f11⟩
      · exact .inl q2
      · refine .inr ⟨f1, f2, f3, f4, f5, f6, f7, f8, f9, f10, fun q hq => ?_⟩
        rcases List.mem_cons.1 hq with rfl | hq
        · have := f10 q
          omega
        · exact f11 q hq
theorem clean_of {now : Fls} {R : List (List UInt8)} {E : Ends} (hD : DirtyF now R) (hE : EndsOf R E) (h : ∀ p, (findK now p).isSome = true → ((hasD now p).size : Int) ≤ endOf E p) : CleanF now R := by
  refine ⟨hD.len, hD.right, fun k hk => ?_⟩
  obtain ⟨more, hm⟩ := hD.has k hk
  rw [hm]
  have : more = [] := by
    cases hf : findK now (nameS k) with
    | none =>
      rw [hasD_none hf] at hm
      exact (List.append_eq_nil_iff.1 hm.symm).2
    | some s =>
      have h1 := h (nameS k) (by rw [hf]; rfl)
      rw [hE.2.1, size_list, hm, List.length_append] at h1
      exact List.length_eq_zero_iff.1 (by omega)
  rw [this, List.append_nil]
theorem isSome_of_mem {now : Fls} {p : ByteArray} (h : p ∈ namesD ⟨0, now, [], [], 0, false⟩) : (findK now p).isSome = true := mem_keysK.1 h
/-- What an opening does where such records are. -/
theorem open_dirty {d : Dk} {R : List (List UInt8)} (hd : d.dead = false) (hl : 16300 ≤ d.limit) (hN : NamesOK d.now) (hD : DirtyF d.now R) :
    ∃ (E : Ends) (cuts : List ActD), EndsOf R E ∧ (∀ a ∈ cuts, KeepsA E a) ∧
      (((openD d).log = none ∧ (openD d).out = [] ∧ (openD d).err = 42 ∧ (openD d).d.dead = true ∧ (openD d).d.firm = d.firm ∧ (openD d).d.limit = d.limit ∧ (openD d).d.acts = d.acts ++ cuts ∧ 0 < d.armed) ∨
       ((openD d).log = some ⟨R.length, (fileL R (R.length / 8)).length, false⟩ ∧ (openD d).out = R.map mkB ∧ (openD d).err = 0 ∧ (openD d).d.dead = false ∧ (openD d).d.firm = (openD d).d.now ∧ (openD d).d.limit = d.limit ∧ (openD d).d.acts = [] ∧ (d.armed ≤ 0 → (openD d).d.armed = d.armed) ∧
         NamesOK (openD d).d.now ∧ CleanF (openD d).d.now R ∧ ∀ p, (findK (openD d).d.now p).isSome = (findK d.now p).isSome)) := by
  obtain ⟨E, hs, hE⟩ := scan_dirty hD
  obtain ⟨cuts, q1, q2⟩ := cuts_cases hE (namesD d) d hd hl hN hD (fun p hp => mem_keysK.1 hp)
  refine ⟨E, cuts, hE, q1, ?_⟩
  unfold openD
  rw [if_neg (by rw [hd]; simp), hs]
  dsimp only
  rcases q2 with ⟨f1, f2, f3, f4, f5, f6⟩ | ⟨f1, f2, f3, f4, f5, f6, f7, f8, f9, f10, f11⟩
  · rw [if_pos (by rw [f1]; decide)]
    exact .inl ⟨rfl, rfl, f1, f2, f3, f4, f5, f6⟩
  · rw [if_neg (by rw [f1]; decide)]
    rcases sync_cases (cutsD E (namesD d) d).1 f2 with ⟨e1, e2, e3, e4, e5, e6⟩ | ⟨e1, e2, e3, e4, e5, e6, e7⟩
    · rw [if_pos (by rw [e1]; decide)]
      refine .inl ⟨rfl, rfl, e1, e2, e3.trans f3, e4.trans f4, e5.trans f5, ?_⟩
      refine Classical.byContradiction fun h0 => ?_
      rw [f6 (by omega)] at e6
      exact h0 e6
    · rw [if_neg (by rw [e1]; decide)]
      refine .inr ⟨by rw [List.length_map, hE.2.1], rfl, rfl, e2, e3.trans e4.symm, e5.trans f4, e6, fun h => (by rw [e7 (by rw [f6 h]; exact h), f6 h]), by rw [e4]; exact f7, ?_, fun p => by rw [e4]; exact f9 p⟩
      dsimp only
      rw [e4]
      exact clean_of f8 hE fun p hp => f11 p (mem_keysK.2 (by rw [← f9 p]; exact hp))
end Go.Proofs.YtgglheelhbfgiaaGreatDoor

namespace Go.Proofs.YtgglheelhbfgiaaGreatDoor
open Go Go.RowKit
theorem frame_le {n : Nat} {s : List UInt8} (h : recOk s = true) : (frameL n s).length ≤ 2036 := by
  have hr : 1 ≤ s.length ∧ s.length ≤ 2000 := by simpa [recOk] using h
  unfold frameL bodyL textL numL natL
  simp only [List.length_append, List.length_cons, beF_len]
  have h1 := wid_le (u64 n)
  have h2 := wid_le s.length
  generalize sumC _ = c
  generalize wid (u64 n) = a at *
  generalize wid s.length = b at *
  have h3 := wid_le (u64 c)
  have h4 := wid_le (a + 1 + (b + 1 + s.length))
  omega
theorem frames_le : ∀ (l : List (List UInt8)) (n : Nat), (∀ s ∈ l, recOk s = true) → (framesF n l).length ≤ 2036 * l.length
  | [], _, _ => by simp [framesF]
  | s :: r, n, h => by
    have h1 := frame_le (n := n) (h s (by simp))
    have h2 := frames_le r (n + 1) (fun x hx => h x (by simp [hx]))
    rw [framesF, List.length_append, List.length_cons]
    omega
theorem file_le {R : List (List UInt8)} (h : ∀ s ∈ R, recOk s = true) (k : Nat) : (fileL R k).length ≤ 16288 := by
  have h1 := frames_le ((R.drop (8 * k)).take 8) (8 * k) (fun s hs => h s (List.mem_of_mem_drop (List.mem_of_mem_take hs)))
  have h2 : ((R.drop (8 * k)).take 8).length ≤ 8 := by rw [List.length_take]; omega
  unfold fileL
  omega
/-- The writes of an append. -/
def wrA (Q : List (List UInt8)) : List (List UInt8) → List ActD
  | [] => []
  | s :: r => ⟨false, nameS (Q.length / 8), (fileL Q (Q.length / 8)).length, mkB (frameL Q.length s)⟩ :: wrA (Q ++ [s]) r
theorem laid_list (s : ByteArray) (n : Nat) (d : ByteArray) : (laidB s n d).data.toList = laidL s.data.toList n d.data.toList := rfl
theorem laid_end (s d : List UInt8) : laidL s s.length d = s ++ d := by
  unfold laidL padL
  rw [Nat.sub_self, List.replicate_zero, List.append_nil, List.take_length, List.drop_eq_nil_of_le (by omega), List.append_nil]
theorem laid_len (s d : List UInt8) (n : Nat) : (laidL s n d).length = max s.length (n + d.length) := by
  unfold laidL padL
  simp only [List.length_append, List.length_take, List.length_drop, List.length_replicate]
  omega
theorem half_list (d : ByteArray) : (halfB d).data.toList = d.data.toList.take (d.data.toList.length / 2) := by
  unfold halfB
  rw [ByteArray.data_extract, Array.toList_extract, List.extract_eq_take_drop, List.drop_zero, Nat.sub_zero, size_list]
theorem snoc_file {Q : List (List UInt8)} (s : List UInt8) (k : Nat) : fileL (Q ++ [s]) k = if k = Q.length / 8 then fileL Q k ++ frameL Q.length s else fileL Q k := by
  have h1 : (Q ++ [s])[Q.length]? = some s := by simp
  have h2 : (Q ++ [s]).take (Q.length + 1) = Q ++ [s] := List.take_of_length_le (by simp)
  have h3 : (Q ++ [s]).take Q.length = Q := by simp
  by_cases hk : k = Q.length / 8
  · rw [if_pos hk, hk]
    have := file_snoc h1
    rwa [h2, h3] at this
  · rw [if_neg hk]
    have := file_snoc_other (R := Q ++ [s]) hk
    rwa [h2, h3] at this
/-- One more is written. -/
theorem write_clean {now : Fls} {Q : List (List UInt8)} {s : List UInt8} (hN : NamesOK now) (hC : CleanF now Q) (hs : recOk s = true) (hl : Q.length < 800) :
    CleanF (doD now ⟨false, nameS (Q.length / 8), (fileL Q (Q.length / 8)).length, mkB (frameL Q.length s)⟩ false) (Q ++ [s]) ∧ NamesOK (doD now ⟨false, nameS (Q.length / 8), (fileL Q (Q.length / 8)).length, mkB (frameL Q.length s)⟩ false) := by
  have hc := hC.has (Q.length / 8) (by omega)
  have hlist : (laidB (hasD now (nameS (Q.length / 8))) (fileL Q (Q.length / 8)).length (mkB (frameL Q.length s))).data.toList = fileL Q (Q.length / 8) ++ frameL Q.length s := by
    rw [laid_list, hc, laid_end, mkB_list]
  have hr : ∀ x ∈ Q ++ [s], recOk x = true := fun x hx => by
    rcases List.mem_append.1 hx with hx | hx
    · exact hC.right x hx
    · rw [List.mem_singleton.1 hx]
      exact hs
  unfold doD
  dsimp only
  rw [if_neg (by decide), if_neg (by decide)]
  refine ⟨⟨by rw [List.length_append, List.length_singleton]; omega, hr, fun k hk => ?_⟩, hN.put (by omega) ?_⟩
  · rw [hasD_put hN.nodup, snoc_file]
    by_cases hkk : k = Q.length / 8
    · rw [if_pos (by rw [hkk]), if_pos hkk, hkk]
      exact hlist
    · rw [if_neg (fun e => hkk (nameS_inj e)), if_neg hkk]
      exact hC.has k hk
  · rw [size_list, hlist]
    have := file_le hr (Q.length / 8)
    rw [snoc_file, if_pos rfl] at this
    omega
/-- One more is torn. -/
theorem write_torn {now : Fls} {Q : List (List UInt8)} {s : List UInt8} (hN : NamesOK now) (hC : CleanF now Q) (hs : recOk s = true) (hl : Q.length < 800) :
    DirtyF (doD now ⟨false, nameS (Q.length / 8), (fileL Q (Q.length / 8)).length, mkB (frameL Q.length s)⟩ true) Q ∧ NamesOK (doD now ⟨false, nameS (Q.length / 8), (fileL Q (Q.length / 8)).length, mkB (frameL Q.length s)⟩ true) := by
  have hc := hC.has (Q.length / 8) (by omega)
  have hlist : (laidB (hasD now (nameS (Q.length / 8))) (fileL Q (Q.length / 8)).length (halfB (mkB (frameL Q.length s)))).data.toList = fileL Q (Q.length / 8) ++ (frameL Q.length s).take ((frameL Q.length s).length / 2) := by
    rw [laid_list, hc, laid_end, half_list, mkB_list]
  have h4 := frame_len Q.length s
  have h5 := frame_le (n := Q.length) hs
  unfold doD
  dsimp only
  rw [if_neg (by decide), if_pos rfl]
  refine ⟨⟨hC.len, hC.right, fun k hk => ?_, fun _ => ?_⟩, hN.put (by omega) ?_⟩
  · rw [hasD_put hN.nodup]
    split
    · rename_i e
      rw [nameS_inj e, hlist]
      exact ⟨_, rfl⟩
    · exact ⟨[], by rw [hC.has k hk, List.append_nil]⟩
  · rw [hasD_put hN.nodup, if_pos rfl, hlist, List.drop_left' rfl]
    refine first_torn (n := Q.length) (s := s) (q := (frameL Q.length s).drop ((frameL Q.length s).length / 2)) (by omega) hs (by rw [List.take_append_drop]) fun e => ?_
    have := congrArg List.length e
    rw [List.length_drop, List.length_nil] at this
    omega
  · have hr : ∀ x ∈ Q ++ [s], recOk x = true := fun x hx => by
      rcases List.mem_append.1 hx with hx | hx
      · exact hC.right x hx
      · rw [List.mem_singleton.1 hx]
        exact hs
    rw [size_list, hlist, List.length_append, List.length_take]
    have := file_le hr (Q.length / 8)
    rw [snoc_file, if_pos rfl, List.length_append] at this
    omega
/-- Behind the records there is nothing, or a hole. -/
structure HoleF (now : Fls) (Q : List (List UInt8)) : Prop where
  len : Q.length ≤ 800
  right : ∀ s ∈ Q, recOk s = true
  has : ∀ k, k < 100 → ∃ more, (hasD now (nameS k)).data.toList = fileL Q k ++ more ∧ (k = Q.length / 8 → more = [] ∨ ∃ m, more = 0 :: 0 :: m)
theorem HoleF.dirty {now : Fls} {Q : List (List UInt8)} (h : HoleF now Q) : DirtyF now Q := by
  refine ⟨h.len, h.right, fun k hk => (h.has k hk).imp fun _ h => h.1, fun hl => ?_⟩
  obtain ⟨more, e1, e2⟩ := h.has (Q.length / 8) (by omega)
  rw [e1, List.drop_left' rfl]
  rcases e2 rfl with rfl | ⟨m, rfl⟩
  · exact first_nil _
  · exact first_hole _ _
theorem CleanF.hole {now : Fls} {Q : List (List UInt8)} (h : CleanF now Q) : HoleF now Q :=
  ⟨h.len, h.right, fun k hk => ⟨[], by rw [h.has k hk, List.append_nil], fun _ => .inl rfl⟩⟩
structure FarA (Q : List (List UInt8)) (a : ActD) : Prop where
  cut : a.cut = false
  at_ : ∃ k, k < 100 ∧ a.name = nameS k ∧ a.n + a.data.size ≤ 16300 ∧ (Q.length / 8 < k ∨ (k = Q.length / 8 ∧ (fileL Q k).length + 2 ≤ a.n))
theorem laid_hole {F t : List UInt8} {o : Nat} (d : List UInt8) (ht : t = [] ∨ ∃ m, t = 0 :: 0 :: m) (ho : F.length + 2 ≤ o) : ∃ m, laidL (F ++ t) o d = F ++ 0 :: 0 :: m := by
  have h1 : ∃ m, padL (F ++ t) o = F ++ 0 :: 0 :: m := by
    unfold padL
    rcases ht with rfl | ⟨m, rfl⟩
    · rw [List.append_nil]
      obtain ⟨j, hj⟩ : ∃ j, o - F.length = j + 1 + 1 := ⟨o - F.length - 2, by omega⟩
      exact ⟨List.replicate j 0, by rw [hj, List.replicate_succ, List.replicate_succ]⟩
    · exact ⟨m ++ List.replicate (o - (F ++ 0 :: 0 :: m).length) 0, by simp⟩
  obtain ⟨m, hm⟩ := h1
  obtain ⟨j, rfl⟩ : ∃ j, o = F.length + (j + 1 + 1) := ⟨o - F.length - 2, by omega⟩
  refine ⟨m.take j ++ (d ++ (padL (F ++ t) (F.length + (j + 1 + 1))).drop (F.length + (j + 1 + 1) + d.length)), ?_⟩
  unfold laidL
  rw [hm, List.take_length_add_append, List.take_succ_cons, List.take_succ_cons]
  simp
theorem far_hole {now : Fls} {Q : List (List UInt8)} {a : ActD} (torn : Bool) (hN : NamesOK now) (h : HoleF now Q) (ha : FarA Q a) : HoleF (doD now a torn) Q ∧ NamesOK (doD now a torn) := by
  obtain ⟨cut, name, n, data⟩ := a
  obtain ⟨rfl, k, hk, rfl, hsz, hat⟩ := ha
  dsimp only at *
  have hds : (if torn = true then halfB data else data).size ≤ data.size := by
    split
    · rw [size_list, half_list, List.length_take, size_list]
      omega
    · exact Nat.le_refl _
  unfold doD
  dsimp only
  rw [if_neg (by decide)]
  generalize (if torn = true then halfB data else data) = d at *
  refine ⟨⟨h.len, h.right, fun j hj => ?_⟩, hN.put hk ?_⟩
  · rw [hasD_put hN.nodup]
    by_cases e : nameS j = nameS k
    · rw [if_pos e]
      obtain rfl := nameS_inj e
      obtain ⟨more, e1, e2⟩ := h.has j hj
      rcases hat with hlt | ⟨he, hle⟩
      · exact ⟨_, by rw [file_none (by omega)]; rfl, fun e => by omega⟩
      · rw [laid_list, e1]
        obtain ⟨m, hm⟩ := laid_hole d.data.toList (e2 he) hle
        exact ⟨_, hm, fun _ => .inr ⟨m, rfl⟩⟩
    · rw [if_neg e]
      exact h.has j hj
  · have := hN.small (nameS k)
    rw [size_list] at this
    rw [size_list, laid_list, laid_len, ← size_list d]
    omega
theorem far_run {Q : List (List UInt8)} (torn : Bool) : ∀ (acts : List ActD) (now : Fls), NamesOK now → HoleF now Q → (∀ a ∈ acts, FarA Q a) → HoleF (runD torn now acts) Q ∧ NamesOK (runD torn now acts)
  | [], now, hN, h, _ => ⟨h, hN⟩
  | [a], now, hN, h, ha => far_hole torn hN h (ha a (by simp))
  | a :: b :: r, now, hN, h, ha => by
    obtain ⟨h1, h2⟩ := far_hole false hN h (ha a (by simp))
    exact far_run torn (b :: r) _ h2 h1 (fun x hx => ha x (List.mem_cons_of_mem _ hx))
theorem kept_mem {keep : Int} : ∀ (l : List ActD) (i : Nat), ∀ a ∈ keptD keep i l, a ∈ l
  | [], _, a, h => by cases h
  | b :: r, i, a, h => by
    rw [keptD] at h
    split at h
    · rcases List.mem_cons.1 h with rfl | h
      · simp
      · exact List.mem_cons_of_mem _ (kept_mem r (i + 1) a h)
    · exact List.mem_cons_of_mem _ (kept_mem r (i + 1) a h)
theorem far_wr {Q : List (List UInt8)} : ∀ (r u : List (List UInt8)), u ≠ [] → (Q ++ u).length + r.length ≤ 800 → (∀ s ∈ Q ++ u ++ r, recOk s = true) → ∀ a ∈ wrA (Q ++ u) r, FarA Q a
  | [], _, _, _, _, a, h => by cases h
  | s :: r, u, hu, hl, hr, a, h => by
    rw [wrA] at h
    rw [List.length_cons] at hl
    rcases List.mem_cons.1 h with rfl | h
    · refine ⟨rfl, (Q ++ u).length / 8, by omega, rfl, ?_, ?_⟩
      · dsimp only
        rw [mkB_size]
        have hr2 : ∀ x ∈ (Q ++ u) ++ [s], recOk x = true := fun x hx => hr x (List.mem_append.2 ((List.mem_append.1 hx).imp id (fun h => by rw [List.mem_singleton.1 h]; simp)))
        have := file_le hr2 ((Q ++ u).length / 8)
        rw [snoc_file, if_pos rfl, List.length_append] at this
        omega
      · by_cases hlt : Q.length / 8 < (Q ++ u).length / 8
        · exact .inl hlt
        · have hge : Q.length / 8 ≤ (Q ++ u).length / 8 := Nat.div_le_div_right (by rw [List.length_append]; omega)
          have he : (Q ++ u).length / 8 = Q.length / 8 := by omega
          refine .inr ⟨he, ?_⟩
          dsimp only
          rw [he]
          obtain ⟨x, u', rfl⟩ : ∃ x u', u = x :: u' := by
            cases u with
            | nil => exact absurd rfl hu
            | cons x u' => exact ⟨x, u', rfl⟩
          obtain ⟨more, hm⟩ := file_next (R := Q ++ x :: u') (i := Q.length) (s := x) (by simp)
          rw [show (Q ++ x :: u').take Q.length = Q by simp] at hm
          rw [hm, List.length_append, List.length_append]
          have := frame_len Q.length x
          omega
    · rw [List.append_assoc] at h
      refine far_wr r (u ++ [s]) (by simp) (by simp only [List.length_append, List.length_singleton] at hl ⊢; omega) (fun x hx => hr x ?_) a h
      rw [show Q ++ u ++ s :: r = Q ++ (u ++ [s]) ++ r by simp]
      exact hx
/-- What a crash leaves of an append. -/
theorem crash_writes (keep : Int) (torn : Bool) : ∀ (r : List (List UInt8)) (Q : List (List UInt8)) (i : Nat) (now : Fls), NamesOK now → CleanF now Q → Q.length + r.length ≤ 800 → (∀ s ∈ r, recOk s = true) →
    ∃ j, j ≤ r.length ∧ DirtyF (runD torn now (keptD keep i (wrA Q r))) (Q ++ r.take j) ∧ NamesOK (runD torn now (keptD keep i (wrA Q r)))
  | [], Q, i, now, hN, hC, _, _ => ⟨0, Nat.le_refl _, by simpa [wrA, keptD, runD] using hC.dirty, by simpa [wrA, keptD, runD] using hN⟩
  | s :: r, Q, i, now, hN, hC, hl, hr => by
    rw [List.length_cons] at hl
    have hs := hr s (by simp)
    have hr' : ∀ x ∈ r, recOk x = true := fun x hx => hr x (by simp [hx])
    rw [wrA, keptD]
    split
    · cases hk : keptD keep (i + 1) (wrA (Q ++ [s]) r) with
      | nil =>
        cases torn with
        | true =>
          obtain ⟨h1, h2⟩ := write_torn hN hC hs (by omega)
          exact ⟨0, Nat.zero_le _, by simpa [runD] using h1, by simpa [runD] using h2⟩
        | false =>
          obtain ⟨h1, h2⟩ := write_clean hN hC hs (by omega)
          exact ⟨1, by simp, by simpa [runD] using h1.dirty, by simpa [runD] using h2⟩
      | cons b t =>
        obtain ⟨h1, h2⟩ := write_clean hN hC hs (by omega)
        obtain ⟨j, hj, e1, e2⟩ := crash_writes keep torn r (Q ++ [s]) (i + 1) _ h2 h1 (by simp; omega) hr'
        rw [hk] at e1 e2
        refine ⟨j + 1, by simp; omega, ?_, ?_⟩
        · rw [List.take_succ_cons]
          rw [List.append_assoc] at e1
          exact e1
        · exact e2
    · have hfar := far_wr (Q := Q) r [s] (by simp) (by simp; omega) (fun x hx => by
        simp only [List.mem_append, List.mem_singleton] at hx
        rcases hx with (hx | rfl) | hx
        · exact hC.right x hx
        · exact hs
        · exact hr' x hx)
      obtain ⟨h1, h2⟩ := far_run torn (keptD keep (i + 1) (wrA (Q ++ [s]) r)) now hN hC.hole (fun a ha => hfar a (kept_mem _ _ a ha))
      exact ⟨0, Nat.zero_le _, by simpa using h1.dirty, h2⟩
/-- What a crash leaves of an opening. -/
theorem crash_cuts {R : List (List UInt8)} {E : Ends} (hE : EndsOf R E) (torn : Bool) : ∀ (acts : List ActD) (now : Fls), NamesOK now → DirtyF now R → (∀ a ∈ acts, KeepsA E a) → DirtyF (runD torn now acts) R ∧ NamesOK (runD torn now acts)
  | [], now, hN, h, _ => ⟨h, hN⟩
  | [a], now, hN, h, ha => by
    obtain ⟨h1, h2, _⟩ := cut_dirty torn hN h hE (ha a (by simp))
    exact ⟨h1, h2⟩
  | a :: b :: r, now, hN, h, ha => by
    obtain ⟨h1, h2, _⟩ := cut_dirty false hN h hE (ha a (by simp))
    exact crash_cuts hE torn (b :: r) _ h2 h1 (fun x hx => ha x (List.mem_cons_of_mem _ hx))
end Go.Proofs.YtgglheelhbfgiaaGreatDoor

namespace Go.Proofs.YtgglheelhbfgiaaGreatDoor
open Go Go.RowKit
theorem frame_le2 {n : Nat} {s : List UInt8} : (frameL n s).length ≤ 36 + s.length := by
  unfold frameL bodyL textL numL natL
  simp only [List.length_append, List.length_cons, beF_len]
  have h1 := wid_le (u64 n)
  have h2 := wid_le s.length
  generalize sumC _ = c
  generalize wid (u64 n) = a at *
  generalize wid s.length = b at *
  have h3 := wid_le (u64 c)
  have h4 := wid_le (a + 1 + (b + 1 + s.length))
  omega
theorem frames_le2 {c : Nat} : ∀ (l : List (List UInt8)) (n : Nat), (∀ s ∈ l, s.length ≤ c) → (framesF n l).length ≤ l.length * (36 + c)
  | [], _, _ => by simp [framesF]
  | s :: r, n, h => by
    have h1 := frame_le2 (n := n) (s := s)
    have h0 := h s (by simp)
    have h2 := frames_le2 r (n + 1) (fun x hx => h x (by simp [hx]))
    rw [framesF, List.length_append, List.length_cons, Nat.succ_mul]
    omega
theorem file_le2 {R : List (List UInt8)} {c : Nat} (h : ∀ s ∈ R, s.length ≤ c) (k : Nat) : (fileL R k).length ≤ 8 * (36 + c) := by
  have h1 := frames_le2 ((R.drop (8 * k)).take 8) (8 * k) (fun s hs => h s (List.mem_of_mem_drop (List.mem_of_mem_take hs)))
  have h2 : ((R.drop (8 * k)).take 8).length ≤ 8 := by rw [List.length_take]; omega
  have h3 := Nat.mul_le_mul_right (36 + c) h2
  unfold fileL
  omega
theorem nodup_sub {α : Type} [DecidableEq α] : ∀ {l m : List α}, l.Nodup → (∀ x ∈ l, x ∈ m) → l.length ≤ m.length
  | [], _, _, _ => Nat.zero_le _
  | x :: r, m, hn, h => by
    have hx := h x (by simp)
    obtain ⟨hn1, hn2⟩ := List.nodup_cons.1 hn
    have := nodup_sub (m := m.erase x) hn2 fun y hy => (List.mem_erase_of_ne (fun e => hn1 (by rw [← e]; exact hy))).2 (h y (by simp [hy]))
    rw [List.length_erase_of_mem hx] at this
    have := List.length_pos_of_mem hx
    rw [List.length_cons]
    omega
theorem sum_le {M : Nat} : ∀ (l : List Nat), (∀ x ∈ l, x ≤ M) → l.sum ≤ l.length * M
  | [], _ => by simp
  | x :: r, h => by
    have h1 := h x (by simp)
    have h2 := sum_le r (fun y hy => h y (by simp [hy]))
    rw [List.sum_cons, List.length_cons, Nat.succ_mul]
    omega
theorem size_bound {now : Fls} {M : Nat} (hN : NamesOK now) (h : ∀ k, k < 100 → (hasD now (nameS k)).size ≤ M) : sizeF now ≤ 100 * M := by
  have h1 : now.length ≤ 100 := by
    have h2 := nodup_sub (l := now.map (·.1)) (m := (List.range 100).map nameS) hN.nodup fun p hp => by
      obtain ⟨k, hk, e⟩ := hN.names p (mem_keysK.1 hp)
      exact List.mem_map.2 ⟨k, List.mem_range.2 hk, e.symm⟩
    simpa using h2
  have h3 := sum_le (M := M) (now.map fun x => x.2.size) fun y hy => by
    obtain ⟨x, hx, rfl⟩ := List.mem_map.1 hy
    have hf := findK_of hN.nodup (p := x.1) (a := x.2) hx
    obtain ⟨k, hk, e⟩ := hN.names x.1 (by rw [hf]; rfl)
    have := h k hk
    rw [← e, hasD_some hf] at this
    exact this
  rw [List.length_map] at h3
  have h4 := Nat.mul_le_mul_right M h1
  unfold sizeF
  omega
theorem clean_room {now : Fls} {Q : List (List UInt8)} {c : Nat} (hN : NamesOK now) (hC : CleanF now Q) (hc : ∀ s ∈ Q, s.length ≤ c) : sizeF now ≤ 100 * (8 * (36 + c)) :=
  size_bound hN fun k hk => by
    rw [size_list, hC.has k hk]
    exact file_le2 hc k
def rsL (rs : List ByteArray) : List (List UInt8) := rs.map fun s => s.data.toList
/-- What the writes of an append leave. -/
theorem lay_cases {many c : Nat} : ∀ (rs : List ByteArray) (Q : List (List UInt8)) (i : Nat) (at_ : Int) (d : Dk), many + i = Q.length → d.dead = false → NamesOK d.now → CleanF d.now Q → Q.length + rs.length ≤ 800 → (∀ s ∈ rsL rs, recOk s = true) → (∀ s ∈ Q ++ rsL rs, s.length ≤ c) → 100 * (8 * (36 + c)) + 17000 ≤ d.limit → (Q.length % 8 ≠ 0 → at_ = (fileL Q (Q.length / 8)).length) →
    (∃ m, m ≤ rs.length ∧ (layG many i at_ rs d).2.2 = 42 ∧ (layG many i at_ rs d).1.dead = true ∧ (layG many i at_ rs d).1.firm = d.firm ∧ (layG many i at_ rs d).1.limit = d.limit ∧ (layG many i at_ rs d).1.acts = d.acts ++ wrA Q ((rsL rs).take m) ∧ 0 < d.armed) ∨
    ((layG many i at_ rs d).2.2 = 0 ∧ (layG many i at_ rs d).1.dead = false ∧ (layG many i at_ rs d).1.firm = d.firm ∧ (layG many i at_ rs d).1.limit = d.limit ∧ (layG many i at_ rs d).1.acts = d.acts ++ wrA Q (rsL rs) ∧ (d.armed ≤ 0 → (layG many i at_ rs d).1.armed = d.armed) ∧
      NamesOK (layG many i at_ rs d).1.now ∧ CleanF (layG many i at_ rs d).1.now (Q ++ rsL rs) ∧ ((Q ++ rsL rs).length % 8 ≠ 0 → (layG many i at_ rs d).2.1 = (fileL (Q ++ rsL rs) ((Q ++ rsL rs).length / 8)).length) ∧
      (∀ p, (findK (layG many i at_ rs d).1.now p).isSome = true ↔ ((findK d.now p).isSome = true ∨ ∃ j, Q.length ≤ j ∧ j < Q.length + rs.length ∧ p = nameS (j / 8))))
  | [], Q, i, at_, d, _, hd, hN, hC, _, _, _, _, hat => .inr ⟨rfl, hd, rfl, rfl, by simp [rsL, wrA, layG], fun _ => rfl, hN, by simpa [rsL, layG] using hC, by simpa [rsL, layG] using hat, fun p => ⟨.inl, fun h => by
      rcases h with h | ⟨j, h1, h2, _⟩
      · exact h
      · simp at h2
        omega⟩⟩
  | s :: r, Q, i, at_, d, hq, hd, hN, hC, hl, hr, hc, hlim, hat => by
    rw [List.length_cons] at hl
    have hs : recOk s.data.toList = true := hr _ (by simp [rsL])
    have hat2 : (if (many + i) % 8 = 0 then 0 else at_) = ((fileL Q (Q.length / 8)).length : Int) := by
      rw [hq]
      split
      · rw [file_none (by omega)]
        rfl
      · exact hat ‹_›
    have hfl := frame_le2 (n := Q.length) (s := s.data.toList)
    have hsc := hc s.data.toList (by simp [rsL])
    have hs2 : 1 ≤ s.data.toList.length ∧ s.data.toList.length ≤ 2000 := by simpa [recOk] using hs
    have hfb : (frameB (many + i) s).size = (frameL Q.length s.data.toList).length := by rw [hq]; exact mkB_size _
    have hroom := clean_room hN hC (fun x hx => hc x (by simp [hx]))
    have hfile := file_le2 (R := Q) (fun x hx => hc x (by simp [hx])) (Q.length / 8)
    have hhad : (hasD d.now (nameS (Q.length / 8))).size = (fileL Q (Q.length / 8)).length := by rw [size_list, hC.has _ (by omega)]
    have hw : writeD d (nameS ((many + i) / 8)) (if (many + i) % 8 = 0 then 0 else at_) (frameB (many + i) s) = doesD d ⟨false, nameS (Q.length / 8), (fileL Q (Q.length / 8)).length, mkB (frameL Q.length s.data.toList)⟩ := by
      rw [hat2]
      unfold writeD
      rw [hq, wrong_none hd (by omega) (by omega) (by omega), if_neg (by decide), if_neg ?_, Int.toNat_natCast]
      · rfl
      · rw [hhad, show (frameB Q.length s).size = (frameL Q.length s.data.toList).length from mkB_size _]
        omega
    rw [layG, hw]
    have hwr : wrA Q (rsL (s :: r)) = ⟨false, nameS (Q.length / 8), (fileL Q (Q.length / 8)).length, mkB (frameL Q.length s.data.toList)⟩ :: wrA (Q ++ [s.data.toList]) (rsL r) := rfl
    rcases does_cases d ⟨false, nameS (Q.length / 8), (fileL Q (Q.length / 8)).length, mkB (frameL Q.length s.data.toList)⟩ hd with ⟨e1, e2, e3, e4, e5, e6⟩ | ⟨e1, e2, e3, e4, e5, e6, e7⟩
    · rw [if_pos (by rw [e1]; decide)]
      exact .inl ⟨1, by simp, e1, e2, e3, e4, by rw [e5]; rfl, e6⟩
    · rw [if_neg (by rw [e1]; decide), hat2, hfb]
      obtain ⟨w1, w2⟩ := write_clean hN hC hs (by omega)
      rw [← e6] at w1 w2
      have hfk : ∀ p, (findK (doesD d ⟨false, nameS (Q.length / 8), (fileL Q (Q.length / 8)).length, mkB (frameL Q.length s.data.toList)⟩).1.now p).isSome = true ↔ ((findK d.now p).isSome = true ∨ p = nameS (Q.length / 8)) := fun p => by
        rw [e6]
        unfold doD
        dsimp only
        rw [if_neg (by decide), findK_put hN.nodup]
        split
        · rename_i e
          exact ⟨fun _ => .inr e, fun _ => rfl⟩
        · rename_i e
          exact ⟨.inl, fun h => h.resolve_right e⟩
      have hlen1 : (Q ++ [s.data.toList]).length = Q.length + 1 := by simp
      have happ : Q ++ rsL (s :: r) = Q ++ [s.data.toList] ++ rsL r := by simp [rsL]
      have ih := lay_cases (many := many) (c := c) r (Q ++ [s.data.toList]) (i + 1) (((fileL Q (Q.length / 8)).length : Int) + ((frameL Q.length s.data.toList).length : Int)) (doesD d ⟨false, nameS (Q.length / 8), (fileL Q (Q.length / 8)).length, mkB (frameL Q.length s.data.toList)⟩).1 (by rw [hlen1]; omega) e2 w2 w1 (by rw [hlen1]; omega) (fun x hx => hr x (by simp only [rsL, List.map_cons, List.mem_cons] at hx ⊢; exact .inr hx)) (fun x hx => hc x (by rw [happ]; exact hx)) (by rw [e4]; exact hlim) (fun h8 => by
        rw [hlen1] at h8 ⊢
        rw [show (Q.length + 1) / 8 = Q.length / 8 by omega, snoc_file, if_pos rfl, List.length_append]
        omega)
      rcases ih with ⟨m, f1, f2, f3, f4, f5, f6, f7⟩ | ⟨f1, f2, f3, f4, f5, f6, f7, f8, f9, f10⟩
      · refine .inl ⟨m + 1, by simp; omega, f2, f3, f4.trans e3, f5.trans e4, ?_, ?_⟩
        · rw [f6, e5, show (rsL (s :: r)).take (m + 1) = s.data.toList :: (rsL r).take m from rfl, wrA, List.append_assoc]
          rfl
        · refine Classical.byContradiction fun h0 => ?_
          rw [e7 (by omega)] at f7
          exact h0 f7
      · refine .inr ⟨f1, f2, f3.trans e3, f4.trans e4, by rw [f5, e5, hwr, List.append_assoc]; rfl, fun h => (by rw [f6 (by rw [e7 h]; exact h), e7 h]), f7, by rw [happ]; exact f8, by rw [happ]; exact f9, fun p => ?_⟩
        rw [f10, hfk, hlen1]
        constructor
        · rintro ((h | h) | ⟨j, h1, h2, h3⟩)
          · exact .inl h
          · exact .inr ⟨Q.length, Nat.le_refl _, by simp, h⟩
          · exact .inr ⟨j, by omega, by simp; omega, h3⟩
        · rintro (h | ⟨j, h1, h2, h3⟩)
          · exact .inl (.inl h)
          · by_cases hj : j = Q.length
            · rw [hj] at h3
              exact .inl (.inr h3)
            · rw [List.length_cons] at h2
              exact .inr ⟨j, by omega, by omega, h3⟩
end Go.Proofs.YtgglheelhbfgiaaGreatDoor

