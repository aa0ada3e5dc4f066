/-
  Whatever acts of an append stay, torn or not, there are all records of before, and a beginning of the others: the plain law. What an append writes: the plain law. Append, crash, open, crash, open: the plain law of SeglogLasts.
-/
import Derived.Test.YtgglheelhbfgiaaGreatDoorMg12
namespace Go.Proofs.YtgglheelhbfgiaaGreatDoor
open Go Go.RowKit
theorem frame_le {n : Nat} {s : List UInt8} (h : recOk s = true) : (frameL n s).length ≤ 2036 := by
  have hr : 1 ≤ s.length ∧ s.length ≤ 2000 := by simpa [recOk] using h
  unfold frameL bodyL textL numL natL
  simp only [List.length_append, List.length_cons, beF_len]
  have h1 := wid_le (u64 n)
  have h2 := wid_le s.length
  generalize sumC _ = c
  generalize wid (u64 n) = a at *
  generalize wid s.length = b at *
  have h3 := wid_le (u64 c)
  have h4 := wid_le (a + 1 + (b + 1 + s.length))
  omega
theorem frames_le : ∀ (l : List (List UInt8)) (n : Nat), (∀ s ∈ l, recOk s = true) → (framesF n l).length ≤ 2036 * l.length
  | [], _, _ => by simp [framesF]
  | s :: r, n, h => by
    have h1 := frame_le (n := n) (h s (by simp))
    have h2 := frames_le r (n + 1) (fun x hx => h x (by simp [hx]))
    rw [framesF, List.length_append, List.length_cons]
    omega
theorem file_le {R : List (List UInt8)} (h : ∀ s ∈ R, recOk s = true) (k : Nat) : (fileL R k).length ≤ 16288 := by
  have h1 := frames_le ((R.drop (8 * k)).take 8) (8 * k) (fun s hs => h s (List.mem_of_mem_drop (List.mem_of_mem_take hs)))
  have h2 : ((R.drop (8 * k)).take 8).length ≤ 8 := by rw [List.length_take]; omega
  unfold fileL
  omega
/-- The writes of an append. -/
def wrA (Q : List (List UInt8)) : List (List UInt8) → List ActD
  | [] => []
  | s :: r => ⟨false, nameS (Q.length / 8), (fileL Q (Q.length / 8)).length, mkB (frameL Q.length s)⟩ :: wrA (Q ++ [s]) r
theorem laid_list (s : ByteArray) (n : Nat) (d : ByteArray) : (laidB s n d).data.toList = laidL s.data.toList n d.data.toList := rfl
theorem laid_end (s d : List UInt8) : laidL s s.length d = s ++ d := by
  unfold laidL padL
  rw [Nat.sub_self, List.replicate_zero, List.append_nil, List.take_length, List.drop_eq_nil_of_le (by omega), List.append_nil]
theorem laid_len (s d : List UInt8) (n : Nat) : (laidL s n d).length = max s.length (n + d.length) := by
  unfold laidL padL
  simp only [List.length_append, List.length_take, List.length_drop, List.length_replicate]
  omega
theorem half_list (d : ByteArray) : (halfB d).data.toList = d.data.toList.take (d.data.toList.length / 2) := by
  unfold halfB
  rw [ByteArray.data_extract, Array.toList_extract, List.extract_eq_take_drop, List.drop_zero, Nat.sub_zero, size_list]
theorem snoc_file {Q : List (List UInt8)} (s : List UInt8) (k : Nat) : fileL (Q ++ [s]) k = if k = Q.length / 8 then fileL Q k ++ frameL Q.length s else fileL Q k := by
  have h1 : (Q ++ [s])[Q.length]? = some s := by simp
  have h2 : (Q ++ [s]).take (Q.length + 1) = Q ++ [s] := List.take_of_length_le (by simp)
  have h3 : (Q ++ [s]).take Q.length = Q := by simp
  by_cases hk : k = Q.length / 8
  · rw [if_pos hk, hk]
    have := file_snoc h1
    rwa [h2, h3] at this
  · rw [if_neg hk]
    have := file_snoc_other (R := Q ++ [s]) hk
    rwa [h2, h3] at this
/-- One more is written. -/
theorem write_clean {now : Fls} {Q : List (List UInt8)} {s : List UInt8} (hN : NamesOK now) (hC : CleanF now Q) (hs : recOk s = true) (hl : Q.length < 800) :
    CleanF (doD now ⟨false, nameS (Q.length / 8), (fileL Q (Q.length / 8)).length, mkB (frameL Q.length s)⟩ false) (Q ++ [s]) ∧ NamesOK (doD now ⟨false, nameS (Q.length / 8), (fileL Q (Q.length / 8)).length, mkB (frameL Q.length s)⟩ false) := by
  have hc := hC.has (Q.length / 8) (by omega)
  have hlist : (laidB (hasD now (nameS (Q.length / 8))) (fileL Q (Q.length / 8)).length (mkB (frameL Q.length s))).data.toList = fileL Q (Q.length / 8) ++ frameL Q.length s := by
    rw [laid_list, hc, laid_end, mkB_list]
  have hr : ∀ x ∈ Q ++ [s], recOk x = true := fun x hx => by
    rcases List.mem_append.1 hx with hx | hx
    · exact hC.right x hx
    · rw [List.mem_singleton.1 hx]
      exact hs
  unfold doD
  dsimp only
  rw [if_neg (by decide), if_neg (by decide)]
  refine ⟨⟨by rw [List.length_append, List.length_singleton]; omega, hr, fun k hk => ?_⟩, hN.put (by omega) ?_⟩
  · rw [hasD_put hN.nodup, snoc_file]
    by_cases hkk : k = Q.length / 8
    · rw [if_pos (by rw [hkk]), if_pos hkk, hkk]
      exact hlist
    · rw [if_neg (fun e => hkk (nameS_inj e)), if_neg hkk]
      exact hC.has k hk
  · rw [size_list, hlist]
    have := file_le hr (Q.length / 8)
    rw [snoc_file, if_pos rfl] at this
    omega
/-- One more is torn. -/
theorem write_torn {now : Fls} {Q : List (List UInt8)} {s : List UInt8} (hN : NamesOK now) (hC : CleanF now Q) (hs : recOk s = true) (hl : Q.length < 800) :
    DirtyF (doD now ⟨false, nameS (Q.length / 8), (fileL Q (Q.length / 8)).length, mkB (frameL Q.length s)⟩ true) Q ∧ NamesOK (doD now ⟨false, nameS (Q.length / 8), (fileL Q (Q.length / 8)).length, mkB (frameL Q.length s)⟩ true) := by
  have hc := hC.has (Q.length / 8) (by omega)
  have hlist : (laidB (hasD now (nameS (Q.length / 8))) (fileL Q (Q.length / 8)).length (halfB (mkB (frameL Q.length s)))).data.toList = fileL Q (Q.length / 8) ++ (frameL Q.length s).take ((frameL Q.length s).length / 2) := by
    rw [laid_list, hc, laid_end, half_list, mkB_list]
  have h4 := frame_len Q.length s
  have h5 := frame_le (n := Q.length) hs
  unfold doD
  dsimp only
  rw [if_neg (by decide), if_pos rfl]
  refine ⟨⟨hC.len, hC.right, fun k hk => ?_, fun _ => ?_⟩, hN.put (by omega) ?_⟩
  · rw [hasD_put hN.nodup]
    split
    · rename_i e
      rw [nameS_inj e, hlist]
      exact ⟨_, rfl⟩
    · exact ⟨[], by rw [hC.has k hk, List.append_nil]⟩
  · rw [hasD_put hN.nodup, if_pos rfl, hlist, List.drop_left' rfl]
    refine first_torn (n := Q.length) (s := s) (q := (frameL Q.length s).drop ((frameL Q.length s).length / 2)) (by omega) hs (by rw [List.take_append_drop]) fun e => ?_
    have := congrArg List.length e
    rw [List.length_drop, List.length_nil] at this
    omega
  · have hr : ∀ x ∈ Q ++ [s], recOk x = true := fun x hx => by
      rcases List.mem_append.1 hx with hx | hx
      · exact hC.right x hx
      · rw [List.mem_singleton.1 hx]
        exact hs
    rw [size_list, hlist, List.length_append, List.length_take]
    have := file_le hr (Q.length / 8)
    rw [snoc_file, if_pos rfl, List.length_append] at this
    omega
/-- Behind the records there is nothing, or a hole. -/
structure HoleF (now : Fls) (Q : List (List UInt8)) : Prop where
  len : Q.length ≤ 800
  right : ∀ s ∈ Q, recOk s = true
  has : ∀ k, k < 100 → ∃ more, (hasD now (nameS k)).data.toList = fileL Q k ++ more ∧ (k = Q.length / 8 → more = [] ∨ ∃ m, more = 0 :: 0 :: m)
theorem HoleF.dirty {now : Fls} {Q : List (List UInt8)} (h : HoleF now Q) : DirtyF now Q := by
  refine ⟨h.len, h.right, fun k hk => (h.has k hk).imp fun _ h => h.1, fun hl => ?_⟩
  obtain ⟨more, e1, e2⟩ := h.has (Q.length / 8) (by omega)
  rw [e1, List.drop_left' rfl]
  rcases e2 rfl with rfl | ⟨m, rfl⟩
  · exact first_nil _
  · exact first_hole _ _
theorem CleanF.hole {now : Fls} {Q : List (List UInt8)} (h : CleanF now Q) : HoleF now Q :=
  ⟨h.len, h.right, fun k hk => ⟨[], by rw [h.has k hk, List.append_nil], fun _ => .inl rfl⟩⟩
structure FarA (Q : List (List UInt8)) (a : ActD) : Prop where
  cut : a.cut = false
  at_ : ∃ k, k < 100 ∧ a.name = nameS k ∧ a.n + a.data.size ≤ 16300 ∧ (Q.length / 8 < k ∨ (k = Q.length / 8 ∧ (fileL Q k).length + 2 ≤ a.n))
theorem laid_hole {F t : List UInt8} {o : Nat} (d : List UInt8) (ht : t = [] ∨ ∃ m, t = 0 :: 0 :: m) (ho : F.length + 2 ≤ o) : ∃ m, laidL (F ++ t) o d = F ++ 0 :: 0 :: m := by
  have h1 : ∃ m, padL (F ++ t) o = F ++ 0 :: 0 :: m := by
    unfold padL
    rcases ht with rfl | ⟨m, rfl⟩
    · rw [List.append_nil]
      obtain ⟨j, hj⟩ : ∃ j, o - F.length = j + 1 + 1 := ⟨o - F.length - 2, by omega⟩
      exact ⟨List.replicate j 0, by rw [hj, List.replicate_succ, List.replicate_succ]⟩
    · exact ⟨m ++ List.replicate (o - (F ++ 0 :: 0 :: m).length) 0, by simp⟩
  obtain ⟨m, hm⟩ := h1
  obtain ⟨j, rfl⟩ : ∃ j, o = F.length + (j + 1 + 1) := ⟨o - F.length - 2, by omega⟩
  refine ⟨m.take j ++ (d ++ (padL (F ++ t) (F.length + (j + 1 + 1))).drop (F.length + (j + 1 + 1) + d.length)), ?_⟩
  unfold laidL
  rw [hm, List.take_length_add_append, List.take_succ_cons, List.take_succ_cons]
  simp
theorem far_hole {now : Fls} {Q : List (List UInt8)} {a : ActD} (torn : Bool) (hN : NamesOK now) (h : HoleF now Q) (ha : FarA Q a) : HoleF (doD now a torn) Q ∧ NamesOK (doD now a torn) := by
  obtain ⟨cut, name, n, data⟩ := a
  obtain ⟨rfl, k, hk, rfl, hsz, hat⟩ := ha
  dsimp only at *
  have hds : (if torn = true then halfB data else data).size ≤ data.size := by
    split
    · rw [size_list, half_list, List.length_take, size_list]
      omega
    · exact Nat.le_refl _
  unfold doD
  dsimp only
  rw [if_neg (by decide)]
  generalize (if torn = true then halfB data else data) = d at *
  refine ⟨⟨h.len, h.right, fun j hj => ?_⟩, hN.put hk ?_⟩
  · rw [hasD_put hN.nodup]
    by_cases e : nameS j = nameS k
    · rw [if_pos e]
      obtain rfl := nameS_inj e
      obtain ⟨more, e1, e2⟩ := h.has j hj
      rcases hat with hlt | ⟨he, hle⟩
      · exact ⟨_, by rw [file_none (by omega)]; rfl, fun e => by omega⟩
      · rw [laid_list, e1]
        obtain ⟨m, hm⟩ := laid_hole d.data.toList (e2 he) hle
        exact ⟨_, hm, fun _ => .inr ⟨m, rfl⟩⟩
    · rw [if_neg e]
      exact h.has j hj
  · have := hN.small (nameS k)
    rw [size_list] at this
    rw [size_list, laid_list, laid_len, ← size_list d]
    omega
theorem far_run {Q : List (List UInt8)} (torn : Bool) : ∀ (acts : List ActD) (now : Fls), NamesOK now → HoleF now Q → (∀ a ∈ acts, FarA Q a) → HoleF (runD torn now acts) Q ∧ NamesOK (runD torn now acts)
  | [], now, hN, h, _ => ⟨h, hN⟩
  | [a], now, hN, h, ha => far_hole torn hN h (ha a (by simp))
  | a :: b :: r, now, hN, h, ha => by
    obtain ⟨h1, h2⟩ := far_hole false hN h (ha a (by simp))
    exact far_run torn (b :: r) _ h2 h1 (fun x hx => ha x (List.mem_cons_of_mem _ hx))
theorem kept_mem {keep : Int} : ∀ (l : List ActD) (i : Nat), ∀ a ∈ keptD keep i l, a ∈ l
  | [], _, a, h => by cases h
  | b :: r, i, a, h => by
    rw [keptD] at h
    split at h
    · rcases List.mem_cons.1 h with rfl | h
      · simp
      · exact List.mem_cons_of_mem _ (kept_mem r (i + 1) a h)
    · exact List.mem_cons_of_mem _ (kept_mem r (i + 1) a h)
theorem far_wr {Q : List (List UInt8)} : ∀ (r u : List (List UInt8)), u ≠ [] → (Q ++ u).length + r.length ≤ 800 → (∀ s ∈ Q ++ u ++ r, recOk s = true) → ∀ a ∈ wrA (Q ++ u) r, FarA Q a
  | [], _, _, _, _, a, h => by cases h
  | s :: r, u, hu, hl, hr, a, h => by
    rw [wrA] at h
    rw [List.length_cons] at hl
    rcases List.mem_cons.1 h with rfl | h
    · refine ⟨rfl, (Q ++ u).length / 8, by omega, rfl, ?_, ?_⟩
      · dsimp only
        rw [mkB_size]
        have hr2 : ∀ x ∈ (Q ++ u) ++ [s], recOk x = true := fun x hx => hr x (List.mem_append.2 ((List.mem_append.1 hx).imp id (fun h => by rw [List.mem_singleton.1 h]; simp)))
        have := file_le hr2 ((Q ++ u).length / 8)
        rw [snoc_file, if_pos rfl, List.length_append] at this
        omega
      · by_cases hlt : Q.length / 8 < (Q ++ u).length / 8
        · exact .inl hlt
        · have hge : Q.length / 8 ≤ (Q ++ u).length / 8 := Nat.div_le_div_right (by rw [List.length_append]; omega)
          have he : (Q ++ u).length / 8 = Q.length / 8 := by omega
          refine .inr ⟨he, ?_⟩
          dsimp only
          rw [he]
          obtain ⟨x, u', rfl⟩ : ∃ x u', u = x :: u' := by
            cases u with
            | nil => exact absurd rfl hu
            | cons x u' => exact ⟨x, u', rfl⟩
          obtain ⟨more, hm⟩ := file_next (R := Q ++ x :: u') (i := Q.length) (s := x) (by simp)
          rw [show (Q ++ x :: u').take Q.length = Q by simp] at hm
          rw [hm, List.length_append, List.length_append]
          have := frame_len Q.length x
          omega
    · rw [List.append_assoc] at h
      refine far_wr r (u ++ [s]) (by simp) (by simp only [List.length_append, List.length_singleton] at hl ⊢; omega) (fun x hx => hr x ?_) a h
      rw [show Q ++ u ++ s :: r = Q ++ (u ++ [s]) ++ r by simp]
      exact hx
/-- What a crash leaves of an append. -/
theorem crash_writes (keep : Int) (torn : Bool) : ∀ (r : List (List UInt8)) (Q : List (List UInt8)) (i : Nat) (now : Fls), NamesOK now → CleanF now Q → Q.length + r.length ≤ 800 → (∀ s ∈ r, recOk s = true) →
    ∃ j, j ≤ r.length ∧ DirtyF (runD torn now (keptD keep i (wrA Q r))) (Q ++ r.take j) ∧ NamesOK (runD torn now (keptD keep i (wrA Q r)))
  | [], Q, i, now, hN, hC, _, _ => ⟨0, Nat.le_refl _, by simpa [wrA, keptD, runD] using hC.dirty, by simpa [wrA, keptD, runD] using hN⟩
  | s :: r, Q, i, now, hN, hC, hl, hr => by
    rw [List.length_cons] at hl
    have hs := hr s (by simp)
    have hr' : ∀ x ∈ r, recOk x = true := fun x hx => hr x (by simp [hx])
    rw [wrA, keptD]
    split
    · cases hk : keptD keep (i + 1) (wrA (Q ++ [s]) r) with
      | nil =>
        cases torn with
        | true =>
          obtain ⟨h1, h2⟩ := write_torn hN hC hs (by omega)
          exact ⟨0, Nat.zero_le _, by simpa [runD] using h1, by simpa [runD] using h2⟩
        | false =>
          obtain ⟨h1, h2⟩ := write_clean hN hC hs (by omega)
          exact ⟨1, by simp, by simpa [runD] using h1.dirty, by simpa [runD] using h2⟩
      | cons b t =>
        obtain ⟨h1, h2⟩ := write_clean hN hC hs (by omega)
        obtain ⟨j, hj, e1, e2⟩ := crash_writes keep torn r (Q ++ [s]) (i + 1) _ h2 h1 (by simp; omega) hr'
        rw [hk] at e1 e2
        refine ⟨j + 1, by simp; omega, ?_, ?_⟩
        · rw [List.take_succ_cons]
          rw [List.append_assoc] at e1
          exact e1
        · exact e2
    · have hfar := far_wr (Q := Q) r [s] (by simp) (by simp; omega) (fun x hx => by
        simp only [List.mem_append, List.mem_singleton] at hx
        rcases hx with (hx | rfl) | hx
        · exact hC.right x hx
        · exact hs
        · exact hr' x hx)
      obtain ⟨h1, h2⟩ := far_run torn (keptD keep (i + 1) (wrA (Q ++ [s]) r)) now hN hC.hole (fun a ha => hfar a (kept_mem _ _ a ha))
      exact ⟨0, Nat.zero_le _, by simpa using h1.dirty, h2⟩
/-- What a crash leaves of an opening. -/
theorem crash_cuts {R : List (List UInt8)} {E : Ends} (hE : EndsOf R E) (torn : Bool) : ∀ (acts : List ActD) (now : Fls), NamesOK now → DirtyF now R → (∀ a ∈ acts, KeepsA E a) → DirtyF (runD torn now acts) R ∧ NamesOK (runD torn now acts)
  | [], now, hN, h, _ => ⟨h, hN⟩
  | [a], now, hN, h, ha => by
    obtain ⟨h1, h2, _⟩ := cut_dirty torn hN h hE (ha a (by simp))
    exact ⟨h1, h2⟩
  | a :: b :: r, now, hN, h, ha => by
    obtain ⟨h1, h2, _⟩ := cut_dirty false hN h hE (ha a (by simp))
    exact crash_cuts hE torn (b :: r) _ h2 h1 (fun x hx => ha x (List.mem_cons_of_mem _ hx))
end Go.Proofs.YtgglheelhbfgiaaGreatDoor

namespace Go.Proofs.YtgglheelhbfgiaaGreatDoor
open Go Go.RowKit
theorem frame_le2 {n : Nat} {s : List UInt8} : (frameL n s).length ≤ 36 + s.length := by
  unfold frameL bodyL textL numL natL
  simp only [List.length_append, List.length_cons, beF_len]
  have h1 := wid_le (u64 n)
  have h2 := wid_le s.length
  generalize sumC _ = c
  generalize wid (u64 n) = a at *
  generalize wid s.length = b at *
  have h3 := wid_le (u64 c)
  have h4 := wid_le (a + 1 + (b + 1 + s.length))
  omega
theorem frames_le2 {c : Nat} : ∀ (l : List (List UInt8)) (n : Nat), (∀ s ∈ l, s.length ≤ c) → (framesF n l).length ≤ l.length * (36 + c)
  | [], _, _ => by simp [framesF]
  | s :: r, n, h => by
    have h1 := frame_le2 (n := n) (s := s)
    have h0 := h s (by simp)
    have h2 := frames_le2 r (n + 1) (fun x hx => h x (by simp [hx]))
    rw [framesF, List.length_append, List.length_cons, Nat.succ_mul]
    omega
theorem file_le2 {R : List (List UInt8)} {c : Nat} (h : ∀ s ∈ R, s.length ≤ c) (k : Nat) : (fileL R k).length ≤ 8 * (36 + c) := by
  have h1 := frames_le2 ((R.drop (8 * k)).take 8) (8 * k) (fun s hs => h s (List.mem_of_mem_drop (List.mem_of_mem_take hs)))
  have h2 : ((R.drop (8 * k)).take 8).length ≤ 8 := by rw [List.length_take]; omega
  have h3 := Nat.mul_le_mul_right (36 + c) h2
  unfold fileL
  omega
theorem nodup_sub {α : Type} [DecidableEq α] : ∀ {l m : List α}, l.Nodup → (∀ x ∈ l, x ∈ m) → l.length ≤ m.length
  | [], _, _, _ => Nat.zero_le _
  | x :: r, m, hn, h => by
    have hx := h x (by simp)
    obtain ⟨hn1, hn2⟩ := List.nodup_cons.1 hn
    have := nodup_sub (m := m.erase x) hn2 fun y hy => (List.mem_erase_of_ne (fun e => hn1 (by rw [← e]; exact hy))).2 (h y (by simp [hy]))
    rw [List.length_erase_of_mem hx] at this
    have := List.length_pos_of_mem hx
    rw [List.length_cons]
    omega
theorem sum_le {M : Nat} : ∀ (l : List Nat), (∀ x ∈ l, x ≤ M) → l.sum ≤ l.length * M
  | [], _ => by simp
  | x :: r, h => by
    have h1 := h x (by simp)
    have h2 := sum_le r (fun y hy => h y (by simp [hy]))
    rw [List.sum_cons, List.length_cons, Nat.succ_mul]
    omega
theorem size_bound {now : Fls} {M : Nat} (hN : NamesOK now) (h : ∀ k, k < 100 → (hasD now (nameS k)).size ≤ M) : sizeF now ≤ 100 * M := by
  have h1 : now.length ≤ 100 := by
    have h2 := nodup_sub (l := now.map (·.1)) (m := (List.range 100).map nameS) hN.nodup fun p hp => by
      obtain ⟨k, hk, e⟩ := hN.names p (mem_keysK.1 hp)
      exact List.mem_map.2 ⟨k, List.mem_range.2 hk, e.symm⟩
    simpa using h2
  have h3 := sum_le (M := M) (now.map fun x => x.2.size) fun y hy => by
    obtain ⟨x, hx, rfl⟩ := List.mem_map.1 hy
    have hf := findK_of hN.nodup (p := x.1) (a := x.2) hx
    obtain ⟨k, hk, e⟩ := hN.names x.1 (by rw [hf]; rfl)
    have := h k hk
    rw [← e, hasD_some hf] at this
    exact this
  rw [List.length_map] at h3
  have h4 := Nat.mul_le_mul_right M h1
  unfold sizeF
  omega
theorem clean_room {now : Fls} {Q : List (List UInt8)} {c : Nat} (hN : NamesOK now) (hC : CleanF now Q) (hc : ∀ s ∈ Q, s.length ≤ c) : sizeF now ≤ 100 * (8 * (36 + c)) :=
  size_bound hN fun k hk => by
    rw [size_list, hC.has k hk]
    exact file_le2 hc k
def rsL (rs : List ByteArray) : List (List UInt8) := rs.map fun s => s.data.toList
/-- What the writes of an append leave. -/
theorem lay_cases {many c : Nat} : ∀ (rs : List ByteArray) (Q : List (List UInt8)) (i : Nat) (at_ : Int) (d : Dk), many + i = Q.length → d.dead = false → NamesOK d.now → CleanF d.now Q → Q.length + rs.length ≤ 800 → (∀ s ∈ rsL rs, recOk s = true) → (∀ s ∈ Q ++ rsL rs, s.length ≤ c) → 100 * (8 * (36 + c)) + 17000 ≤ d.limit → (Q.length % 8 ≠ 0 → at_ = (fileL Q (Q.length / 8)).length) →
    (∃ m, m ≤ rs.length ∧ (layG many i at_ rs d).2.2 = 42 ∧ (layG many i at_ rs d).1.dead = true ∧ (layG many i at_ rs d).1.firm = d.firm ∧ (layG many i at_ rs d).1.limit = d.limit ∧ (layG many i at_ rs d).1.acts = d.acts ++ wrA Q ((rsL rs).take m) ∧ 0 < d.armed) ∨
    ((layG many i at_ rs d).2.2 = 0 ∧ (layG many i at_ rs d).1.dead = false ∧ (layG many i at_ rs d).1.firm = d.firm ∧ (layG many i at_ rs d).1.limit = d.limit ∧ (layG many i at_ rs d).1.acts = d.acts ++ wrA Q (rsL rs) ∧ (d.armed ≤ 0 → (layG many i at_ rs d).1.armed = d.armed) ∧
      NamesOK (layG many i at_ rs d).1.now ∧ CleanF (layG many i at_ rs d).1.now (Q ++ rsL rs) ∧ ((Q ++ rsL rs).length % 8 ≠ 0 → (layG many i at_ rs d).2.1 = (fileL (Q ++ rsL rs) ((Q ++ rsL rs).length / 8)).length) ∧
      (∀ p, (findK (layG many i at_ rs d).1.now p).isSome = true ↔ ((findK d.now p).isSome = true ∨ ∃ j, Q.length ≤ j ∧ j < Q.length + rs.length ∧ p = nameS (j / 8))))
  | [], Q, i, at_, d, _, hd, hN, hC, _, _, _, _, hat => .inr ⟨rfl, hd, rfl, rfl, by simp [rsL, wrA, layG], fun _ => rfl, hN, by simpa [rsL, layG] using hC, by simpa [rsL, layG] using hat, fun p => ⟨.inl, fun h => by
      rcases h with h | ⟨j, h1, h2, _⟩
      · exact h
      · simp at h2
        omega⟩⟩
  | s :: r, Q, i, at_, d, hq, hd, hN, hC, hl, hr, hc, hlim, hat => by
    rw [List.length_cons] at hl
    have hs : recOk s.data.toList = true := hr _ (by simp [rsL])
    have hat2 : (if (many + i) % 8 = 0 then 0 else at_) = ((fileL Q (Q.length / 8)).length : Int) := by
      rw [hq]
      split
      · rw [file_none (by omega)]
        rfl
      · exact hat ‹_›
    have hfl := frame_le2 (n := Q.length) (s := s.data.toList)
    have hsc := hc s.data.toList (by simp [rsL])
    have hs2 : 1 ≤ s.data.toList.length ∧ s.data.toList.length ≤ 2000 := by simpa [recOk] using hs
    have hfb : (frameB (many + i) s).size = (frameL Q.length s.data.toList).length := by rw [hq]; exact mkB_size _
    have hroom := clean_room hN hC (fun x hx => hc x (by simp [hx]))
    have hfile := file_le2 (R := Q) (fun x hx => hc x (by simp [hx])) (Q.length / 8)
    have hhad : (hasD d.now (nameS (Q.length / 8))).size = (fileL Q (Q.length / 8)).length := by rw [size_list, hC.has _ (by omega)]
    have hw : writeD d (nameS ((many + i) / 8)) (if (many + i) % 8 = 0 then 0 else at_) (frameB (many + i) s) = doesD d ⟨false, nameS (Q.length / 8), (fileL Q (Q.length / 8)).length, mkB (frameL Q.length s.data.toList)⟩ := by
      rw [hat2]
      unfold writeD
      rw [hq, wrong_none hd (by omega) (by omega) (by omega), if_neg (by decide), if_neg ?_, Int.toNat_natCast]
      · rfl
      · rw [hhad, show (frameB Q.length s).size = (frameL Q.length s.data.toList).length from mkB_size _]
        omega
    rw [layG, hw]
    have hwr : wrA Q (rsL (s :: r)) = ⟨false, nameS (Q.length / 8), (fileL Q (Q.length / 8)).length, mkB (frameL Q.length s.data.toList)⟩ :: wrA (Q ++ [s.data.toList]) (rsL r) := rfl
    rcases does_cases d ⟨false, nameS (Q.length / 8), (fileL Q (Q.length / 8)).length, mkB (frameL Q.length s.data.toList)⟩ hd with ⟨e1, e2, e3, e4, e5, e6⟩ | ⟨e1, e2, e3, e4, e5, e6, e7⟩
    · rw [if_pos (by rw [e1]; decide)]
      exact .inl ⟨1, by simp, e1, e2, e3, e4, by rw [e5]; rfl, e6⟩
    · rw [if_neg (by rw [e1]; decide), hat2, hfb]
      obtain ⟨w1, w2⟩ := write_clean hN hC hs (by omega)
      rw [← e6] at w1 w2
      have hfk : ∀ p, (findK (doesD d ⟨false, nameS (Q.length / 8), (fileL Q (Q.length / 8)).length, mkB (frameL Q.length s.data.toList)⟩).1.now p).isSome = true ↔ ((findK d.now p).isSome = true ∨ p = nameS (Q.length / 8)) := fun p => by
        rw [e6]
        unfold doD
        dsimp only
        rw [if_neg (by decide), findK_put hN.nodup]
        split
        · rename_i e
          exact ⟨fun _ => .inr e, fun _ => rfl⟩
        · rename_i e
          exact ⟨.inl, fun h => h.resolve_right e⟩
      have hlen1 : (Q ++ [s.data.toList]).length = Q.length + 1 := by simp
      have happ : Q ++ rsL (s :: r) = Q ++ [s.data.toList] ++ rsL r := by simp [rsL]
      have ih := lay_cases (many := many) (c := c) r (Q ++ [s.data.toList]) (i + 1) (((fileL Q (Q.length / 8)).length : Int) + ((frameL Q.length s.data.toList).length : Int)) (doesD d ⟨false, nameS (Q.length / 8), (fileL Q (Q.length / 8)).length, mkB (frameL Q.length s.data.toList)⟩).1 (by rw [hlen1]; omega) e2 w2 w1 (by rw [hlen1]; omega) (fun x hx => hr x (by simp only [rsL, List.map_cons, List.mem_cons] at hx ⊢; exact .inr hx)) (fun x hx => hc x (by rw [happ]; exact hx)) (by rw [e4]; exact hlim) (fun h8 => by
        rw [hlen1] at h8 ⊢
        rw [show (Q.length + 1) / 8 = Q.length / 8 by omega, snoc_file, if_pos rfl, List.length_append]
        omega)
      rcases ih with ⟨m, f1, f2, f3, f4, f5, f6, f7⟩ | ⟨f1, f2, f3, f4, f5, f6, f7, f8, f9, f10⟩
      · refine .inl ⟨m + 1, by simp; omega, f2, f3, f4.trans e3, f5.trans e4, ?_, ?_⟩
        · rw [f6, e5, show (rsL (s :: r)).take (m + 1) = s.data.toList :: (rsL r).take m from rfl, wrA, List.append_assoc]
          rfl
        · refine Classical.byContradiction fun h0 => ?_
          rw [e7 (by omega)] at f7
          exact h0 f7
      · refine .inr ⟨f1, f2, f3.trans e3, f4.trans e4, by rw [f5, e5, hwr, List.append_assoc]; rfl, fun h => (by rw [f6 (by rw [e7 h]; exact h), e7 h]), f7, by rw [happ]; exact f8, by rw [happ]; exact f9, fun p => ?_⟩
        rw [f10, hfk, hlen1]
        constructor
        · rintro ((h | h) | ⟨j, h1, h2, h3⟩)
          · exact .inl h
          · exact .inr ⟨Q.length, Nat.le_refl _, by simp, h⟩
          · exact .inr ⟨j, by omega, by simp; omega, h3⟩
        · rintro (h | ⟨j, h1, h2, h3⟩)
          · exact .inl (.inl h)
          · by_cases hj : j = Q.length
            · rw [hj] at h3
              exact .inl (.inr h3)
            · rw [List.length_cons] at h2
              exact .inr ⟨j, by omega, by omega, h3⟩
end Go.Proofs.YtgglheelhbfgiaaGreatDoor

namespace Go.Proofs.YtgglheelhbfgiaaGreatDoor
open Go Go.RowKit
def logOf (R : List (List UInt8)) : Lg := ⟨R.length, (fileL R (R.length / 8)).length, false⟩
/-- Behind a crash. -/
structure MidL (lim : Nat) (d : Dk) (R : List (List UInt8)) : Prop where
  dead : d.dead = false
  limit : d.limit = lim
  acts : d.acts = []
  firm : d.firm = d.now
  armed : d.armed = 0
  names : NamesOK d.now
  dirty : DirtyF d.now R
/-- Behind an opening. -/
structure StL (lim : Nat) (d : Dk) (R : List (List UInt8)) : Prop where
  dead : d.dead = false
  limit : d.limit = lim
  acts : d.acts = []
  firm : d.firm = d.now
  armed : d.armed = 0
  names : NamesOK d.now
  clean : CleanF d.now R
theorem StL.mid {lim : Nat} {d : Dk} {R : List (List UInt8)} (h : StL lim d R) : MidL lim d R := ⟨h.dead, h.limit, h.acts, h.firm, h.armed, h.names, h.clean.dirty⟩
theorem new_mid {lim : Nat} : MidL lim (newD lim) [] := by
  refine ⟨rfl, rfl, rfl, rfl, rfl, ⟨List.nodup_nil, fun p h => (by cases h), fun p => (by rw [hasD_none rfl]; decide)⟩, ⟨Nat.zero_le _, fun s h => (by cases h), fun k _ => ⟨[], by rw [hasD_none rfl, file_none (Nat.zero_le _)]; rfl⟩, fun _ => ?_⟩⟩
  rw [hasD_none rfl]
  exact first_nil _
/-- An opening behind a crash, at which the disk may die. -/
theorem open_mid {lim : Nat} {d : Dk} {R : List (List UInt8)} (h : MidL lim d R) (hl : 16300 ≤ lim) (n : Int) :
    ((openD (armD d n)).log = none ∧ (openD (armD d n)).out = [] ∧ (openD (armD d n)).err = 42 ∧ 0 < n ∧ ∀ keep torn, MidL lim (crashD (openD (armD d n)).d keep torn) R) ∨
    ((openD (armD d n)).log = some (logOf R) ∧ (openD (armD d n)).out = R.map mkB ∧ (openD (armD d n)).err = 0 ∧ StL lim (armD (openD (armD d n)).d 0) R ∧ (n ≤ 0 → StL lim (openD (armD d n)).d R) ∧ ∀ p, (findK (openD (armD d n)).d.now p).isSome = (findK d.now p).isSome) := by
  obtain ⟨E, cuts, hE, hc, h1 | h1⟩ := open_dirty (d := armD d n) h.dead (by show 16300 ≤ d.limit; rw [h.limit]; exact hl) h.names h.dirty
  · obtain ⟨e1, e2, e3, e4, e5, e6, e7, e8⟩ := h1
    have e8' : 0 < max n 0 := e8
    refine .inl ⟨e1, e2, e3, by omega, fun keep torn => ?_⟩
    have e5' : (openD (armD d n)).d.firm = d.now := e5.trans h.firm
    have e7' : (openD (armD d n)).d.acts = cuts := by
      rw [e7]
      show d.acts ++ cuts = cuts
      rw [h.acts, List.nil_append]
    obtain ⟨c1, c2⟩ := crash_cuts hE torn (keptD keep 0 (openD (armD d n)).d.acts) (openD (armD d n)).d.firm (by rw [e5']; exact h.names) (by rw [e5']; exact h.dirty) (fun a ha => hc a (by rw [← e7']; exact kept_mem _ _ a ha))
    exact ⟨rfl, e6.trans h.limit, rfl, rfl, rfl, c2, c1⟩
  · obtain ⟨e1, e2, e3, e4, e5, e6, e7, e8, e9, e10, e11⟩ := h1
    refine .inr ⟨e1, e2, e3, ⟨e4, e6.trans h.limit, e7, e5, rfl, e9, e10⟩, fun hn => ⟨e4, e6.trans h.limit, e7, e5, (e8 (show max n 0 ≤ 0 by omega)).trans (show max n 0 = 0 by omega), e9, e10⟩, e11⟩
/-- An opening behind a crash. -/
theorem open_still {lim : Nat} {d : Dk} {R : List (List UInt8)} (h : MidL lim d R) (hl : 16300 ≤ lim) : (openD d).log = some (logOf R) ∧ (openD d).out = R.map mkB ∧ (openD d).err = 0 ∧ StL lim (openD d).d R ∧ ∀ p, (findK (openD d).d.now p).isSome = (findK d.now p).isSome := by
  have e : armD d 0 = d := by
    obtain ⟨a, b, c, d', arm, f⟩ := d
    have := h.armed
    dsimp only at this
    subst this
    rfl
  have h1 := open_mid h hl 0
  rw [e] at h1
  rcases h1 with ⟨_, _, _, h2, _⟩ | ⟨e1, e2, e3, _, e4, e5⟩
  · omega
  · exact ⟨e1, e2, e3, e4 (Int.le_refl _), e5⟩
theorem rightR_eq (rs : List ByteArray) (h : rs.all rightR = true) : ∀ s ∈ rsL rs, recOk s = true := fun s hs => by
  obtain ⟨x, hx, rfl⟩ := List.mem_map.1 hs
  exact List.all_eq_true.1 h x hx
/-- An append, at which the disk may die. -/
theorem append_st {lim c : Nat} {d : Dk} {R : List (List UInt8)} (h : StL lim d R) (rs : List ByteArray) (n : Int) (hR : ∀ s ∈ R, s.length ≤ c) (hrs : rs.all rightR = true → ∀ s ∈ rsL rs, s.length ≤ c) (hlim : 100 * (8 * (36 + c)) + 17000 ≤ lim) :
    (rs.all rightR = false → (appendD (logOf R) rs (armD d n)).2.2 = 1) ∧
    (rs.all rightR = true → (appendD (logOf R) rs (armD d n)).2.2 = 0 ∨ ((appendD (logOf R) rs (armD d n)).2.2 = 42 ∧ 0 < n) ∨ ((appendD (logOf R) rs (armD d n)).2.2 = 40 ∧ 800 < R.length + rs.length)) ∧
    (rs.all rightR = true → R.length + rs.length ≤ 800 → n ≤ 0 → (appendD (logOf R) rs (armD d n)).2.2 = 0 ∧ (appendD (logOf R) rs (armD d n)).1.many = R.length + rs.length ∧ (appendD (logOf R) rs (armD d n)).1.dead = false ∧ StL lim (appendD (logOf R) rs (armD d n)).2.1 (R ++ rsL rs) ∧
      ((R ++ rsL rs).length % 8 ≠ 0 → (appendD (logOf R) rs (armD d n)).1.fin = (fileL (R ++ rsL rs) ((R ++ rsL rs).length / 8)).length) ∧
      ∀ p, (findK (appendD (logOf R) rs (armD d n)).2.1.now p).isSome = true ↔ ((findK d.now p).isSome = true ∨ ∃ j, R.length ≤ j ∧ j < R.length + rs.length ∧ p = nameS (j / 8))) ∧
    ∀ keep torn, ∃ j, MidL lim (crashD (appendD (logOf R) rs (armD d n)).2.1 keep torn) (R ++ (rsL rs).take j) ∧ ((appendD (logOf R) rs (armD d n)).2.2 = 0 → (rsL rs).take j = rsL rs) ∧
      (rs.all rightR = false → (rsL rs).take j = []) ∧ ((appendD (logOf R) rs (armD d n)).2.2 = 40 → (rsL rs).take j = []) := by
  have hsame : ∀ keep torn, MidL lim (crashD (armD d n) keep torn) R := fun keep torn => by
    have e : crashD (armD d n) keep torn = { d with armed := 0, acts := [], dead := false } := by
      unfold crashD armD
      simp only [h.acts, h.firm, keptD, runD]
    rw [e]
    exact ⟨rfl, h.limit, rfl, h.firm, rfl, h.names, h.clean.dirty⟩
  unfold appendD
  rw [if_neg (by simp [logOf])]
  by_cases hr : rs.all rightR = false
  · rw [if_pos hr]
    exact ⟨fun _ => rfl, fun h2 => (by rw [hr] at h2; cases h2), fun h2 => (by rw [hr] at h2; cases h2), fun keep torn => ⟨0, by simpa using hsame keep torn, fun h2 => (by cases h2), fun _ => rfl, fun _ => rfl⟩⟩
  · rw [if_neg hr]
    have hrt : rs.all rightR = true := by simpa using hr
    by_cases hb : 800 < (logOf R).many + rs.length
    · rw [if_pos hb]
      exact ⟨fun h2 => absurd h2 hr, fun _ => .inr (.inr ⟨rfl, hb⟩), fun _ h2 => absurd hb (Nat.not_lt.2 h2), fun keep torn => ⟨0, by simpa using hsame keep torn, fun h2 => (by cases h2), fun _ => rfl, fun _ => rfl⟩⟩
    · rw [if_neg hb]
      have hb' : R.length + rs.length ≤ 800 := Nat.not_lt.1 hb
      by_cases h0 : rs.length = 0
      · rw [if_pos h0]
        obtain rfl := List.length_eq_zero_iff.1 h0
        refine ⟨fun h2 => absurd h2 hr, fun _ => .inl rfl, fun _ _ hn => ⟨rfl, rfl, rfl, ?_, ?_, fun p => ⟨.inl, fun h => ?_⟩⟩, fun keep torn => ⟨0, by simpa using hsame keep torn, fun _ => rfl, fun _ => rfl, fun _ => rfl⟩⟩
        · have e : armD d n = d := by
            obtain ⟨a, b, c, d', arm, f⟩ := d
            have := h.armed
            dsimp only at this
            subst this
            unfold armD
            rw [show max n 0 = 0 by omega]
          rw [e]
          simpa [rsL] using h
        · intro _
          simp [rsL, logOf]
        · rcases h with h | ⟨j, h1, h2, _⟩
          · exact h
          · simp at h2
            omega
      · rw [if_neg h0]
        have hrl : (rsL rs).length = rs.length := by simp [rsL]
        have hlay := lay_cases (many := R.length) (c := c) rs R 0 (logOf R).fin (armD d n) rfl h.dead h.names h.clean hb' (rightR_eq rs hrt) (fun s hs => by
          rcases List.mem_append.1 hs with hs | hs
          · exact hR s hs
          · exact hrs hrt s hs) (by show _ ≤ d.limit; rw [h.limit]; exact hlim) (fun _ => rfl)
        unfold layD
        rw [show (logOf R).many = R.length from rfl]
        rcases hlay with ⟨m, f1, f2, f3, f4, f5, f6, f7⟩ | ⟨f1, f2, f3, f4, f5, f6, f7, f8, f9, f10⟩
        · have f7' : 0 < max n 0 := f7
          rw [if_pos (show (layG R.length 0 (logOf R).fin rs (armD d n)).2.2 ≠ 0 by rw [f2]; decide), if_pos (by rw [f2]; decide)]
          refine ⟨fun h2 => absurd h2 hr, fun _ => .inr (.inl ⟨f2, by omega⟩), fun _ _ hn => by omega, fun keep torn => ?_⟩
          dsimp only
          have g1 : (layG R.length 0 (logOf R).fin rs (armD d n)).1.acts = wrA R ((rsL rs).take m) := by
            rw [f6]
            show d.acts ++ _ = _
            rw [h.acts, List.nil_append]
          have g2 : (layG R.length 0 (logOf R).fin rs (armD d n)).1.firm = d.now := f4.trans h.firm
          obtain ⟨j, hj, c1, c2⟩ := crash_writes keep torn ((rsL rs).take m) R 0 d.now h.names h.clean (by rw [List.length_take]; omega) (fun s hs => rightR_eq rs hrt s (List.mem_of_mem_take hs))
          rw [List.take_take] at c1
          rw [← g1, ← g2] at c1 c2
          exact ⟨min j m, ⟨rfl, f5.trans h.limit, rfl, rfl, rfl, c2, c1⟩, fun h2 => (by rw [f2] at h2; cases h2), fun h2 => absurd h2 hr, fun h2 => (by rw [f2] at h2; cases h2)⟩
        · rw [if_neg (show ¬ (layG R.length 0 (logOf R).fin rs (armD d n)).2.2 ≠ 0 by rw [f1]; decide)]
          dsimp only
          rcases sync_cases (layG R.length 0 (logOf R).fin rs (armD d n)).1 f2 with ⟨e1, e2, e3, e4, e5, e6⟩ | ⟨e1, e2, e3, e4, e5, e6, e7⟩
          · have e6' : 0 < max n 0 := Classical.byContradiction fun hz => by
              rw [f6 (show max n 0 ≤ 0 by omega)] at e6
              exact hz e6
            rw [if_pos (by rw [e1]; decide)]
            refine ⟨fun h2 => absurd h2 hr, fun _ => .inr (.inl ⟨e1, by omega⟩), fun _ _ hn => by omega, fun keep torn => ?_⟩
            dsimp only
            have g1 : (syncD (layG R.length 0 (logOf R).fin rs (armD d n)).1).1.acts = wrA R (rsL rs) := by
              rw [e5, f5]
              show d.acts ++ _ = _
              rw [h.acts, List.nil_append]
            have g2 : (syncD (layG R.length 0 (logOf R).fin rs (armD d n)).1).1.firm = d.now := e3.trans (f3.trans h.firm)
            obtain ⟨j, hj, c1, c2⟩ := crash_writes keep torn (rsL rs) R 0 d.now h.names h.clean (by omega) (rightR_eq rs hrt)
            rw [← g1, ← g2] at c1 c2
            exact ⟨j, ⟨rfl, e4.trans (f4.trans h.limit), rfl, rfl, rfl, c2, c1⟩, fun h2 => (by rw [e1] at h2; cases h2), fun h2 => absurd h2 hr, fun h2 => (by rw [e1] at h2; cases h2)⟩
          · rw [if_neg (by rw [e1]; decide)]
            refine ⟨fun h2 => absurd h2 hr, fun _ => .inl rfl, fun _ _ hn => ⟨rfl, rfl, rfl, ⟨e2, e5.trans (f4.trans h.limit), e6, e3.trans e4.symm, ((e7 (by rw [f6 (show max n 0 ≤ 0 by omega)]; show max n 0 ≤ 0; omega)).trans (f6 (show max n 0 ≤ 0 by omega))).trans (show max n 0 = 0 by omega), by dsimp only; rw [e4]; exact f7, by dsimp only; rw [e4]; exact f8⟩, f9, fun p => by dsimp only; rw [e4]; exact f10 p⟩, fun keep torn => ?_⟩
            dsimp only
            have e : crashD (syncD (layG R.length 0 (logOf R).fin rs (armD d n)).1).1 keep torn = { (syncD (layG R.length 0 (logOf R).fin rs (armD d n)).1).1 with armed := 0, acts := [], dead := false } := by
              unfold crashD
              rw [e6]
              simp only [keptD, runD]
              rw [e3, ← e4]
            refine ⟨(rsL rs).length, ?_, fun _ => List.take_length, fun h2 => absurd h2 hr, fun h2 => (by cases h2)⟩
            rw [e, List.take_length]
            exact ⟨rfl, e5.trans (f4.trans h.limit), rfl, e3.trans e4.symm, rfl, by dsimp only; rw [e4]; exact f7, by dsimp only; rw [e4]; exact f8.dirty⟩
end Go.Proofs.YtgglheelhbfgiaaGreatDoor

