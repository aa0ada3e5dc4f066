/-
  Append, crash, open, crash, open: the plain law of SeglogLasts. What stays so of a disk, in plain Lean: sizes, names. Logs that live on: the plain law of the chapter's example, and of how many files there are. One round of SeglogLasts: the plain law.
-/
import Derived.Test.YtgglheelhbfgiaaGreatDoorMg4
namespace Go.Proofs.YtgglheelhbfgiaaGreatDoor
open Go Go.RowKit
def logOf (R : List (List UInt8)) : Lg := ⟨R.length, (fileL R (R.length / 8)).length, false⟩
/-- Behind a crash. -/
structure MidL (lim : Nat) (d : Dk) (R : List (List UInt8)) : Prop where
  dead : d.dead = false
  limit : d.limit = lim
  acts : d.acts = []
  firm : d.firm = d.now
  armed : d.armed = 0
  names : NamesOK d.now
  dirty : DirtyF d.now R
/-- Behind an opening. -/
structure StL (lim : Nat) (d : Dk) (R : List (List UInt8)) : Prop where
  dead : d.dead = false
  limit : d.limit = lim
  acts : d.acts = []
  firm : d.firm = d.now
  armed : d.armed = 0
  names : NamesOK d.now
  clean : CleanF d.now R
theorem StL.mid {lim : Nat} {d : Dk} {R : List (List UInt8)} (h : StL lim d R) : MidL lim d R := ⟨h.dead, h.limit, h.acts, h.firm, h.armed, h.names, h.clean.dirty⟩
theorem new_mid {lim : Nat} : MidL lim (newD lim) [] := by
  refine ⟨rfl, rfl, rfl, rfl, rfl, ⟨List.nodup_nil, fun p h => (by cases h), fun p => (by rw [hasD_none rfl]; decide)⟩, ⟨Nat.zero_le _, fun s h => (by cases h), fun k _ => ⟨[], by rw [hasD_none rfl, file_none (Nat.zero_le _)]; rfl⟩, fun _ => ?_⟩⟩
  rw [hasD_none rfl]
  exact first_nil _
/-- An opening behind a crash, at which the disk may die. -/
theorem open_mid {lim : Nat} {d : Dk} {R : List (List UInt8)} (h : MidL lim d R) (hl : 16300 ≤ lim) (n : Int) :
    ((openD (armD d n)).log = none ∧ (openD (armD d n)).out = [] ∧ (openD (armD d n)).err = 42 ∧ 0 < n ∧ ∀ keep torn, MidL lim (crashD (openD (armD d n)).d keep torn) R) ∨
    ((openD (armD d n)).log = some (logOf R) ∧ (openD (armD d n)).out = R.map mkB ∧ (openD (armD d n)).err = 0 ∧ StL lim (armD (openD (armD d n)).d 0) R ∧ (n ≤ 0 → StL lim (openD (armD d n)).d R) ∧ ∀ p, (findK (openD (armD d n)).d.now p).isSome = (findK d.now p).isSome) := by
  obtain ⟨E, cuts, hE, hc, h1 | h1⟩ := open_dirty (d := armD d n) h.dead (by show 16300 ≤ d.limit; rw [h.limit]; exact hl) h.names h.dirty
  · obtain ⟨e1, e2, e3, e4, e5, e6, e7, e8⟩ := h1
    have e8' : 0 < max n 0 := e8
    refine .inl ⟨e1, e2, e3, by omega, fun keep torn => ?_⟩
    have e5' : (openD (armD d n)).d.firm = d.now := e5.trans h.firm
    have e7' : (openD (armD d n)).d.acts = cuts := by
      rw [e7]
      show d.acts ++ cuts = cuts
      rw [h.acts, List.nil_append]
    obtain ⟨c1, c2⟩ := crash_cuts hE torn (keptD keep 0 (openD (armD d n)).d.acts) (openD (armD d n)).d.firm (by rw [e5']; exact h.names) (by rw [e5']; exact h.dirty) (fun a ha => hc a (by rw [← e7']; exact kept_mem _ _ a ha))
    exact ⟨rfl, e6.trans h.limit, rfl, rfl, rfl, c2, c1⟩
  · obtain ⟨e1, e2, e3, e4, e5, e6, e7, e8, e9, e10, e11⟩ := h1
    refine .inr ⟨e1, e2, e3, ⟨e4, e6.trans h.limit, e7, e5, rfl, e9, e10⟩, fun hn => ⟨e4, e6.trans h.limit, e7, e5, (e8 (show max n 0 ≤ 0 by omega)).trans (show max n 0 = 0 by omega), e9, e10⟩, e11⟩
/-- An opening behind a crash. -/
theorem open_still {lim : Nat} {d : Dk} {R : List (List UInt8)} (h : MidL lim d R) (hl : 16300 ≤ lim) : (openD d).log = some (logOf R) ∧ (openD d).out = R.map mkB ∧ (openD d).err = 0 ∧ StL lim (openD d).d R ∧ ∀ p, (findK (openD d).d.now p).isSome = (findK d.now p).isSome := by
  have e : armD d 0 = d := by
    obtain ⟨a, b, c, d', arm, f⟩ := d
    have := h.armed
    dsimp only at this
    subst this
    rfl
  have h1 := open_mid h hl 0
  rw [e] at h1
  rcases h1 with ⟨_, _, _, h2, _⟩ | ⟨e1, e2, e3, _, e4, e5⟩
  · omega
  · exact ⟨e1, e2, e3, e4 (Int.le_refl _), e5⟩
theorem rightR_eq (rs : List ByteArray) (h : rs.all rightR = true) : ∀ s ∈ rsL rs, recOk s = true := fun s hs => by
  obtain ⟨x, hx, rfl⟩ := List.mem_map.1 hs
  exact List.all_eq_true.1 h x hx
/-- An append, at which the disk may die. -/
theorem append_st {lim c : Nat} {d : Dk} {R : List (List UInt8)} (h : StL lim d R) (rs : List ByteArray) (n : Int) (hR : ∀ s ∈ R, s.length ≤ c) (hrs : rs.all rightR = true → ∀ s ∈ rsL rs, s.length ≤ c) (hlim : 100 * (8 * (36 + c)) + 17000 ≤ lim) :
    (rs.all rightR = false → (appendD (logOf R) rs (armD d n)).2.2 = 1) ∧
    (rs.all rightR = true → (appendD (logOf R) rs (armD d n)).2.2 = 0 ∨ ((appendD (logOf R) rs (armD d n)).2.2 = 42 ∧ 0 < n) ∨ ((appendD (logOf R) rs (armD d n)).2.2 = 40 ∧ 800 < R.length + rs.length)) ∧
    (rs.all rightR = true → R.length + rs.length ≤ 800 → n ≤ 0 → (appendD (logOf R) rs (armD d n)).2.2 = 0 ∧ (appendD (logOf R) rs (armD d n)).1.many = R.length + rs.length ∧ (appendD (logOf R) rs (armD d n)).1.dead = false ∧ StL lim (appendD (logOf R) rs (armD d n)).2.1 (R ++ rsL rs) ∧
      ((R ++ rsL rs).length % 8 ≠ 0 → (appendD (logOf R) rs (armD d n)).1.fin = (fileL (R ++ rsL rs) ((R ++ rsL rs).length / 8)).length) ∧
      ∀ p, (findK (appendD (logOf R) rs (armD d n)).2.1.now p).isSome = true ↔ ((findK d.now p).isSome = true ∨ ∃ j, R.length ≤ j ∧ j < R.length + rs.length ∧ p = nameS (j / 8))) ∧
    ∀ keep torn, ∃ j, MidL lim (crashD (appendD (logOf R) rs (armD d n)).2.1 keep torn) (R ++ (rsL rs).take j) ∧ ((appendD (logOf R) rs (armD d n)).2.2 = 0 → (rsL rs).take j = rsL rs) ∧
      (rs.all rightR = false → (rsL rs).take j = []) ∧ ((appendD (logOf R) rs (armD d n)).2.2 = 40 → (rsL rs).take j = []) := by
  have hsame : ∀ keep torn, MidL lim (crashD (armD d n) keep torn) R := fun keep torn => by
    have e : crashD (armD d n) keep torn = { d with armed := 0, acts := [], dead := false } := by
      unfold crashD armD
      simp only [h.acts, h.firm, keptD, runD]
    rw [e]
    exact ⟨rfl, h.limit, rfl, h.firm, rfl, h.names, h.clean.dirty⟩
  unfold appendD
  rw [if_neg (by simp [logOf])]
  by_cases hr : rs.all rightR = false
  · rw [if_pos hr]
    exact ⟨fun _ => rfl, fun h2 => (by rw [hr] at h2; cases h2), fun h2 => (by rw [hr] at h2; cases h2), fun keep torn => ⟨0, by simpa using hsame keep torn, fun h2 => (by cases h2), fun _ => rfl, fun _ => rfl⟩⟩
  · rw [if_neg hr]
    have hrt : rs.all rightR = true := by simpa using hr
    by_cases hb : 800 < (logOf R).many + rs.length
    · rw [if_pos hb]
      exact ⟨fun h2 => absurd h2 hr, fun _ => .inr (.inr ⟨rfl, hb⟩), fun _ h2 => absurd hb (Nat.not_lt.2 h2), fun keep torn => ⟨0, by simpa using hsame keep torn, fun h2 => (by cases h2), fun _ => rfl, fun _ => rfl⟩⟩
    · rw [if_neg hb]
      have hb' : R.length + rs.length ≤ 800 := Nat.not_lt.1 hb
      by_cases h0 : rs.length = 0
      · rw [if_pos h0]
        obtain rfl := List.length_eq_zero_iff.1 h0
        refine ⟨fun h2 => absurd h2 hr, fun _ => .inl rfl, fun _ _ hn => ⟨rfl, rfl, rfl, ?_, ?_, fun p => ⟨.inl, fun h => ?_⟩⟩, fun keep torn => ⟨0, by simpa using hsame keep torn, fun _ => rfl, fun _ => rfl, fun _ => rfl⟩⟩
        · have e : armD d n = d := by
            obtain ⟨a, b, c, d', arm, f⟩ := d
            have := h.armed
            dsimp only at this
            subst this
            unfold armD
            rw [show max n 0 = 0 by omega]
          rw [e]
          simpa [rsL] using h
        · intro _
          simp [rsL, logOf]
        · rcases h with h | ⟨j, h1, h2, _⟩
          · exact h
          · simp at h2
            omega
      · rw [if_neg h0]
        have hrl : (rsL rs).length = rs.length := by simp [rsL]
        have hlay := lay_cases (many := R.length) (c := c) rs R 0 (logOf R).fin (armD d n) rfl h.dead h.names h.clean hb' (rightR_eq rs hrt) (fun s hs => by
          rcases List.mem_append.1 hs with hs | hs
          · exact hR s hs
          · exact hrs hrt s hs) (by show _ ≤ d.limit; rw [h.limit]; exact hlim) (fun _ => rfl)
        unfold layD
        rw [show (logOf R).many = R.length from rfl]
        rcases hlay with ⟨m, f1, f2, f3, f4, f5, f6, f7⟩ | ⟨f1, f2, f3, f4, f5, f6, f7, f8, f9, f10⟩
        · have f7' : 0 < max n 0 := f7
          rw [if_pos (show (layG R.length 0 (logOf R).fin rs (armD d n)).2.2 ≠ 0 by rw [f2]; decide), if_pos (by rw [f2]; decide)]
          refine ⟨fun h2 => absurd h2 hr, fun _ => .inr (.inl ⟨f2, by omega⟩), fun _ _ hn => by omega, fun keep torn => ?_⟩
          dsimp only
          have g1 : (layG R.length 0 (logOf R).fin rs (armD d n)).1.acts = wrA R ((rsL rs).take m) := by
            rw [f6]
            show d.acts ++ _ = _
            rw [h.acts, List.nil_append]
          have g2 : (layG R.length 0 (logOf R).fin rs (armD d n)).1.firm = d.now := f4.trans h.firm
          obtain ⟨j, hj, c1, c2⟩ := crash_writes keep torn ((rsL rs).take m) R 0 d.now h.names h.clean (by rw [List.length_take]; omega) (fun s hs => rightR_eq rs hrt s (List.mem_of_mem_take hs))
          rw [List.take_take] at c1
          rw [← g1, ← g2] at c1 c2
          exact ⟨min j m, ⟨rfl, f5.trans h.limit, rfl, rfl, rfl, c2, c1⟩, fun h2 => (by rw [f2] at h2; cases h2), fun h2 => absurd h2 hr, fun h2 => (by rw [f2] at h2; cases h2)⟩
        · rw [if_neg (show ¬ (layG R.length 0 (logOf R).fin rs (armD d n)).2.2 ≠ 0 by rw [f1]; decide)]
          dsimp only
          rcases sync_cases (layG R.length 0 (logOf R).fin rs (armD d n)).1 f2 with ⟨e1, e2, e3, e4, e5, e6⟩ | ⟨e1, e2, e3, e4, e5, e6, e7⟩
          · have e6' : 0 < max n 0 := Classical.byContradiction fun hz => by
              rw [f6 (show max n 0 ≤ 0 by omega)] at e6
              exact hz e6
            rw [if_pos (by rw [e1]; decide)]
            refine ⟨fun h2 => absurd h2 hr, fun _ => .inr (.inl ⟨e1, by omega⟩), fun _ _ hn => by omega, fun keep torn => ?_⟩
            dsimp only
            have g1 : (syncD (layG R.length 0 (logOf R).fin rs (armD d n)).1).1.acts = wrA R (rsL rs) := by
              rw [e5, f5]
              show d.acts ++ _ = _
              rw [h.acts, List.nil_append]
            have g2 : (syncD (layG R.length 0 (logOf R).fin rs (armD d n)).1).1.firm = d.now := e3.trans (f3.trans h.firm)
            obtain ⟨j, hj, c1, c2⟩ := crash_writes keep torn (rsL rs) R 0 d.now h.names h.clean (by omega) (rightR_eq rs hrt)
            rw [← g1, ← g2] at c1 c2
            exact ⟨j, ⟨rfl, e4.trans (f4.trans h.limit), rfl, rfl, rfl, c2, c1⟩, fun h2 => (by rw [e1] at h2; cases h2), fun h2 => absurd h2 hr, fun h2 => (by rw [e1] at h2; cases h2)⟩
          · rw [if_neg (by rw [e1]; decide)]
            refine ⟨fun h2 => absurd h2 hr, fun _ => .inl rfl, fun _ _ hn => ⟨rfl, rfl, rfl, ⟨e2, e5.trans (f4.trans h.limit), e6, e3.trans e4.symm, ((e7 (by rw [f6 (show max n 0 ≤ 0 by omega)]; show max n 0 ≤ 0; omega)).trans (f6 (show max n 0 ≤ 0 by omega))).trans (show max n 0 = 0 by omega), by dsimp only; rw [e4]; exact f7, by dsimp only; rw [e4]; exact f8⟩, f9, fun p => by dsimp only; rw [e4]; exact f10 p⟩, fun keep torn => ?_⟩
            dsimp only
            have e : crashD (syncD (layG R.length 0 (logOf R).fin rs (armD d n)).1).1 keep torn = { (syncD (layG R.length 0 (logOf R).fin rs (armD d n)).1).1 with armed := 0, acts := [], dead := false } := by
              unfold crashD
              rw [e6]
              simp only [keptD, runD]
              rw [e3, ← e4]
            refine ⟨(rsL rs).length, ?_, fun _ => List.take_length, fun h2 => absurd h2 hr, fun h2 => (by cases h2)⟩
            rw [e, List.take_length]
            exact ⟨rfl, e5.trans (f4.trans h.limit), rfl, e3.trans e4.symm, rfl, by dsimp only; rw [e4]; exact f7, by dsimp only; rw [e4]; exact f8.dirty⟩
end Go.Proofs.YtgglheelhbfgiaaGreatDoor

namespace Go.Proofs.YtgglheelhbfgiaaGreatDoor
open Go Go.RowKit
def ActOK (a : ActD) : Prop := a.n ≤ 4194304 ∧ a.data.size ≤ 8000 ∧ a.name.size ≤ 24 ∧ a.name.size ≠ 0
theorem before_ltK : ∀ x y : List UInt8, bytesBefore x y = decide (x < y)
  | [], [] => by simp [bytesBefore]
  | _ :: _, [] => by simp [bytesBefore]
  | [], _ :: _ => by simp [bytesBefore]
  | a :: x, b :: y => by
    rw [bytesBefore, before_ltK x y]
    simp only [List.cons_lt_cons_iff]
    by_cases h1 : a < b <;> by_cases h2 : a = b <;> by_cases h3 : x < y <;> simp [h1, h2, h3]
def RisK (es : Fls) : Prop := es.Pairwise fun x y => bytesBefore (pK x) (pK y) = true
theorem ris_ins {x : ByteArray × ByteArray} {es : Fls} (h : RisK es) (hx : ∀ y ∈ es, y.1 ≠ x.1) : RisK (insK x es) := by
  induction es with
  | nil => exact List.pairwise_singleton _ _
  | cons y r ih =>
    obtain ⟨h1, h2⟩ := List.pairwise_cons.1 h
    unfold insK
    split
    · rename_i hb
      refine List.pairwise_cons.2 ⟨fun z hz => ?_, h⟩
      rcases List.mem_cons.1 hz with rfl | hz
      · exact hb
      · have h3 := h1 z hz
        rw [before_ltK, decide_eq_true_eq] at h3 hb ⊢
        exact List.lt_trans hb h3
    · rename_i hb
      have hyx : bytesBefore (pK y) (pK x) = true := (WideAt.bytes_total _ _ (fun e => hx y List.mem_cons_self (bytesK_inj.1 e))).resolve_right hb
      refine List.pairwise_cons.2 ⟨fun z hz => ?_, ih h2 fun z hz => hx z (List.mem_cons_of_mem _ hz)⟩
      rcases List.mem_cons.1 ((insK_perm x r).mem_iff.1 hz) with rfl | hz
      · exact hyx
      · exact h1 z hz
theorem ris_put {es : Fls} (h : RisK es) (p s : ByteArray) : RisK (putK es p s) :=
  ris_ins (List.Pairwise.filter _ h) fun y hy => by
    have := (List.mem_filter.1 hy).2
    simpa using this
theorem ris_sorted {es : Fls} (h : RisK es) : (es.map pK).mergeSort (fun x y => decide (x ≤ y)) = es.map pK := by
  refine List.mergeSort_of_pairwise ?_
  rw [List.pairwise_map]
  refine h.imp fun {x y} hb => ?_
  rw [before_ltK, decide_eq_true_eq] at hb
  simp only [decide_eq_true_eq]
  exact List.le_of_lt hb
structure FilesOK (es : Fls) : Prop where
  rise : RisK es
  nodup : (es.map (·.1)).Nodup
  keys : ∀ x ∈ es, x.1.size ≤ 24 ∧ x.1.size ≠ 0
  sizes : ∀ x ∈ es, x.2.size ≤ 4202304
structure DkOK (d : Dk) : Prop where
  limit : d.limit ≤ 4194304
  now : FilesOK d.now
  firm : FilesOK d.firm
  acts : ∀ a ∈ d.acts, ActOK a
theorem mem_putK {es : Fls} {p s : ByteArray} (z : ByteArray × ByteArray) : z ∈ putK es p s ↔ z = (p, s) ∨ (z ∈ es ∧ z.1 ≠ p) := by
  unfold putK
  rw [(insK_perm (p, s) (delK es p)).mem_iff, List.mem_cons, delK, List.mem_filter, Bool.not_eq_true', decide_eq_false_iff_not]
theorem FilesOK.nil : FilesOK [] := ⟨List.Pairwise.nil, List.nodup_nil, fun x h => (by cases h), fun x h => (by cases h)⟩
theorem FilesOK.put {es : Fls} (h : FilesOK es) {p s : ByteArray} (hp : p.size ≤ 24 ∧ p.size ≠ 0) (hs : s.size ≤ 4202304) : FilesOK (putK es p s) := by
  refine ⟨ris_put h.rise p s, keysK_put es p s h.nodup, fun x hx => ?_, fun x hx => ?_⟩
  · rcases (mem_putK x).1 hx with rfl | ⟨h1, _⟩
    · exact hp
    · exact h.keys x h1
  · rcases (mem_putK x).1 hx with rfl | ⟨h1, _⟩
    · exact hs
    · exact h.sizes x h1
theorem FilesOK.find {es : Fls} (h : FilesOK es) {p s : ByteArray} (hf : findK es p = some s) : s.size ≤ 4202304 := h.sizes _ (findK_some hf)
theorem FilesOK.has {es : Fls} (h : FilesOK es) (p : ByteArray) : (hasD es p).size ≤ 4202304 := by
  unfold hasD
  cases hf : findK es p with
  | none => decide
  | some s => exact h.find hf
theorem half_le (d : ByteArray) : (halfB d).size ≤ d.size := by
  unfold halfB
  rw [ByteArray.size_extract]
  omega
theorem laid_size (s : ByteArray) (n : Nat) (d : ByteArray) : (laidB s n d).size = max s.size (n + d.size) := laid_len s.data.toList d.data.toList n
theorem doD_ok {es : Fls} {a : ActD} (torn : Bool) (h : FilesOK es) (ha : ActOK a) : FilesOK (doD es a torn) := by
  obtain ⟨h1, h2, h3⟩ := ha
  unfold doD
  split
  · cases hf : findK es a.name with
    | none => exact h
    | some s =>
      exact h.put h3 (Nat.le_trans (short_size s a.n) (h.find hf))
  · refine h.put h3 ?_
    rw [laid_size]
    have e1 := h.has a.name
    have e2 := half_le a.data
    cases torn
    · show max (hasD es a.name).size (a.n + a.data.size) ≤ _
      omega
    · show max (hasD es a.name).size (a.n + (halfB a.data).size) ≤ _
      omega
theorem doD_len (es : Fls) (a : ActD) (torn : Bool) : (doD es a torn).length ≤ es.length + 1 := by
  unfold doD
  split
  · cases findK es a.name with
    | none => exact Nat.le_succ _
    | some s => exact lenK_put es a.name _
  · exact lenK_put es a.name _
theorem del_len {es : Fls} {p s : ByteArray} (h : findK es p = some s) : (delK es p).length + 1 ≤ es.length := by
  have h1 := findK_some h
  clear h
  induction es with
  | nil => cases h1
  | cons y r ih =>
    rw [delK, List.filter_cons]
    rcases List.mem_cons.1 h1 with rfl | h1
    · rw [if_neg (by simp)]
      have := List.length_filter_le (fun y : ByteArray × ByteArray => !decide (y.1 = p)) r
      rw [List.length_cons]
      omega
    · have := ih h1
      rw [delK] at this
      split
      · rw [List.length_cons, List.length_cons]
        omega
      · rw [List.length_cons]
        omega
theorem cut_len (es : Fls) {a : ActD} (h : a.cut = true) (torn : Bool) : (doD es a torn).length ≤ es.length := by
  unfold doD
  rw [if_pos h]
  cases hf : findK es a.name with
  | none => exact Nat.le_refl _
  | some s =>
    show (putK es a.name _).length ≤ _
    unfold putK
    rw [(insK_perm _ (delK es a.name)).length_eq, List.length_cons]
    exact del_len hf
theorem run_ok (torn : Bool) : ∀ (l : List ActD) (es : Fls), FilesOK es → (∀ a ∈ l, ActOK a) → FilesOK (runD torn es l)
  | [], _, h, _ => h
  | [a], _, h, ha => doD_ok torn h (ha a (List.mem_cons_self ..))
  | a :: b :: r, _, h, ha => run_ok torn (b :: r) _ (doD_ok false h (ha a (List.mem_cons_self ..))) fun x hx => ha x (List.mem_cons_of_mem _ hx)
theorem run_len (torn : Bool) : ∀ (l : List ActD) (es : Fls), (runD torn es l).length ≤ es.length + l.length
  | [], _ => Nat.le_refl _
  | [a], es => doD_len es a torn
  | a :: b :: r, es => by
    have h1 := run_len torn (b :: r) (doD es a false)
    have h2 := doD_len es a false
    show (runD torn (doD es a false) (b :: r)).length ≤ _
    simp only [List.length_cons] at h1 ⊢
    omega
theorem kept_len (keep : Int) : ∀ (l : List ActD) (i : Nat), (keptD keep i l).length ≤ l.length
  | [], _ => Nat.le_refl _
  | a :: r, i => by
    have := kept_len keep r (i + 1)
    unfold keptD
    split <;> simp only [List.length_cons] <;> omega
theorem DkOK.dies {d : Dk} (h : DkOK d) : DkOK (diesD d) := by
  unfold diesD
  split
  · exact ⟨h.limit, h.now, h.firm, h.acts⟩
  · exact h
theorem DkOK.more {d : Dk} {a : ActD} (h : DkOK d) (ha : ActOK a) : DkOK { d with acts := d.acts ++ [a] } :=
  ⟨h.limit, h.now, h.firm, fun x hx => by
    rcases List.mem_append.1 hx with hx | hx
    · exact h.acts x hx
    · rw [List.mem_singleton.1 hx]
      exact ha⟩
theorem dies_same (d : Dk) : (diesD d).now = d.now ∧ (diesD d).firm = d.firm ∧ (diesD d).acts = d.acts ∧ (diesD d).limit = d.limit := by
  unfold diesD
  split <;> exact ⟨rfl, rfl, rfl, rfl⟩
theorem DkOK.does {d : Dk} {a : ActD} (h : DkOK d) (ha : ActOK a) : DkOK (doesD d a).1 := by
  have h1 := (h.more ha).dies
  unfold doesD
  split
  · exact h1
  · exact ⟨h1.limit, doD_ok false h.now ha, h1.firm, h1.acts⟩
theorem DkOK.arm {d : Dk} (h : DkOK d) (n : Int) : DkOK (armD d n) := ⟨h.limit, h.now, h.firm, h.acts⟩
theorem DkOK.sync {d : Dk} (h : DkOK d) : DkOK (syncD d).1 := by
  unfold syncD
  split
  · exact h
  · split
    · exact h.dies
    · have e := dies_same d
      exact ⟨by show (diesD d).limit ≤ _; rw [e.2.2.2]; exact h.limit, by show FilesOK (diesD d).now; rw [e.1]; exact h.now, h.now, fun a ha => by cases ha⟩
theorem DkOK.crash {d : Dk} (h : DkOK d) (keep : Int) (torn : Bool) : DkOK (crashD d keep torn) := by
  have h1 := run_ok torn (keptD keep 0 d.acts) d.firm h.firm fun a ha => h.acts a (kept_mem _ _ a ha)
  exact ⟨h.limit, h1, h1, fun a ha => by cases ha⟩
theorem DkOK.new {n : Nat} (h : n ≤ 4194304) : DkOK (newD n) := ⟨h, FilesOK.nil, FilesOK.nil, fun a ha => by cases ha⟩
theorem wrongD_ok {d : Dk} {name : ByteArray} {n : Int} (h : wrongD d name n = 0) : d.dead = false ∧ name.size ≠ 0 ∧ name.size ≤ 24 ∧ 0 ≤ n ∧ n ≤ d.limit := by
  unfold wrongD at h
  cases hd : d.dead with
  | true => rw [hd] at h; simp at h
  | false =>
    rw [hd, if_neg (by decide)] at h
    by_cases hc : name.size = 0 ∨ 24 < name.size ∨ n < 0 ∨ (d.limit : Int) < n
    · rw [if_pos hc] at h
      cases h
    · exact ⟨rfl, by omega, by omega, by omega, by omega⟩
theorem DkOK.write {d : Dk} (h : DkOK d) (name : ByteArray) (n : Int) (data : ByteArray) (hd : data.size ≤ 8000) : DkOK (writeD d name n data).1 := by
  unfold writeD
  by_cases hw : wrongD d name n ≠ 0
  · rw [if_pos hw]
    exact h
  · rw [if_neg hw]
    split
    · exact h
    · obtain ⟨_, h2, h3, h4, h5⟩ := wrongD_ok (Decidable.not_not.1 hw)
      have := h.limit
      exact h.does ⟨by show n.toNat ≤ _; omega, hd, h3, h2⟩
theorem DkOK.cut {d : Dk} (h : DkOK d) (name : ByteArray) (n : Int) : DkOK (cutD d name n).1 := by
  unfold cutD
  by_cases hw : wrongD d name n ≠ 0
  · rw [if_pos hw]
    exact h
  · rw [if_neg hw]
    split
    · exact h
    · obtain ⟨_, h2, h3, h4, h5⟩ := wrongD_ok (Decidable.not_not.1 hw)
      have := h.limit
      exact h.does ⟨by show n.toNat ≤ _; omega, by show (0 : Nat) ≤ 8000; omega, h3, h2⟩
end Go.Proofs.YtgglheelhbfgiaaGreatDoor

namespace Go.Proofs.YtgglheelhbfgiaaGreatDoor
open Go Go.RowKit
theorem names_len {now : Fls} (hN : NamesOK now) : now.length ≤ 100 := by
  have h2 := nodup_sub (l := now.map (·.1)) (m := (List.range 100).map nameS) hN.nodup fun p hp => by
    obtain ⟨k, hk, e⟩ := hN.names p (mem_keysK.1 hp)
    exact List.mem_map.2 ⟨k, List.mem_range.2 hk, e.symm⟩
  simpa using h2
theorem arm_none {d : Dk} (h : d.armed = 0) : armD d 0 = d := by
  obtain ⟨a, b, c, d', arm, f⟩ := d
  dsimp only at h
  subst h
  rfl
/-- A log that knows of these records. -/
structure LgFor (l : Lg) (R : List (List UInt8)) : Prop where
  many : l.many = R.length
  dead : l.dead = false
  fin : R.length % 8 ≠ 0 → l.fin = (fileL R (R.length / 8)).length
theorem LgFor.of (R : List (List UInt8)) : LgFor (logOf R) R := ⟨rfl, rfl, fun _ => rfl⟩
theorem layG_fin {many : Nat} {f1 f2 : Int} {rs : List ByteArray} {d : Dk} (hrs : rs ≠ []) (h : many % 8 ≠ 0 → f1 = f2) : layG many 0 f1 rs d = layG many 0 f2 rs d := by
  cases rs with
  | nil => exact absurd rfl hrs
  | cons s r =>
    have e : (if (many + 0) % 8 = 0 then (0 : Int) else f1) = (if (many + 0) % 8 = 0 then 0 else f2) := by
      by_cases h8 : (many + 0) % 8 = 0
      · rw [if_pos h8, if_pos h8]
      · rw [if_neg h8, if_neg h8]
        exact h h8
    rw [layG, layG, e]
theorem append_alive {many : Nat} {fin : Int} {rs : List ByteArray} {d : Dk} : appendD ⟨many, fin, false⟩ rs d = if rs.all rightR = false then (⟨many, fin, false⟩, d, 1)
  else if 800 < many + rs.length then (⟨many, fin, false⟩, d, 40)
  else if rs.length = 0 then (⟨many, fin, false⟩, d, 0)
  else if (layD ⟨many, fin, false⟩ rs d).2.2 ≠ 0 then (⟨many, fin, true⟩, (layD ⟨many, fin, false⟩ rs d).1, (layD ⟨many, fin, false⟩ rs d).2.2)
  else (⟨many + rs.length, (layD ⟨many, fin, false⟩ rs d).2.1, false⟩, (layD ⟨many, fin, false⟩ rs d).1, 0) := if_neg (fun h : false = true => Bool.noConfusion h)
theorem append_lg {l : Lg} {R : List (List UInt8)} {rs : List ByteArray} {d : Dk} (h : LgFor l R) (hrs : rs ≠ []) : (appendD l rs d).2 = (appendD (logOf R) rs d).2 ∧ ((appendD (logOf R) rs d).2.2 = 0 → (appendD l rs d).1 = (appendD (logOf R) rs d).1) := by
  obtain ⟨many, fin, dead⟩ := l
  obtain ⟨h1, h2, h3⟩ := h
  dsimp only at h1 h2 h3
  subst h1 h2
  have e : layD ⟨R.length, fin, false⟩ rs d = layD (logOf R) rs d := by
    unfold layD
    show (if (layG R.length 0 fin rs d).2.2 ≠ 0 then _ else _) = (if (layG R.length 0 (fileL R (R.length / 8)).length rs d).2.2 ≠ 0 then _ else _)
    rw [layG_fin (f2 := (fileL R (R.length / 8)).length) hrs h3]
    rfl
  have hl : rs.length ≠ 0 := fun h => hrs (List.length_eq_zero_iff.1 h)
  rw [show logOf R = ⟨R.length, (fileL R (R.length / 8)).length, false⟩ from rfl] at *
  rw [append_alive, append_alive, e]
  by_cases c2 : rs.all rightR = false
  · rw [if_pos c2, if_pos c2]
    exact ⟨rfl, fun h => by cases h⟩
  · rw [if_neg c2, if_neg c2]
    by_cases c3 : 800 < R.length + rs.length
    · rw [if_pos c3, if_pos c3]
      exact ⟨rfl, fun h => by cases h⟩
    · rw [if_neg c3, if_neg c3, if_neg hl, if_neg hl]
      by_cases c4 : (layD ⟨R.length, (fileL R (R.length / 8)).length, false⟩ rs d).2.2 ≠ 0
      · rw [if_pos c4, if_pos c4]
        exact ⟨rfl, fun h => absurd h c4⟩
      · rw [if_neg c4, if_neg c4]
        exact ⟨rfl, fun _ => rfl⟩
/-- An append at a disk that is not armed. -/
theorem append_still {lim c : Nat} {d : Dk} {R : List (List UInt8)} {l : Lg} (h : StL lim d R) (hl : LgFor l R) (rs : List ByteArray) (hright : rs.all rightR = true) (hR : ∀ s ∈ R, s.length ≤ c) (hrs : ∀ s ∈ rsL rs, s.length ≤ c) (hlim : 100 * (8 * (36 + c)) + 17000 ≤ lim) (hn : R.length + rs.length ≤ 800) :
    (appendD l rs d).2.2 = 0 ∧ StL lim (appendD l rs d).2.1 (R ++ rsL rs) ∧ LgFor (appendD l rs d).1 (R ++ rsL rs) ∧
      ∀ p, (findK (appendD l rs d).2.1.now p).isSome = true ↔ ((findK d.now p).isSome = true ∨ ∃ j, R.length ≤ j ∧ j < R.length + rs.length ∧ p = nameS (j / 8)) := by
  by_cases h0 : rs = []
  · subst h0
    have e : appendD l [] d = (l, d, 0) := by
      unfold appendD
      rw [if_neg (by rw [hl.dead]; exact Bool.noConfusion), if_neg (by decide), if_neg (by rw [hl.many]; exact Nat.not_lt.2 hn), if_pos (show ([] : List ByteArray).length = 0 from rfl)]
    rw [e]
    refine ⟨rfl, by simpa [rsL] using h, by simpa [rsL] using hl, fun p => ⟨.inl, fun h => ?_⟩⟩
    rcases h with h | ⟨j, h1, h2, _⟩
    · exact h
    · simp at h2
      omega
  · obtain ⟨e1, e2⟩ := append_lg (d := d) hl h0
    obtain ⟨_, _, h3, _⟩ := append_st h rs 0 hR (fun _ => hrs) hlim
    rw [arm_none h.armed] at h3
    obtain ⟨a1, a2, a3, a4, a5, a6⟩ := h3 hright hn (Int.le_refl _)
    have e3 := e2 a1
    rw [e1, e3]
    exact ⟨a1, a4, ⟨by rw [a2, List.length_append]; simp [rsL], a3, a5⟩, a6⟩
/-- Which names there are, rising. -/
theorem names_are {now : Fls} (hr : RisK now) {l : List ByteArray} (hl : (l.map fun p => p.data.toList).Pairwise fun x y => bytesBefore x y = true) (h : ∀ p, (findK now p).isSome = true ↔ p ∈ l) : now.map (·.1) = l := by
  have irr : ∀ x : List UInt8, bytesBefore x x = false := fun x => WideAt.bytes_irrefl x
  have h1 : (now.map (·.1)).Pairwise fun x y => bytesBefore x.data.toList y.data.toList = true := by
    rw [List.pairwise_map]
    exact hr
  have h2 : l.Pairwise fun x y => bytesBefore x.data.toList y.data.toList = true := List.pairwise_map.1 hl
  have nd : ∀ {m : List ByteArray}, (m.Pairwise fun x y => bytesBefore x.data.toList y.data.toList = true) → m.Nodup := fun hm => hm.imp fun {x y} hb e => by
    rw [e, irr] at hb
    cases hb
  refine List.Perm.eq_of_pairwise (le := fun x y => bytesBefore x.data.toList y.data.toList = true) (fun x y _ _ a b => ?_) h1 h2 ((List.perm_ext_iff_of_nodup (nd h1) (nd h2)).2 fun p => ?_)
  · rw [before_ltK, decide_eq_true_eq] at a b
    exact absurd (List.lt_trans a b) (List.lt_irrefl _)
  · rw [mem_keysK]
    exact h p
/-- How many names there are. -/
theorem names_count {now : Fls} (hn : (now.map (·.1)).Nodup) {n : Nat} (h : ∀ p, (findK now p).isSome = true ↔ ∃ j, j < n ∧ p = nameS j) : now.length = n := by
  have h2 : ((List.range n).map nameS).Nodup := by
    refine List.Pairwise.map _ (fun a b (hab : a ≠ b) e => hab (nameS_inj e)) List.nodup_range
  have hp : (now.map (·.1)).Perm ((List.range n).map nameS) := (List.perm_ext_iff_of_nodup hn h2).2 fun p => by
    rw [mem_keysK, h p]
    constructor
    · rintro ⟨j, hj, rfl⟩
      exact List.mem_map.2 ⟨j, List.mem_range.2 hj, rfl⟩
    · intro hm
      obtain ⟨j, hj, rfl⟩ := List.mem_map.1 hm
      exact ⟨j, List.mem_range.1 hj, rfl⟩
  have := hp.length_eq
  simpa using this
/-! ### the chapter's example -/
def sB (l : List UInt8) : ByteArray := ⟨l.toArray⟩
def rA : List ByteArray := [⟨#[97]⟩, ⟨#[98, 99]⟩]
def rB : List ByteArray := [⟨#[51]⟩, ⟨#[52]⟩, ⟨#[53]⟩, ⟨#[54]⟩, ⟨#[55]⟩, ⟨#[56]⟩, ⟨#[57]⟩]
def aD0 : Dk := newD 100000
def aO1 : OpenR := openD aD0
def aA1 : Lg × Dk × Int := appendD (logOf []) rA aO1.d
def aO2 : OpenR := openD aA1.2.1
def aA2 : Lg × Dk × Int := appendD aA1.1 rB aO2.d
theorem awake_plain : aO1.log = some (logOf []) ∧ aO1.out = [] ∧ aO1.err = 0 ∧ StL 100000 aO1.d [] ∧ aA1.2.2 = 0 ∧ StL 100000 aA1.2.1 (rsL rA) ∧ LgFor aA1.1 (rsL rA) ∧ aO2.out = rA ∧ aO2.err = 0 ∧ aO2.log ≠ none ∧ StL 100000 aO2.d (rsL rA) ∧ aA2.2.2 = 0 ∧ aA2.1.many = 9 ∧ StL 100000 aA2.2.1 (rsL rA ++ rsL rB) ∧ ∀ p, (findK aA2.2.1.now p).isSome = true ↔ p ∈ [nameS 0, nameS 1] := by
  obtain ⟨a1, a2, a3, a4, a5⟩ := open_still (new_mid (lim := 100000)) (by decide)
  obtain ⟨b1, b2, b3, b4⟩ := append_still (c := 2) a4 (LgFor.of []) rA (by decide) (fun s hs => by cases hs) (by decide) (by decide) (by decide)
  rw [List.nil_append] at b2 b3
  obtain ⟨c1, c2, c3, c4, c5⟩ := open_still b2.mid (by decide)
  obtain ⟨d1, d2, d3, d4⟩ := append_still (c := 2) c4 b3 rB (by decide) (by decide) (by decide) (by decide) (by decide)
  refine ⟨a1, a2, a3, a4, b1, b2, b3, c2.trans rfl, c3, fun h => (by rw [show aO2.log = _ from c1] at h; cases h), c4, d1, d3.many, d2, fun p => ?_⟩
  have e0 : ¬ (findK (newD 100000).now p).isSome = true := by
    show ¬ (none : Option ByteArray).isSome = true
    decide
  have q1 : (findK aO1.d.now p).isSome = true ↔ False := by
    rw [show (findK aO1.d.now p).isSome = (findK (newD 100000).now p).isSome from a5 p]
    exact ⟨e0, False.elim⟩
  have q2 : (findK aA1.2.1.now p).isSome = true ↔ p = nameS 0 := by
    refine (b4 p).trans ?_
    refine (or_congr q1 Iff.rfl).trans ?_
    rw [false_or]
    constructor
    · rintro ⟨j, h1, h2, rfl⟩
      have h2' : j < 2 := h2
      rw [show j / 8 = 0 by omega]
    · rintro rfl
      exact ⟨0, Nat.le_refl _, (by decide), rfl⟩
  have q3 : (findK aO2.d.now p).isSome = true ↔ p = nameS 0 := by
    rw [show (findK aO2.d.now p).isSome = (findK aA1.2.1.now p).isSome from c5 p]
    exact q2
  refine (d4 p).trans ((or_congr q3 Iff.rfl).trans ?_)
  simp only [List.mem_cons, List.mem_nil_iff, or_false]
  constructor
  · rintro (h | ⟨j, h1, h2, rfl⟩)
    · exact .inl h
    · have h1' : 2 ≤ j := h1
      have h2' : j < 9 := h2
      by_cases h8 : j < 8
      · left
        rw [show j / 8 = 0 by omega]
      · right
        rw [show j / 8 = 1 by omega]
  · rintro (rfl | rfl)
    · exact .inl rfl
    · exact .inr ⟨8, (by decide), (by decide), rfl⟩
end Go.Proofs.YtgglheelhbfgiaaGreatDoor

namespace Go.Proofs.YtgglheelhbfgiaaGreatDoor
open Go Go.RowKit
/-! ### bounds -/
structure BndD (n : Nat) (d : Dk) : Prop where
  now : d.now.length ≤ n
  firm : d.firm.length ≤ n
  acts : d.acts.length ≤ n
theorem BndD.le {n m : Nat} {d : Dk} (h : BndD n d) (hn : n ≤ m) : BndD m d := ⟨Nat.le_trans h.now hn, Nat.le_trans h.firm hn, Nat.le_trans h.acts hn⟩
theorem BndD.arm {n : Nat} {d : Dk} (h : BndD n d) (k : Int) : BndD n (armD d k) := ⟨h.now, h.firm, h.acts⟩
theorem BndD.dies {n : Nat} {d : Dk} (h : BndD n d) : BndD n (diesD d) := by
  unfold diesD
  split
  · exact ⟨h.now, h.firm, h.acts⟩
  · exact h
theorem BndD.does {n : Nat} {d : Dk} (h : BndD n d) (a : ActD) : BndD (n + 1) (doesD d a).1 := by
  have h1 : BndD (n + 1) { d with acts := d.acts ++ [a] } := ⟨Nat.le_succ_of_le h.now, Nat.le_succ_of_le h.firm, by show (d.acts ++ [a]).length ≤ _; rw [List.length_append]; exact Nat.succ_le_succ h.acts⟩
  unfold doesD
  split
  · exact h1.dies
  · exact ⟨Nat.le_trans (doD_len d.now a false) (Nat.succ_le_succ h.now), h1.dies.firm, h1.dies.acts⟩
theorem BndD.write {n : Nat} {d : Dk} (h : BndD n d) (p : ByteArray) (k : Int) (x : ByteArray) : BndD (n + 1) (writeD d p k x).1 := by
  unfold writeD
  split
  · exact h.le (Nat.le_succ n)
  · split
    · exact h.le (Nat.le_succ n)
    · exact h.does _
theorem BndD.cut {n : Nat} {d : Dk} (h : BndD n d) (p : ByteArray) (k : Int) : BndD (n + 1) (cutD d p k).1 := by
  unfold cutD
  split
  · exact h.le (Nat.le_succ n)
  · split
    · exact h.le (Nat.le_succ n)
    · exact h.does _
theorem BndD.sync {n : Nat} {d : Dk} (h : BndD n d) : BndD n (syncD d).1 := by
  unfold syncD
  split
  · exact h
  · split
    · exact h.dies
    · exact ⟨h.dies.now, h.now, Nat.zero_le _⟩
theorem BndD.lays {many : Nat} : ∀ (rs : List ByteArray) (i : Nat) (k : Int) (d : Dk) (n : Nat), BndD n d → BndD (n + rs.length) (layG many i k rs d).1
  | [], _, _, _, _, h => h
  | s :: r, i, k, d, n, h => by
    have h1 := h.write (nameS ((many + i) / 8)) (if (many + i) % 8 = 0 then 0 else k) (frameB (many + i) s)
    by_cases hq : (writeD d (nameS ((many + i) / 8)) (if (many + i) % 8 = 0 then 0 else k) (frameB (many + i) s)).2 = 0
    · rw [layG, if_neg (fun e => e hq)]
      exact (BndD.lays r _ _ _ _ h1).le (show n + 1 + r.length ≤ n + (r.length + 1) by omega)
    · rw [layG, if_pos hq]
      exact h1.le (show n + 1 ≤ n + (r.length + 1) by omega)
theorem BndD.append {n : Nat} {d : Dk} (h : BndD n d) (l : Lg) (rs : List ByteArray) : BndD (n + rs.length) (appendD l rs d).2.1 := by
  have h1 := BndD.lays (many := l.many) rs 0 l.fin d n h
  have h0 : BndD (n + rs.length) d := h.le (Nat.le_add_right _ _)
  have h2 : BndD (n + rs.length) (layD l rs d).1 := by
    unfold layD
    split
    · exact h1
    · exact h1.sync
  unfold appendD
  split
  · exact h0
  · split
    · exact h0
    · split
      · exact h0
      · split
        · exact h0
        · split
          · exact h2
          · exact h2
theorem BndD.cuts {E : Ends} : ∀ (ps : List ByteArray) (d : Dk) (n : Nat), BndD n d → BndD (n + ps.length) (cutsD E ps d).1
  | [], _, _, h => h
  | p :: r, d, n, h => by
    rw [cutsD]
    have h1 := h.cut p (endOf E p)
    split
    · split
      · exact h1.le (show n + 1 ≤ n + (r.length + 1) by omega)
      · exact (BndD.cuts r _ _ h1).le (show n + 1 + r.length ≤ n + (r.length + 1) by omega)
    · exact (BndD.cuts r _ _ h).le (show n + r.length ≤ n + (r.length + 1) by omega)
theorem BndD.opened {n : Nat} {d : Dk} (h : BndD n d) : BndD (n + n) (openD d).d := by
  have hl : (namesD d).length ≤ n := by
    unfold namesD
    rw [List.length_map]
    exact h.now
  have h1 := (BndD.cuts (E := (scanG d.now 800 [] []).2) (namesD d) d n h).le (Nat.add_le_add_left hl n)
  unfold openD
  split
  · exact h.le (Nat.le_add_right _ _)
  · split
    · exact h1
    · split
      · exact h1.sync
      · exact h1.sync
theorem StL.bnd {lim : Nat} {d : Dk} {R : List (List UInt8)} (h : StL lim d R) : BndD 100 d := ⟨names_len h.names, by rw [h.firm]; exact names_len h.names, by rw [h.acts]; exact Nat.zero_le _⟩
theorem MidL.bnd {lim : Nat} {d : Dk} {R : List (List UInt8)} (h : MidL lim d R) : BndD 100 d := ⟨names_len h.names, by rw [h.firm]; exact names_len h.names, by rw [h.acts]; exact Nat.zero_le _⟩
/-! ### the round -/
theorem back_B (rs : List ByteArray) : (rsL rs).map mkB = rs := by
  unfold rsL
  rw [List.map_map]
  refine (List.map_congr_left fun x _ => ?_).trans (List.map_id rs)
  show mkB x.data.toList = x
  exact mkB_of x
/-- What is known behind the crash of a round. -/
structure RoundL (R : List (List UInt8)) (p : List ByteArray) (cut : Int) (e : Int) (d : Dk) (Q : List (List UInt8)) : Prop where
  wrong : p.all rightR = false → e = 1
  fine : p.all rightR = true → e = 0 ∨ (e = 42 ∧ 0 < cut) ∨ (e = 40 ∧ 800 < R.length + p.length)
  mid : MidL 4194304 d Q
  has : (if e = 0 then R.map mkB ++ p else R.map mkB) <+: Q.map mkB
  within : Q.map mkB <+: (if p.all rightR = true ∧ e ≠ 40 then R.map mkB ++ p else R.map mkB)
theorem round_append {d : Dk} {R : List (List UInt8)} (h : StL 4194304 d R) (p : List ByteArray) (cut keep : Int) (torn : Bool) : ∃ Q, RoundL R p cut (appendD (logOf R) p (armD d cut)).2.2 (crashD (appendD (logOf R) p (armD d cut)).2.1 keep torn) Q := by
  have hR : ∀ s ∈ R, s.length ≤ 2000 := fun s hs => by
    have := h.clean.right s hs
    unfold recOk at this
    simp only [Bool.and_eq_true, decide_eq_true_eq] at this
    exact this.2
  have hp : p.all rightR = true → ∀ s ∈ rsL p, s.length ≤ 2000 := fun ha s hs => by
    have := rightR_eq p ha s hs
    unfold recOk at this
    simp only [Bool.and_eq_true, decide_eq_true_eq] at this
    exact this.2
  obtain ⟨a1, a2, _, a4⟩ := append_st h p cut hR hp (by decide)
  obtain ⟨j, b1, b2, b3, b4⟩ := a4 keep torn
  refine ⟨R ++ (rsL p).take j, a1, a2, b1, ?_, ?_⟩
  · split
    · rename_i e0
      rw [b2 e0, List.map_append, back_B]
      exact List.prefix_refl _
    · rw [List.map_append]
      exact List.prefix_append _ _
  · split
    · rw [List.map_append]
      refine (List.prefix_append_right_inj _).2 ?_
      have e : (rsL p).take j = rsL (p.take j) := (List.map_take ..).symm
      rw [e, back_B]
      exact List.take_prefix _ _
    · rename_i hn
      have : (rsL p).take j = [] := by
        cases hr : p.all rightR with
        | false => exact b3 hr
        | true =>
          refine b4 ?_
          rcases Decidable.em ((appendD (logOf R) p (armD d cut)).2.2 = 40) with h40 | h40
          · exact h40
          · exact absurd ⟨hr, h40⟩ hn
      rw [this, List.append_nil]
      exact List.prefix_refl _
/-- The openings of a round. -/
theorem round_open {d : Dk} {Q : List (List UInt8)} (h : MidL 4194304 d Q) (cut keep : Int) (torn : Bool) :
    ((openD (armD d cut)).log = none ∧ (openD (armD d cut)).out = [] ∧ (openD (armD d cut)).err = 42 ∧ (openD (crashD (openD (armD d cut)).d keep torn)).log = some (logOf Q) ∧ (openD (crashD (openD (armD d cut)).d keep torn)).out = Q.map mkB ∧ (openD (crashD (openD (armD d cut)).d keep torn)).err = 0 ∧ StL 4194304 (openD (crashD (openD (armD d cut)).d keep torn)).d Q ∧ MidL 4194304 (crashD (openD (armD d cut)).d keep torn) Q) ∨
    ((openD (armD d cut)).log = some (logOf Q) ∧ (openD (armD d cut)).out = Q.map mkB ∧ (openD (armD d cut)).err = 0 ∧ StL 4194304 (armD (openD (armD d cut)).d 0) Q) := by
  rcases open_mid h (by decide) cut with ⟨a1, a2, a3, _, a5⟩ | ⟨a1, a2, a3, a4, _⟩
  · obtain ⟨b1, b2, b3, b4, _⟩ := open_still (a5 keep torn) (by decide)
    exact .inl ⟨a1, a2, a3, b1, b2, b3, b4, a5 keep torn⟩
  · exact .inr ⟨a1, a2, a3, a4⟩
theorem StL.arm0 {lim : Nat} {d : Dk} {R : List (List UInt8)} (h : StL lim d R) : StL lim (armD d 0) R := by
  rw [arm_none h.armed]
  exact h
end Go.Proofs.YtgglheelhbfgiaaGreatDoor

