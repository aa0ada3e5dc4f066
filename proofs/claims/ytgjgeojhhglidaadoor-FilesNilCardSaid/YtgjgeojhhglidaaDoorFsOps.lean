/-
  What the calls of a file system do: plain law.
-/
import Derived.Test.YtgjgeojhhglidaaDoorFsPure
import Derived.Test.YtgjgeojhhglidaaDoorPathW1
import Derived.Test.YtgjgeojhhglidaaDoorCells
import Derived.Test.YtgjgeojhhglidaaDoorTurned
import Derived.Test.YtgjgeojhhglidaaDoorUnder
namespace Go.Proofs.YtgjgeojhhglidaaDoor
open Go Go.RowKit Go.Maps Go.Lib

structure Fs where
  n : Nat
  es : List Ent
def noBa : ByteArray := ⟨#[]⟩
def slashI (p : ByteArray) : Int := Lib.lastIndexByte p 47
def isDirE (es : List Ent) (p : ByteArray) : Bool := ((findE es p).map (·.dir)).getD false
/-- Does the directory of a path stand? -/
def standsE (es : List Ent) (p : ByteArray) : Bool := decide (slashI p < 0) || isDirE es (p.extract 0 (slashI p).toNat)
def madeF (f : Fs) (x : Ent) : Fs × Int :=
  if standsE f.es x.path = false then (f, 44) else if 300 ≤ f.es.length then (f, 41) else (⟨f.n + 1, putE f.es ⟨x.path, (f.n : Int) + 1, x.dir, x.data⟩⟩, 0)
def mkdirF (f : Fs) (p : ByteArray) : Fs × Int :=
  if pathG p.data.toList = false then (f, 23) else if (findE f.es p).isSome then (f, 24) else madeF f ⟨p, 0, true, noBa⟩
def writeF (f : Fs) (p d : ByteArray) : Fs × Int :=
  if pathG p.data.toList = false then (f, 23) else if 4096 < d.size then (f, 40) else match findE f.es p with
    | none => madeF f ⟨p, 0, false, d⟩
    | some x => if x.dir then (f, 44) else (⟨f.n, putE f.es ⟨x.path, x.id, x.dir, d⟩⟩, 0)
/-- Is a path another one, or in it? -/
def inE (d q : ByteArray) : Bool := decide (q = d) || underB q d
def newP (a b q : ByteArray) : ByteArray := b ++ q.extract a.size q.size
def movE (a b : ByteArray) (x : Ent) : Ent := if inE a x.path then ⟨newP a b x.path, x.id, x.dir, x.data⟩ else x
def sortE (l : List Ent) : List Ent := l.foldr insE []
def renameF (f : Fs) (a b : ByteArray) : Fs × Int :=
  if (findE f.es a).isNone then (f, 25) else if pathG b.data.toList = false then (f, 23) else if (findE f.es b).isSome then (f, 24) else
  if standsE f.es b = false ∨ underB b a = true then (f, 44) else
  if f.es.any (fun x => inE a x.path && !pathG (newP a b x.path).data.toList) then (f, 23) else (⟨f.n, sortE (f.es.map (movE a b))⟩, 0)
def removeF (f : Fs) (p : ByteArray) : Fs × Int :=
  if (findE f.es p).isNone then (f, 25) else (⟨f.n, f.es.filter fun x => !inE p x.path⟩, 0)
def getF (f : Fs) (p : ByteArray) : Ent × Int := match findE f.es p with
  | none => (noEnt, 25)
  | some x => (x, 0)

/-! ### what always holds -/
structure FsOK (f : Fs) : Prop where
  rise : Rising f.es
  path : ∀ x ∈ f.es, pathG x.path.data.toList = true
  up : ∀ x ∈ f.es, standsE f.es x.path = true
  few : f.es.length ≤ 300
theorem ok_new : FsOK ⟨0, []⟩ := ⟨List.Pairwise.nil, (fun _ h => nomatch h), (fun _ h => nomatch h), Nat.zero_le _⟩
theorem isDir_of {es : List Ent} (hr : Rising es) {p : ByteArray} : isDirE es p = true ↔ ∃ x ∈ es, x.path = p ∧ x.dir = true := by
  unfold isDirE
  constructor
  · intro h
    cases hf : findE es p with
    | none => rw [hf] at h; cases h
    | some x =>
      rw [hf] at h
      obtain ⟨h1, h2⟩ := find_some hf
      exact ⟨x, h1, h2, h⟩
  · rintro ⟨x, hx, rfl, hd⟩
    rw [find_of hr hx]
    exact hd
theorem stands_of {es : List Ent} (hr : Rising es) {p : ByteArray} : standsE es p = true ↔ slashI p < 0 ∨ ∃ x ∈ es, x.path = p.extract 0 (slashI p).toNat ∧ x.dir = true := by
  unfold standsE
  rw [Bool.or_eq_true, decide_eq_true_eq, isDir_of hr]
theorem ok_made {f : Fs} (h : FsOK f) {x : Ent} (hp : pathG x.path.data.toList = true) (hn : findE f.es x.path = none) : FsOK (madeF f x).1 := by
  unfold madeF
  split
  · exact h
  rename_i hs
  split
  · exact h
  rename_i hl
  have hs' : standsE f.es x.path = true := by
    cases hx : standsE f.es x.path with
    | true => rfl
    | false => exact absurd hx hs
  have hr := rising_put h.rise ⟨x.path, (f.n : Int) + 1, x.dir, x.data⟩
  have hkeep : ∀ y ∈ f.es, y ∈ putE f.es ⟨x.path, (f.n : Int) + 1, x.dir, x.data⟩ := fun y hy => mem_putE.2 (.inr ⟨hy, find_none hn y hy⟩)
  refine ⟨hr, fun y hy => ?_, fun y hy => ?_, ?_⟩
  · rcases mem_putE.1 hy with rfl | ⟨hy, _⟩
    · exact hp
    · exact h.path y hy
  · have key : standsE f.es y.path = true := by
      rcases mem_putE.1 hy with rfl | ⟨hy, _⟩
      · exact hs'
      · exact h.up y hy
    rw [stands_of hr]
    rcases (stands_of h.rise).1 key with h1 | ⟨z, hz, h1⟩
    · exact .inl h1
    · exact .inr ⟨z, hkeep z hz, h1⟩
  · show (putE f.es ⟨x.path, (f.n : Int) + 1, x.dir, x.data⟩).length ≤ 300
    rw [len_put_new (x := ⟨x.path, (f.n : Int) + 1, x.dir, x.data⟩) hn]
    omega
theorem ok_mkdir {f : Fs} (h : FsOK f) (p : ByteArray) : FsOK (mkdirF f p).1 := by
  unfold mkdirF
  split
  · exact h
  rename_i hp
  split
  · exact h
  rename_i hn
  refine ok_made h ?_ ?_
  · cases hx : pathG p.data.toList with
    | true => rfl
    | false => exact absurd hx hp
  · cases hx : findE f.es p with
    | none => rfl
    | some y => rw [hx] at hn; exact absurd rfl hn
theorem ok_write {f : Fs} (h : FsOK f) (p d : ByteArray) : FsOK (writeF f p d).1 := by
  unfold writeF
  split
  · exact h
  rename_i hp
  split
  · exact h
  have hp' : pathG p.data.toList = true := by
    cases hx : pathG p.data.toList with
    | true => rfl
    | false => exact absurd hx hp
  cases hf : findE f.es p with
  | none => exact ok_made (x := ⟨p, 0, false, d⟩) h hp' hf
  | some x =>
    obtain ⟨hx, rfl⟩ := find_some hf
    dsimp only
    split
    · exact h
    rename_i hd
    have hr := rising_put h.rise ⟨x.path, x.id, x.dir, d⟩
    have hdir : ∀ y ∈ f.es, y.dir = true → y ∈ putE f.es ⟨x.path, x.id, x.dir, d⟩ := fun y hy hyd => mem_putE.2 (.inr ⟨hy, fun e => by
      have := rising_one h.rise hy hx e
      rw [this] at hyd
      exact hd hyd⟩)
    refine ⟨hr, fun y hy => ?_, fun y hy => ?_, ?_⟩
    · rcases mem_putE.1 hy with rfl | ⟨hy, _⟩
      · exact hp'
      · exact h.path y hy
    · have key : standsE f.es y.path = true := by
        rcases mem_putE.1 hy with rfl | ⟨hy, _⟩
        · exact h.up x hx
        · exact h.up y hy
      rw [stands_of hr]
      rcases (stands_of h.rise).1 key with h1 | ⟨z, hz, h1, h2⟩
      · exact .inl h1
      · exact .inr ⟨z, hdir z hz h2, h1, h2⟩
    · show (putE f.es ⟨x.path, x.id, x.dir, d⟩).length ≤ 300
      unfold putE
      rw [len_ins]
      have h1 : (delE f.es x.path).length < f.es.length := by
        unfold delE
        refine List.length_filter_lt_length_iff_exists.2 ⟨x, hx, ?_⟩
        simp
      have := h.few
      dsimp only
      omega
end Go.Proofs.YtgjgeojhhglidaaDoor
