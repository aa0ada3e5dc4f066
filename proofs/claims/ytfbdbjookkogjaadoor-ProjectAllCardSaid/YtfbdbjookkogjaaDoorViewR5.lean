/-
  Which items a tree has: the law.
-/
import Derived.Test.YtfbdbjookkogjaaDoorViewRG
import Derived.Test.YtfbdbjookkogjaaDoorProjW1
namespace Go.Proofs.YtfbdbjookkogjaaDoor
open Go Go.RowKit Go.Lib
theorem any_hitN {α : Type} {l : List α} {p : α → Bool} {k : Nat} {y : α} (hy : l[k]? = some y) (h : p y = true) : l.any p = true := List.any_eq_true.2 ⟨y, List.mem_of_getElem? hy, h⟩
theorem any_noneN {α : Type} {l : List α} {p : α → Bool} (h : ∀ j y, j < l.length → l[j]? = some y → p y = false) : l.any p = false := by
  rw [List.any_eq_false]
  intro x hx
  obtain ⟨j, hj, e⟩ := List.mem_iff_getElem.1 hx
  rw [h j x hj (by rw [List.getElem?_eq_getElem hj, e])]
  simp
theorem addV_ok {nodes : List Nd} (ahead : ByteArray) (full : Bool) : ∀ (l : List (Nd × ByteArray)) (out : List Itm), (∀ p ∈ l, p.1 ∈ nodes) → OutOK nodes out → OutOK nodes (addV ahead full l out).1
  | [], out, _, h => h
  | (n, g) :: r, out, hl, h => by
    unfold addV
    split
    · exact h
    · rename_i h1
      exact addV_ok ahead full r _ (fun p hp => hl p (List.mem_cons_of_mem _ hp)) (h.add (hl (n, g) List.mem_cons_self) (by
        cases hh : hasI out n.cnt n.who with
        | false => rfl
        | true => rw [hh] at h1; simp at h1) ahead g)
theorem subV_ok {nodes : List Nd} {down : Int → Int → ByteArray → List Itm → List Itm × Int} (hd : ∀ c w a o, OutOK nodes o → OutOK nodes (down c w a o).1) (ahead : ByteArray) : ∀ (l : List (Nd × ByteArray)) (out : List Itm), OutOK nodes out → OutOK nodes (subV down ahead l out).1
  | [], out, h => h
  | (n, g) :: r, out, h => by
    unfold subV
    split
    · split
      · exact subV_ok hd ahead r _ (hd _ _ _ _ h)
      · exact hd _ _ _ _ h
    · exact subV_ok hd ahead r _ h
theorem given_mem {nodes : List Nd} {c w : Int} : ∀ p ∈ given nodes c w, p.1 ∈ nodes := fun _ hp => (List.mem_filter.1 (List.of_mem_zip hp).1).1
theorem downV_ok (nodes : List Nd) : ∀ (f : Nat) (c w : Int) (ahead : ByteArray) (out : List Itm), OutOK nodes out → OutOK nodes (downV nodes f c w ahead out).1
  | 0, c, w, ahead, out, h => by
    unfold downV
    split
    · exact h
    · exact addV_ok _ _ _ _ given_mem h
  | f + 1, c, w, ahead, out, h => by
    unfold downV
    split
    · exact h
    · split
      · exact subV_ok (downV_ok nodes f) _ _ _ (addV_ok _ _ _ _ given_mem h)
      · exact addV_ok _ _ _ _ given_mem h
theorem view_len (l : List Nd) : (viewF l).1.length ≤ l.length := by
  unfold viewF
  split
  · have h3 := sortI_length (downV l 16 0 0 ⟨#[]⟩ []).1 []
    show (sortI _).length ≤ _
    unfold sortI
    rw [h3]
    have := out_len (downV_ok l 16 0 0 ⟨#[]⟩ [] ⟨fun x hx => absurd hx (by simp), List.Pairwise.nil⟩)
    rw [List.length_nil]
    omega
  · simp
def bigNd (x : Nd) : Bool := decide (200 < x.name.size) || decide (1000 < x.man.size)
def fewN (l : List Nd) : Bool := decide (l.length ≤ 120) && !l.any bigNd
theorem fewN_parts {l : List Nd} (h : fewN l = true) : l.length ≤ 120 ∧ ∀ x ∈ l, x.name.size ≤ 200 := by
  unfold fewN at h
  rw [Bool.and_eq_true] at h
  refine ⟨of_decide_eq_true h.1, fun x hx => ?_⟩
  have h2 : l.any bigNd = false := by simpa using h.2
  have h3 := List.any_eq_false.1 h2 x hx
  unfold bigNd at h3
  simp at h3
  omega
theorem ret_boolN {a b : Bool} (h : a = b) : (Ending.returned (.bool a)) = .returned (.bool b) := by rw [h]
set_option maxRecDepth 100000 in
set_option maxHeartbeats 1600000 in
theorem few11_any (a : Option Addr) (cap : Nat) (l : List Nd) (w : World) (hl : l.length ≤ 140737488351232) (ha : RowsAt ndLay w a l) :
    Calls Tryd.prog 9 #[.slice a l.length cap] w fun e w' => e = .returned (.bool (fewN l)) ∧ w' = w := by
  have HA := Lib.hid ha
  have HF := Lib.hid (show fewN l = (decide (l.length ≤ 120) && !l.any bigNd) from rfl)
  generalize fewN l = fo at *
  clear ha
  by_cases h450 : l.length ≤ 120
  · go_enter Tryd.func9, Tryd.ntmps9
    go_wp2_with fail
    go_loopw [3] (fun i wr => ∃ k : Nat, k ≤ l.length ∧ i = .int .i64 k ∧ Hid (∀ j y, j < k → l[j]? = some y → bigNd y = false) ∧ wr = w) (fun i _ => l.length - (RowKit.intOf i).toNat)
    case atStart => exact ⟨0, Nat.zero_le _, rfl, Lib.hid (fun j _ hj => absurd hj (Nat.not_lt_zero _)), rfl⟩
    case round =>
      obtain ⟨k, hk, rfl, Hk, rfl⟩ := hrel
      by_cases hlt : k < l.length
      · obtain ⟨y, hy⟩ := at_some hlt
        obtain ⟨b, off, rfl, hbl, c0, c1, c2, c3, c4, c5, c6⟩ := nd_at HA.out hy
        have Hy := Lib.hid hy
        by_cases h1 : 200 < y.name.size
        · have Hr := Lib.hid (any_hitN (p := bigNd) Hy.out (by unfold bigNd; simp [h1]))
          go_wp2_with fail
          go_ret
          exact ⟨ret_boolN (by rw [HF.out, Hr.out]; simp), rfl⟩
        by_cases h2 : 1000 < y.man.size
        · have Hr := Lib.hid (any_hitN (p := bigNd) Hy.out (by unfold bigNd; simp [h2]))
          go_wp2_with fail
          go_ret
          exact ⟨ret_boolN (by rw [HF.out, Hr.out]; simp), rfl⟩
        have Hn := Lib.hid (show bigNd y = false by unfold bigNd; simp [h1, h2])
        go_wp2_with fail
        go_roundw
        case rel =>
          refine ⟨k + 1, by omega, by go_num, fun j z hj hz => ?_, by first | rfl | trivial⟩
          by_cases e : j = k
          · subst e
            rw [Hy.out] at hz
            cases hz
            exact Hn.out
          · exact Hk.out j z (by omega) hz
        case measure => simp [RowKit.intOf]; omega
      · have Hr := Lib.hid (any_noneN (l := l) (p := bigNd) (fun j y hj hy => Hk.out j y (by omega) hy))
        go_wp2_with fail
        go_ret
        exact ⟨ret_boolN (by rw [HF.out, Hr.out]; simp; omega), rfl⟩
  · go_enter Tryd.func9, Tryd.ntmps9
    go_wp2_with fail
    go_ret
    exact ⟨ret_boolN (by rw [HF.out]; simp; omega), rfl⟩
def exNds : List Nd := [⟨1, 0, false, 0, 0, ⟨#[97]⟩, ⟨#[]⟩⟩, ⟨2, 0, false, 0, 0, ⟨#[97]⟩, ⟨#[]⟩⟩]
theorem ex_view : viewF exNds = ([⟨⟨#[97]⟩, 1, 0, false, false, ⟨#[]⟩⟩, ⟨⟨#[97, 126, 49]⟩, 2, 0, false, false, ⟨#[]⟩⟩], 0) := by kernel_rfl
theorem ex_ok : NdsOK exNds := ⟨by decide, fun n hn => by
  simp only [exNds, List.mem_cons, List.mem_nil_iff, or_false] at hn
  rcases hn with rfl | rfl <;> exact ⟨by decide, by decide⟩, fun n hn => by
  simp only [exNds, List.mem_cons, List.mem_nil_iff, or_false] at hn
  rcases hn with rfl | rfl <;> decide⟩
set_option maxRecDepth 100000 in
set_option maxHeartbeats 1600000 in
theorem awake11_any (w : World) (hT : Tab w) : Calls Tryd.prog 10 #[] w fun e w' => e = .returned (.bool true) ∧ Below w.heap.size w w' := by
  have hb1 := (Below.refl w.heap.size w).alloc (Nat.le_refl _) (.cells #[.int .i64 1, .int .i64 0, .bool false, .int .i64 0, .int .i64 0, .string ⟨#[97]⟩, .string ⟨#[]⟩, .int .i64 2, .int .i64 0, .bool false, .int .i64 0, .int .i64 0, .string ⟨#[97]⟩, .string ⟨#[]⟩] 46)
  have HV := Lib.hid (view_any (some ⟨w.heap.size, 0, none⟩) 2 exNds _ (tab_keeps hT hb1) (rows_new ndLay w w.heap.size _ _ exNds rfl rfl) ex_ok)
  have Hb := Lib.hid hb1
  clear hb1 hT
  go_enter Tryd.func10, Tryd.ntmps10
  go_wp2_with fail
  refine HV.out.mono ?_
  rw [ex_view]
  rintro e w1 ⟨a, cap, rfl, hr, hb, _⟩
  obtain ⟨b1, o1, rfl, hl1, c0, c1, c2, c3, c4, c5⟩ := itm_at hr (k := 0) rfl
  obtain ⟨b2, o2, e2, hl2, d0, d1, d2, d3, d4, d5⟩ := itm_at hr (k := 1) rfl
  cases e2
  have hb3 := Hb.out.trans (hb.mono Hb.out.size)
  clear hb HV
  dsimp only at c0 c1 d0
  simp only [Nat.zero_mul, Nat.one_mul, Nat.add_zero] at c0 c1 d0
  go_wp2_with fail
  go_ret
  exact ⟨rfl, hb3⟩
set_option maxRecDepth 100000 in
set_option maxHeartbeats 1600000 in
theorem law_viewShows (a : Option Addr) (cap : Nat) (l : List Nd) (w : World) (hl : l.length ≤ 140737488351232) (ha : RowsAt ndLay w a l) (hid : ∀ n ∈ l, idOK n.cnt n.who) (hT : Tab w) :
    Calls Tryd.prog 3 #[.slice a l.length cap] w fun e w' => e = .returned (.bool true) ∧ Below w.heap.size w w' := by
  have HF := Lib.hid (few11_any a cap l w hl ha)
  have HT := Lib.hid fun W (h : Below w.heap.size w W) => tab_keeps hT h
  have HAW := Lib.hid fun W (h : Below w.heap.size w W) => awake11_any W (tab_keeps hT h)
  by_cases hf : fewN l = true
  · rw [hf] at HF
    obtain ⟨h1, h2⟩ := fewN_parts hf
    have hok : NdsOK l := ⟨by omega, hid, fun n hn => by have := h2 n hn; omega⟩
    have HV := Lib.hid (view_any a cap l w hT ha hok)
    have HR := Lib.hid fun W (h : Below w.heap.size w W) => rview_any a cap l W (ha.keeps h) hok
    have hvl : (viewF l).1.length ≤ 140737488351232 := Nat.le_trans (view_len l) hl
    generalize viewF l = r at *
    obtain ⟨r1, r2⟩ := r
    dsimp only at HV HR hvl
    clear hf h2 hok ha hid hT
    go_enter Tryd.func3, Tryd.ntmps3
    go_wp2_with fail
    refine HF.out.mono ?_
    rintro e w1 ⟨rfl, rfl⟩
    go_wp2_with fail
    refine HV.out.mono ?_
    rintro e w2 ⟨a2, c2, rfl, hr2, hb2, _⟩
    go_wp2_with fail
    refine (HR.out _ hb2).mono ?_
    rintro e w3 ⟨a3, c3, rfl, hr3, hb3⟩
    have hb23 := hb2.trans (hb3.mono hb2.size)
    have HS0 := items_any a2 a3 c2 c3 r1 r1 w3 hvl (hr2.keeps hb3) hr3
    rw [show decide (r1 = r1) = true from decide_eq_true rfl] at HS0
    have HS := Lib.hid HS0
    clear HS0
    clear hr2 hr3 HV HF
    go_wp2_with fail
    refine HS.out.mono ?_
    rintro e w4 ⟨rfl, n, rfl⟩
    have hb4 := belowDrew hb23 n
    go_wp2_with fail
    refine (HAW.out _ hb4).mono ?_
    rintro e w5 ⟨rfl, hb5⟩
    go_wp2_with fail
    go_ret
    exact ⟨rfl, hb4.trans (hb5.mono hb4.size)⟩
  · rw [show fewN l = false by simpa using hf] at HF
    clear hf ha hid hT
    go_enter Tryd.func3, Tryd.ntmps3
    go_wp2_with fail
    refine HF.out.mono ?_
    rintro e w1 ⟨rfl, rfl⟩
    go_wp2_with fail
    refine (HAW.out _ (Below.refl _ _)).mono ?_
    rintro e w5 ⟨rfl, hb5⟩
    go_wp2_with fail
    go_ret
    exact ⟨rfl, hb5⟩
end Go.Proofs.YtfbdbjookkogjaaDoor
