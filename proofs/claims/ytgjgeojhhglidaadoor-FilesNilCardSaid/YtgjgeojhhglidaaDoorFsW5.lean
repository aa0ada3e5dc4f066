/-
  Remove.
-/
import Derived.Test.YtgjgeojhhglidaaDoorFsW4
namespace Go.Proofs.YtgjgeojhhglidaaDoor
open Go Go.RowKit Go.Lib

/-- Is a path among some? -/
def amongE (l : List ByteArray) (p : ByteArray) : Bool := l.any fun q => decide (p = q)
theorem among_iff {l : List ByteArray} {p : ByteArray} : amongE l p = true ↔ p ∈ l := by
  unfold amongE
  rw [List.any_eq_true]
  constructor
  · rintro ⟨q, hq, e⟩
    rw [decide_eq_true_eq] at e
    rw [e]
    exact hq
  · exact fun h => ⟨p, h, decide_eq_true rfl⟩
/-- Entries without those of some paths. -/
def delsE (es : List Ent) (l : List ByteArray) : List Ent := es.filter fun x => !amongE l x.path
theorem dels_nil (es : List Ent) : delsE es [] = es := List.filter_eq_self.2 fun _ _ => rfl
theorem dels_snoc (es : List Ent) (l : List ByteArray) (p : ByteArray) : delE (delsE es l) p = delsE es (l ++ [p]) := by
  unfold delE delsE
  rw [List.filter_filter]
  refine List.filter_congr fun x _ => ?_
  unfold amongE
  rw [List.any_append]
  cases l.any fun q => decide (x.path = q) <;> by_cases h2 : x.path = p <;> simp [h2]
theorem dels_step {es : List Ent} {l : List ByteArray} {k : Nat} {p : ByteArray} (h : l[k]? = some p) : delE (delsE es (l.take k)) p = delsE es (l.take (k + 1)) := by
  rw [dels_snoc, List.take_add_one, h]
  rfl
theorem dels_all {es : List Ent} {p : ByteArray} {ss : List ByteArray} (h : ss.Perm ((es.map (·.path)).filter (inE p))) : delsE es ss = es.filter fun x => !inE p x.path := by
  unfold delsE
  refine List.filter_congr fun x hx => ?_
  congr 1
  rw [Bool.eq_iff_iff, among_iff, h.mem_iff, List.mem_filter]
  exact ⟨fun h => h.2, fun h => ⟨List.mem_map.2 ⟨x, hx, rfl⟩, h⟩⟩
theorem MapE.del {w : World} {mb : Nat} {es : List Ent} (h : MapE Tryd.prog 9 w mb es) (p : ByteArray) (hp : p.size ≤ maxLen) (ty : TypeId) :
    ∃ w', (Builtin.delete_ #[68, 9] ty #[.map (some mb), .string p]).run Tryd.prog w = .ok (.tuple #[]) w' ∧ MapE Tryd.prog 9 w' mb (delE es p) ∧ w.grownBy w' (some mb) := by
  obtain ⟨w', h1, h2, h3⟩ := World.ownsMap.drop h keyL Tryd.underlying68 (keyS hp) ty
  rw [dat_del] at h2
  exact ⟨w', h1, MapE.of h2, h3.grown⟩
section
variable {P : Program}
theorem wpList_delete_run {ops : Array Oper} {rest : List Oper} {o : Oper} {a : Act} {w : World} {Q : Exit → Act → World → Prop} (hg : o.guard = none) (m x : Operand) (t k : TypeId) (hop : o.op = Op.call { callee := Callee.builtin Builtin.delete, args := #[m, x], argTypes := #[t, k] })
    (mv kv : Value) (hm : a.eval m = mv) (hx : a.eval x = kv) {w' : World} (hr : (Builtin.delete_ #[t, k] o.type #[mv, kv]).run P w = .ok (.tuple #[]) w') (hK : wpList P ops Q rest (a.put o.dst (.tuple #[])) w') :
    wpList P ops Q (o :: rest) a w := by
  refine wpList_plain hg fun K' hK' => ?_
  unfold Oper.wp
  simp [execOp, hop, resolve, invoke, builtin, hm, hx, hr, Result.andThen]
  exact hK' _ _ hK
end
theorem remove_no {f : Fs} {p : ByteArray} (h : findE f.es p = none) : removeF f p = (f, 25) := if_pos (by rw [h]; rfl)
theorem remove_yes {f : Fs} {p : ByteArray} {x : Ent} (h : findE f.es p = some x) : removeF f p = (⟨f.n, f.es.filter fun x => !inE p x.path⟩, 0) := if_neg (by rw [h]; simp)
set_option maxRecDepth 100000 in
set_option maxHeartbeats 3200000 in
/-- **Remove.** -/
theorem fremove_any (fb mb : Nat) (f : Fs) (p : ByteArray) (w : World) (h : FAt w fb mb f) (hok : FsOK f) (hp : p.size ≤ 100000) :
    Calls Tryd.prog 29 #[.pointer (some ⟨fb, 0, none⟩), .string p] w fun e w' => e = .returned (.int .i64 (removeF f p).2) ∧ FAt w' fb mb (removeF f p).1 ∧ Turned (FsS fb mb) w.heap.size w w' := by
  have HG := Lib.hid (fget_any fb mb f p w h (by unfold maxLen; omega))
  have HB := Lib.hid fun W hF => fbelow_any fb mb f p W hF hok hp
  have Hpath := Lib.hid hok.path
  have hfew := hok.few
  cases hf : findE f.es p with
  | none =>
    have hM := remove_no hf
    rw [getF_none hf] at HG
    rw [show noEnt.val = .agg #[.string ⟨#[]⟩, .int .i64 0, .bool false, .string ⟨#[]⟩] from rfl] at HG
    dsimp only at HG
    clear hf
    go_enter Tryd.func29, Tryd.ntmps29
    go_wp2_with fail
    refine HG.out.mono ?_
    rintro e w1 ⟨rfl, hb1⟩
    go_wp2_with fail
    go_ret
    have hbz := hb1.alloc hb1.size (.cells #[.string ⟨#[]⟩, .int .i64 0, .bool false, .string ⟨#[]⟩] 38)
    rw [hM]
    exact ⟨rfl, h.below hbz, Turned.of_below hbz (Nat.le_refl _)⟩
  | some x =>
    have hM := remove_yes hf
    rw [getF_some hf] at HG
    obtain ⟨xp, xi, xd, xs⟩ := x
    rw [show Ent.val ⟨xp, xi, xd, xs⟩ = .agg #[.string xp, .int .i64 xi, .bool xd, .string xs] from rfl] at HG
    dsimp only at HG
    clear hf
    go_enter Tryd.func29, Tryd.ntmps29
    go_wp2_with fail
    refine HG.out.mono ?_
    rintro e w1 ⟨rfl, hb1⟩
    have hbz := hb1.alloc hb1.size (.cells #[.string xp, .int .i64 xi, .bool xd, .string xs] 38)
    have hF1 := h.below hbz
    go_wp2_with fail
    generalize w1.alloc (.cells #[.string xp, .int .i64 xi, .bool xd, .string xs] 38) = W1 at *
    refine (HB.out _ hF1).mono ?_
    rintro e w2 ⟨v, ss, rfl, hov, hperm, hb2⟩
    have hF2 := hF1.below hb2
    have hb2w := hbz.trans (hb2.mono hbz.size)
    obtain ⟨av, cv, rfl, hrow, hcv⟩ := hov.read
    have HR := Lib.hid hrow
    have Hdel := Lib.hid (dels_all hperm)
    have hsl : ss.length ≤ 300 := by
      have h1 := hperm.length_eq
      have h2 := List.length_filter_le (inE p) (f.es.map (·.path))
      rw [List.length_map] at h2
      omega
    have Hss := Lib.hid (show ∀ q ∈ ss, q.size ≤ 400 from fun q hq => by
      obtain ⟨h1, _⟩ := List.mem_filter.1 (hperm.mem_iff.1 hq)
      obtain ⟨z, hz, rfl⟩ := List.mem_map.1 h1
      exact path_size (Hpath.out z hz))
    have Hlow := Lib.hid (show ∀ a0, av = some a0 → w2.heap.size = w2.heap.size ∧ W1.heap.size ≤ a0.block from fun a0 e => ⟨rfl, by
      rcases hov.2 with ⟨hn, _⟩ | ⟨g, cap, cur, hv, hg, _⟩
      · rw [e] at hn; cases hn
      · rw [e] at hv
        cases hv
        exact hg⟩)
    clear hov hrow hperm hF1 HB HG
    have l1 := h.1.1
    have l2 := h.2.lt
    have hne := h.ne
    have hz1 := hbz.size
    have hz2 := hb2.size
    go_wp2_with fail
    go_loopw [8, 22] (fun _ i wr => ∃ k : Nat, k ≤ ss.length ∧ i = .int .i64 k ∧ VarAt wr fb [.int .i64 f.n, .map (some mb)] ∧ MapE Tryd.prog 9 wr mb (delsE f.es (ss.take k)) ∧ Turned (FsS fb mb) w2.heap.size w2 wr) (fun _ i _ => ss.length - (RowKit.intOf i).toNat)
    case atStart => exact ⟨0, Nat.zero_le _, rfl, hF2.1, by rw [List.take_zero, dels_nil]; exact hF2.2, Turned.refl _ _ _⟩
    case round =>
      obtain ⟨k, hk, rfl, hV, hM1, ht⟩ := hrel
      by_cases hlt : k < ss.length
      · obtain ⟨q, hq⟩ := at_some hlt
        obtain ⟨b, off, rfl, hbl, c0⟩ := str_at (HR.out.turned ht (fun ad e => ⟨by
          obtain ⟨b', off', e', hbl', _⟩ := str_at HR.out hq
          rw [e] at e'
          cases e'
          exact hbl', by have := (Hlow.out ad e).2; rintro (e2 | e2) <;> omega⟩)) hq
        have hqs := Hss.out q (List.mem_of_getElem? hq)
        have Hst := Lib.hid (dels_step (es := f.es) hq)
        have k1 := hV.2.2 1 _ rfl
        go_wp2_with (at_delete; obtain ⟨w3, hrun, hM3, hg3⟩ := hM1.del q (by unfold maxLen; omega) _; refine wpList_delete_run rfl _ _ 68 9 rfl _ _ rfl rfl hrun ?_)
        have hV3 := hV.grown hg3 (by simpa using hne)
        have ht3 := ht.trans (Turned.of_grown (S := FsS fb mb) (B := w2.heap.size) hg3 ht.size (fun k e _ => by cases e; exact .inr rfl))
        go_wp2_with fail
        go_roundw
        case rel => exact ⟨k + 1, by omega, by go_num, hV3, by rw [← Hst.out]; exact hM3, ht3⟩
        case measure => simp [RowKit.intOf]; omega
      · obtain rfl : k = ss.length := by omega
        rw [List.take_length, Hdel.out] at hM1
        go_wp2_with fail
        go_ret
        rw [hM]
        exact ⟨rfl, ⟨hV, hM1⟩, (Turned.of_below hb2w (Nat.le_refl _)).trans (ht.mono (by omega) (fun _ _ h => h))⟩
end Go.Proofs.YtgjgeojhhglidaaDoor
