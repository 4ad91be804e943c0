/- Part 31 of 47 of the proof of the law: contracts of the functions that it reaches, and plain facts. Conditions: those that each contract names. -/
import Derived.Test.YtendjepcjmfmfaaGreatDoorOrdB07
import Derived.Laws.CopyOwn
import Derived.Laws.ResultCell
namespace Go.Proofs.YtendjepcjmfmfaaGreatDoor
open Go.RowKit
theorem Hp.upd {w W W' : World} {L : List (Nat × TypeId × List Value)} (h : Hp w L W) (i : Nat) {g : Nat} {t : TypeId} {cs cs' : List Value} (e : L[i]? = some (g, t, cs)) (hb : Below w.heap.size w W') (hs : Blk W' g t cs') (ho : ∀ k, k ≠ g → W'.heap[k]? = W.heap[k]?) : Hp w (L.set i (g, t, cs')) W' := by
 have hi : i < L.length := by
  rcases Nat.lt_or_ge i L.length with h' | h'
  ·exact h'
  ·rw [List.getElem?_eq_none h'] at e; cases e
 have hg : L[i] = (g, t, cs) := by rw [List.getElem?_eq_getElem hi] at e; exact Option.some.inj e
 refine ⟨hb, fun p hp => ?_, ?_⟩
 ·obtain ⟨j, hj, rfl⟩ := List.getElem_of_mem hp
  rw [List.length_set] at hj
  by_cases hji : i = j
  ·subst hji
   rw [List.getElem_set_self]
   exact ⟨hs, h.ge i e⟩
  ·rw [List.getElem_set_ne hji]
   obtain ⟨h1, h2⟩ := h.blk L[j] (List.getElem_mem _)
   refine ⟨(ho _ ?_).trans h1, h2⟩
   have hap := List.pairwise_iff_getElem.1 h.apart
   show L[j].1 ≠ g
   rcases Nat.lt_or_gt_of_ne hji with hlt | hlt
   ·have := hap i j hi hj hlt
    rw [hg] at this
    exact this.symm
   ·have := hap j i hj hi hlt
    rw [hg] at this
    exact this
 ·refine List.pairwise_iff_getElem.2 fun a b ha hb' hab => ?_
  rw [List.length_set] at ha hb'
  have hap := List.pairwise_iff_getElem.1 h.apart a b ha hb' hab
  have key : ∀ k (hk : k < L.length), (L.set i (g, t, cs'))[k]'(by rw [List.length_set]; exact hk) = if i = k then (g, t, cs') else L[k] := fun k hk => by
   rw [List.getElem_set]
  rw [key a ha, key b hb']
  by_cases h1 : i = a
  ·subst h1
   rw [if_pos rfl, if_neg (by omega)]
   rw [hg] at hap
   exact hap
  ·by_cases h2 : i = b
   ·subst h2
    rw [if_neg h1, if_pos rfl]
    rw [hg] at hap
    exact hap
   ·rw [if_neg h1, if_neg h2]
    exact hap
theorem Hp.row {w W : World} {L : List (Nat × TypeId × List Value)} (h : Hp w L W) (i : Nat) {g : Nat} {t : TypeId} {cs : List Value} (e : L[i]? = some (g, t, cs)) (cs' : List Value) : Hp w (L.set i (g, t, cs')) (W.setRow g cs'.toArray) :=
 h.upd i e (below_setRow h.below (h.ge i e) _) (setRow_heap W g _ _ t _ (h.at_ i e)) (fun k hk => setRow_other W g k _ hk)
theorem setCells_heap : ∀ (vs cs : List Value) (o : Nat) (W : World) (g : Nat) (t : TypeId), Blk W g t cs → o + vs.length ≤ cs.length → Blk (W.setCells g o vs) g t (cs.take o ++ vs ++ cs.drop (o + vs.length))
 | [], cs, o, W, g, t, h, _ => by
  show Blk W g t _
  simpa using h
 | v :: vs, cs, o, W, g, t, h, hl => by
  rw [List.length_cons] at hl
  have := setCells_heap vs (cs.set o v) (o + 1) (W.setCell ⟨g, o, none⟩ v) g t (h.put o v) (by rw [List.length_set]; omega)
  have e : (cs.set o v).take (o + 1) ++ vs ++ (cs.set o v).drop (o + 1 + vs.length) = cs.take o ++ (v :: vs) ++ cs.drop (o + (v :: vs).length) := by
   rw [List.drop_set_of_lt (by omega), List.length_cons, show o + 1 + vs.length = o + (vs.length + 1) by omega]
   congr 1
   rw [List.take_add_one, List.take_set_of_le (Nat.le_refl _), List.getElem?_set_self (by omega), List.append_assoc]
   rfl
  rw [e] at this
  exact this
theorem setCells_else : ∀ (vs : List Value) (o : Nat) (W : World) (g k : Nat), k ≠ g → (W.setCells g o vs).heap[k]? = W.heap[k]?
 | [], _, _, _, _, _ => rfl
 | v :: vs, o, W, g, k, h => (setCells_else vs (o + 1) (W.setCell ⟨g, o, none⟩ v) g k h).trans (Below.heap_setCell W ⟨g, o, none⟩ v k h)
theorem setCells_bw {B : Nat} {w : World} : ∀ (vs : List Value) (o : Nat) (W : World) (g : Nat), Below B w W → B ≤ g → Below B w (W.setCells g o vs)
 | [], _, _, _, h, _ => h
 | v :: vs, o, W, g, h, hg => setCells_bw vs (o + 1) (W.setCell ⟨g, o, none⟩ v) g (bw_set h hg v) hg
theorem Hp.cells {w W : World} {L : List (Nat × TypeId × List Value)} (h : Hp w L W) (i : Nat) {g : Nat} {t : TypeId} {cs : List Value} (e : L[i]? = some (g, t, cs)) (o : Nat) (vs : List Value) (hl : o + vs.length ≤ cs.length) : Hp w (L.set i (g, t, cs.take o ++ vs ++ cs.drop (o + vs.length))) (W.setCells g o vs) :=
 h.upd i e (setCells_bw vs o W g h.below (h.ge i e)) (setCells_heap vs cs o W g t (h.at_ i e) hl) (fun k hk => setCells_else vs o W g k hk)
theorem cirL_put (C : Nat → Tm) (x : Tm) {i : Nat} (hi : i < 12) : (cirL C).take (i * 4) ++ tmC x ++ (cirL C).drop (i * 4 + (tmC x).length) = cirL (fun j => if j = i then x else C j) := by
 have hlen : (tmC x).length = 4 := rfl
 rw [hlen]
 apply List.ext_getElem?
 intro k
 by_cases hk : k < 48
 ·obtain ⟨j, r, hr, rfl⟩ : ∃ j r, r < 4 ∧ k = j * 4 + r := ⟨k / 4, k % 4, by omega, by omega⟩
  have hj : j < 12 := by omega
  rw [cirL_get _ hj hr]
  have hl2 := cirL_len C
  by_cases h1 : j < i
  ·rw [if_neg (by omega), List.append_assoc, List.getElem?_append_left (by rw [List.length_take, hl2]; omega), List.getElem?_take_of_lt (by omega), cirL_get C hj hr]
  ·by_cases h2 : j = i
   ·subst h2
    rw [if_pos rfl, List.append_assoc, List.getElem?_append_right (by rw [List.length_take, hl2]; omega), List.length_take, hl2, List.getElem?_append_left (by rw [hlen]; omega)]
    congr 1
    omega
   ·rw [if_neg h2, List.getElem?_append_right (by rw [List.length_append, List.length_take, hl2, hlen]; omega), List.length_append, List.length_take, hl2, hlen, List.getElem?_drop, ← cirL_get C hj hr]
    congr 1
    omega
 ·rw [List.getElem?_eq_none (by rw [List.length_append, List.length_append, List.length_take, List.length_drop, cirL_len, hlen]; omega), List.getElem?_eq_none (by rw [cirL_len]; omega)]
theorem cir_one (C : Nat → Tm) : (cirL C).toArray.all (·.oneCell') = true := by
 refine all_oneCell_toArray fun v hv => ?_
 unfold cirL at hv
 rw [List.mem_flatMap] at hv
 obtain ⟨i, _, hv⟩ := hv
 simp only [tmC, List.mem_cons, List.not_mem_nil, or_false] at hv
 rcases hv with rfl | rfl | rfl | rfl <;> rfl
theorem cir_cells {C : Nat → Tm} {W : World} {g : Nat} {t : TypeId} (h : Blk W g t (cirL C)) {j : Nat} (hj : j < 12) : W.cell? ⟨g, j * 4, none⟩ = some (.int .i64 (C j).1) ∧ W.cell? ⟨g, j * 4 + 1, none⟩ = some (.int .i64 (C j).2.1) ∧ W.cell? ⟨g, j * 4 + 2, none⟩ = some (.int .i64 (C j).2.2.1) ∧ W.cell? ⟨g, j * 4 + 3, none⟩ = some (.int .i64 (C j).2.2.2) :=
 ⟨(h.cell _).trans (cirL_get C hj (j := 0) (by decide)), (h.cell _).trans (cirL_get C hj (j := 1) (by decide)), (h.cell _).trans (cirL_get C hj (j := 2) (by decide)), (h.cell _).trans (cirL_get C hj (j := 3) (by decide))⟩
theorem Hp.putT {w W : World} {L : List (Nat × TypeId × List Value)} (h : Hp w L W) (i : Nat) {g : Nat} {t : TypeId} {C : Nat → Tm} (e : L[i]? = some (g, t, cirL C)) {j : Nat} (hj : j < 12) (x : Tm) :
  Hp w (L.set i (g, t, cirL (fun k => if k = j then x else C k))) ((((W.setCell ⟨g, j * 4, none⟩ (.int .i64 x.1)).setCell ⟨g, j * 4 + 1, none⟩ (.int .i64 x.2.1)).setCell ⟨g, j * 4 + 2, none⟩ (.int .i64 x.2.2.1)).setCell ⟨g, j * 4 + 3, none⟩ (.int .i64 x.2.2.2)) := by
 have := h.cells i e (j * 4) (tmC x) (by rw [cirL_len]; show j * 4 + 4 ≤ 48; omega)
 rw [cirL_put C x hj] at this
 exact this
theorem results_row_tmp {P : Program} {fn : Func} {p u : Tmp} {ty : TypeId} (h : fn.results = #[.cell p ty, .tmp u]) (tmps : Array Value) (w : World) (g : Nat) (t : TypeId) (cs : Array Value) (fr : Nat × Nat) (d : TypeDesc)
  (hp : tmps.getD p undef = .pointer (some ⟨g, 0, none⟩)) (hg : w.heap[g]? = some (.cells cs t fr))
  (hu : P.underlying ty = some d) (hd : (match d with | .struct _ | .array _ _ => true | _ => false) = true) (hi : (P.info? ty).map (·.size) = some cs.size) {v : Value} (hv : tmps.getD u undef = v) :
  (results fn tmps).run P w = .ok (.tuple #[.agg cs, v]) w := by
 rw [results_cell_tmp h, hp, hv]
 simp [asAddr, run_loadVar_row w g t ty cs fr d hg hu hd hi]
end Go.Proofs.YtendjepcjmfmfaaGreatDoor
