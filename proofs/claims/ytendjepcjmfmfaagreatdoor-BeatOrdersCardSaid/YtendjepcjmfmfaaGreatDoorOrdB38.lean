/- Part 38 of 47 of the proof of the law: contracts of the functions that it reaches, and plain facts. Conditions: those that each contract names. -/
import Derived.Test.YtendjepcjmfmfaaGreatDoorOrdB08
import Derived.Test.YtendjepcjmfmfaaGreatDoorOrdB37
import Derived.Laws.IdiomArrays
import Derived.Deep.Strs
import Derived.OpenShut
namespace Go.Proofs.YtendjepcjmfmfaaGreatDoor
section
open Go.ChangeShapes Go.WideShapes Go.ChangeAt Go.WideMaps Go.WideElems Go.RowKit Go.Joins Go.Deep
set_option linter.unusedVariables false
theorem mapM_at {α β : Type} {f : α → Option β} : ∀ {l : List α} {xs : List β}, l.mapM f = some xs → ∀ a ∈ l, ∃ b, f a = some b
 | [], _, _, a, ha => absurd ha List.not_mem_nil
 | c :: l, xs, h, a, ha => by
  rw [List.mapM_cons] at h
  cases hc : f c with
  | none => simp [hc] at h
  | some b =>
   cases hl : l.mapM f with
   | none => simp [hc, hl] at h
   | some ys =>
    rcases List.mem_cons.1 ha with rfl | ha
    ·exact ⟨b, hc⟩
    ·exact mapM_at hl a ha
theorem trod_arr_at {H : Type} {enc : TypeId × Value → H} {P : Program} {w : World} {base : Nat} {sp : Nat → Bool} {held : Bool} {t e : TypeId} {n fuel : Nat} {cs : List Value} {x : DataW H × List MemPlace} (ht : P.underlying t = some (.array n e))
  (h : DataW.trod enc P w base sp held fuel t cs = some x) : ∀ i, i < n → ∃ m y, DataW.trod enc P w base sp held m e ((cs.drop (i * P.cellsOf e)).take (P.cellsOf e)) = some y := by
 cases fuel with
 | zero => simp [DataW.trod] at h
 | succ m =>
  unfold DataW.trod at h
  rw [ht] at h
  intro i hi
  simp only at h
  split at h
  ·cases hm : (List.range n).mapM fun i => DataW.trod enc P w base sp held m e ((cs.drop (i * P.cellsOf e)).take (P.cellsOf e)) with
   | none => simp [hm] at h
   | some xs =>
    obtain ⟨y, hy⟩ := mapM_at hm i (List.mem_range.2 hi)
    exact ⟨m, y, hy⟩
  ·cases h
theorem take_one {l : List Value} {j : Nat} {v : Value} (h : (l.drop j).take 1 = [v]) : l[j]? = some v := by
 have := congrArg (fun x => x[0]?) h
 simpa using this
theorem sub_at {l : List Value} {a b j : Nat} {v : Value} (h : ((l.drop a).take b)[j]? = some v) : l[a + j]? = some v := by
 rw [List.getElem?_take] at h
 split at h
 ·rwa [List.getElem?_drop] at h
 ·cases h
set_option maxRecDepth 100000 in
theorem open_plan41 {H : Type} {enc : TypeId × Value → H} {w : World} {base base' : Nat} {sp : Nat → Bool} {held : Bool} {v : Value} {d : DataW H} {p : List MemPlace}
  (hv : Value.okWide Tryz.prog w .any base' 26 v) (h : DataW.Trod enc Tryz.prog w base sp held 26 v d p) :
  ∃ (n e : Int) (X : Nat → Int × Int), v = .agg (plC n X e).toArray ∧ (0 ≤ n ∧ n < 256) ∧ (0 ≤ e ∧ e < 256) ∧ ∀ i, i < 12 → (-128 ≤ (X i).1 ∧ (X i).1 ≤ 127) ∧ (-128 ≤ (X i).2 ∧ (X i).2 ≤ 127) := by
 obtain ⟨cs, rfl, hsz⟩ := okWide_struct Tryz.underlying26 hv
 have h26 : cs.size = 26 := hsz.trans (by kernel_rfl)
 obtain ⟨l⟩ := cs
 have hl : l.length = 26 := h26
 obtain ⟨fuel, hf⟩ := h
 obtain ⟨y0, y1, y2, m, _, _, h0, h1, h2⟩ := trod_struct3 Tryz.underlying26 hf
 have hc0 : Tryz.prog.cellsOf 5 = 1 := by kernel_rfl
 have hc1 : Tryz.prog.cellsOf 24 = 24 := by kernel_rfl
 have hc2 : Tryz.prog.cellsOf 23 = 2 := by kernel_rfl
 have hc3 : Tryz.prog.cellsOf 22 = 1 := by kernel_rfl
 dsimp only at h0 h1 h2
 rw [hc0] at h0 h2
 rw [hc1] at h1
 simp only [Value.cells] at h0 h1 h2
 obtain ⟨n, e0, _, wn⟩ := DataW.trod_int Tryz.underlying5 h0
 obtain ⟨e, e2, _, we⟩ := DataW.trod_int Tryz.underlying5 h2
 have q0 := take_one e0
 have q2 := take_one e2
 have hX : ∀ i : Nat, ∃ p : Int × Int, i < 12 → (l[1 + (i * 2 + 0)]? = some (.int .i8 p.1) ∧ l[1 + (i * 2 + 1)]? = some (.int .i8 p.2)) ∧ (-128 ≤ p.1 ∧ p.1 ≤ 127) ∧ (-128 ≤ p.2 ∧ p.2 ≤ 127) := by
  intro i
  by_cases hi : i < 12
  ·obtain ⟨m1, z, hz⟩ := trod_arr_at Tryz.underlying24 h1 i hi
   rw [hc2] at hz
   obtain ⟨m2, z0, hz0⟩ := trod_arr_at Tryz.underlying23 hz 0 (by decide)
   obtain ⟨m3, z1, hz1⟩ := trod_arr_at Tryz.underlying23 hz 1 (by decide)
   rw [hc3] at hz0 hz1
   obtain ⟨a, ea, _, wa⟩ := DataW.trod_int Tryz.underlying22 hz0
   obtain ⟨b, eb, _, wb⟩ := DataW.trod_int Tryz.underlying22 hz1
   exact ⟨(a, b), fun _ => ⟨⟨sub_at (sub_at (take_one ea)), sub_at (sub_at (take_one eb))⟩, bounds_i8 wa, bounds_i8 wb⟩⟩
  ·exact ⟨(0, 0), fun h => absurd h hi⟩
 obtain ⟨X, hX⟩ := Classical.axiomOfChoice hX
 have hn := u8_bounds wn
 have he := u8_bounds we
 refine ⟨n, e, X, ?_, by omega, by omega, fun i hi => (hX i hi).2⟩
 congr 2
 apply List.ext_getElem?
 intro k
 rcases (show k = 0 ∨ (∃ i j, i < 12 ∧ j < 2 ∧ k = 1 + (i * 2 + j)) ∨ k = 25 ∨ 26 ≤ k by
  by_cases a : k = 0
  ·exact .inl a
  ·by_cases b : 25 ≤ k
   ·right; right; omega
   ·right; left
    exact ⟨(k - 1) / 2, (k - 1) % 2, by omega, by omega, by omega⟩) with rfl | ⟨i, j, hi, hj, rfl⟩ | rfl | hk
 ·rw [pl_zero]
  exact q0
 ·have hg : (plC n X e)[1 + (i * 2 + j)]? = (ptL X)[i * 2 + j]? := by
   rw [show 1 + (i * 2 + j) = (i * 2 + j) + 1 by omega]
   show (ptL X ++ [.int .u8 e])[i * 2 + j]? = _
   rw [List.getElem?_append_left (by rw [pt_len]; omega)]
  rw [hg, pt_get X hi hj]
  rcases (show j = 0 ∨ j = 1 by omega) with rfl | rfl
  ·exact (hX i hi).1.1
  ·exact (hX i hi).1.2
 ·rw [pl_end]
  exact q2
 ·rw [List.getElem?_eq_none (by omega), List.getElem?_eq_none (by rw [pl_len]; omega)]
end
end Go.Proofs.YtendjepcjmfmfaaGreatDoor
namespace Go.Proofs.YtendjepcjmfmfaaGreatDoor
open Go.ChangeShapes Go.WideShapes Go.ChangeAt Go.WideMaps Go.WideElems Go.RowKit Go.Joins
set_option linter.unusedVariables false
set_option maxRecDepth 100000 in
theorem open_row42 {H : Type} {enc : TypeId × Value → H} {w : World} {base base' : Nat} {sp : Nat → Bool} {held : Bool} {v : Value} {d : DataW H} {p : List MemPlace}
  (hv : Value.okWide Tryz.prog w .any base' 90 v) (h : DataW.Trod enc Tryz.prog w base sp held 90 v d p) :
  ∃ a b c : Int, v = .agg #[.int .u8 a, .int .u8 b, .int .u8 c] ∧ (0 ≤ a ∧ a < 256) ∧ (0 ≤ b ∧ b < 256) ∧ (0 ≤ c ∧ c < 256) := by
 obtain ⟨cs, rfl, hsz⟩ := okWide_struct Tryz.underlying90 hv
 have h3 : cs.size = 3 := hsz.trans (by kernel_rfl)
 have hc1 : Tryz.prog.cellsOf 5 = 1 := by kernel_rfl
 obtain ⟨l⟩ := cs
 match l, h3 with
 | [c0, c1, c2], _ =>
  obtain ⟨fuel, hf⟩ := h
  obtain ⟨y0, y1, y2, m, _, _, k0, k1, k2⟩ := Go.Deep.trod_struct3 Tryz.underlying90 hf
  dsimp only at k0 k1 k2
  rw [hc1] at k0 k1 k2
  obtain ⟨a, e0, _, wa⟩ := DataW.trod_int Tryz.underlying5 k0
  obtain ⟨b, e1, _, wb⟩ := DataW.trod_int Tryz.underlying5 k1
  obtain ⟨c, e2, _, wc⟩ := DataW.trod_int Tryz.underlying5 k2
  simp [Value.cells] at e0 e1 e2
  subst e0 e1 e2
  exact ⟨a, b, c, rfl, u8_bnd42 wa, u8_bnd42 wb, u8_bnd42 wc⟩
end Go.Proofs.YtendjepcjmfmfaaGreatDoor
