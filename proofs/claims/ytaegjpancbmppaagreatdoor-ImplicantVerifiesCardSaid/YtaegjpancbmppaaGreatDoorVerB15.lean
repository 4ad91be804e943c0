/- Part 15 of 29 of the proof of the law: contracts of the functions that it reaches, and plain facts. Conditions: those that each contract names. -/
import Derived.Test.YtaegjpancbmppaaGreatDoorVerB08
import Derived.Test.YtaegjpancbmppaaGreatDoorVerB14
import Derived.Laws.IdiomArrays
import Derived.Deep.Slices
import Derived.Deep.Fields
import Derived.ChangeSame
import Derived.ChangeSlices
set_option linter.unusedVariables false
set_option linter.unusedSimpArgs false
namespace Go.Proofs.YtaegjpancbmppaaGreatDoor
open Go.ChangeShapes Go.WideShapes Go.ChangeAt Go.WideMaps Go.WideElems Go.RowKit Go.Joins Go.Deep
set_option linter.unusedVariables false
section
variable {H : Type} {enc : TypeId × Value → H} {P : Program} {w : World} {base : Nat} {spare : Nat → Bool} {held : Bool}
theorem trod_arr2 {t e : TypeId} {fuel : Nat} {a b : Value} {x : DataW H × List MemPlace} (ht : P.underlying t = some (.array 2 e)) (hce : P.cellsOf e = 1)
  (h : DataW.trod enc P w base spare held fuel t [a, b] = some x) :
  ∃ y z n, DataW.trod enc P w base spare held n e [a] = some y ∧ DataW.trod enc P w base spare held n e [b] = some z := by
 cases fuel with
 | zero => simp [DataW.trod] at h
 | succ n =>
  unfold DataW.trod at h
  rw [ht] at h
  simp [show List.range 2 = [0, 1] from rfl, hce] at h
  cases ha : DataW.trod enc P w base spare held n e [a] with
  | none => simp [ha] at h
  | some y =>
   cases hb : DataW.trod enc P w base spare held n e [b] with
   | none => simp [ha, hb] at h
   | some z => exact ⟨y, z, n, ha, hb⟩
theorem open_slice_fields {t e : TypeId} {fs : Array Field} {fuel : Nat} {cs : List Value} {x : DataW H × List MemPlace} (ht : P.underlying t = some (.slice e)) (he : P.underlying e = some (.struct fs))
  (hone : oneCellFields P fs = true) (hC : P.cellsOf e = fs.size) (h : DataW.trod enc P w base spare held fuel t cs = some x) :
  (cs = [.slice none 0 0] ∧ x = (.nil, [])) ∨
  ∃ (a : Addr) (len cap m : Nat) (D : Nat → DataW H) (Pl : Nat → List MemPlace), cs = [.slice (some a) len cap] ∧ base ≤ a.block ∧ len ≤ cap ∧ cap ≤ maxLen ∧ m = (if spare a.block then cap else len) ∧
   x = (.slice ((List.range len).map D) ((List.range (m - len)).map fun j => D (len + j)), MemPlace.row a (m * fs.size) ++ (List.range m).flatMap Pl) ∧
   ∀ i, i < m → ∃ (ys : List (DataW H × List MemPlace)) (n : Nat), D i = .agg (ys.map (·.1)) ∧ Pl i = ys.flatMap (·.2) ∧ ys.length = fs.size ∧
    ∀ (j : Nat) (f : Field), fs[j]? = some f → ∃ (v : Value) (y : DataW H × List MemPlace), w.cell? (a.add (i * fs.size + j)) = some v ∧ ys[j]? = some y ∧ DataW.trod enc P w base spare held n f.type [v] = some y := by
 rcases open_slice ht h with h0 | ⟨a, len, cap, m, n, D, Pl, hcs, hb, hl, hm, hmm, hx, hi⟩
 ·exact .inl h0
 ·refine .inr ⟨a, len, cap, m, D, Pl, hcs, hb, hl, hm, hmm, by rw [hC] at hx; exact hx, fun i him => ?_⟩
  obtain ⟨cs', hc, ht'⟩ := hi i him
  rw [hC] at hc
  obtain ⟨ys, n', hn', hy, hlen, hyl, hf⟩ := DataW.trod_struct he ht'
  obtain ⟨_, hcl, hat⟩ := World.cells?_some hc
  simp only [Prod.mk.injEq] at hy
  refine ⟨ys, n', hy.1, hy.2, hyl, fun j f hj => ?_⟩
  obtain ⟨ho, hk⟩ := hone_of hone j f hj
  have hjl : j < fs.size := (Array.getElem?_eq_some_iff.1 hj).1
  have hcell := hat j hjl
  have hv : cs'[j]? = some (cs'[j]'(by omega)) := List.getElem?_eq_getElem (by omega)
  have h1 := hf j f hj
  rw [ho, hk] at h1
  have hone' : (cs'.drop j).take 1 = [cs'[j]'(by omega)] := by
   rw [List.drop_eq_getElem_cons (by omega)]
   rfl
  rw [hone'] at h1
  have hys : ys[j]? = some (ys[j]'(by omega)) := List.getElem?_eq_getElem (by omega)
  refine ⟨_, _, ?_, hys, h1.trans hys⟩
  rw [← Go.Deep.add_add, hcell, hv]
end
theorem okW_arr {P : Program} {w : World} {r : Reach} {base n : Nat} {t e : TypeId} {v : Value} (ht : P.underlying t = some (.array n e)) (h : Value.okWide P w r base t v) : ∃ cs, v = .agg cs ∧ cs.size = P.cellsOf t := by
 simp only [Value.okWide, ht] at h
 obtain ⟨cs, h1, h2, _⟩ := h
 exact ⟨cs, h1, h2⟩
set_option maxRecDepth 100000 in
theorem open_bits {H : Type} {enc : TypeId × Value → H} {w : World} {base base' : Nat} {sp : Nat → Bool} {held : Bool} {v : Value} {d : DataW H} {p : List MemPlace}
  (hv : Value.okWide Tryz.prog w .any base' 48 v) (h : DataW.Trod enc Tryz.prog w base sp held 48 v d p) :
  ∃ a b : Int, v = .agg #[.int .u16 a, .int .u16 b] ∧ (0 ≤ a ∧ a ≤ 65535) ∧ 0 ≤ b ∧ b ≤ 65535 := by
 obtain ⟨cs, rfl, hsz⟩ := okW_arr Tryz.underlying48 hv
 have h3 : cs.size = 2 := hsz.trans (by kernel_rfl)
 obtain ⟨l⟩ := cs
 match l, h3 with
 | [c0, c1], _ =>
  obtain ⟨fuel, hf⟩ := h
  obtain ⟨y0, y1, n, h0, h1⟩ := trod_arr2 Tryz.underlying48 (by kernel_rfl) hf
  obtain ⟨a, ea, _, wa⟩ := DataW.trod_int Tryz.underlying22 h0
  obtain ⟨b, eb, _, wb⟩ := DataW.trod_int Tryz.underlying22 h1
  obtain rfl : c0 = .int .u16 a := by simpa using ea
  obtain rfl : c1 = .int .u16 b := by simpa using eb
  exact ⟨a, b, rfl, u16_bnd wa, u16_bnd wb⟩
theorem int_fld {H : Type} {enc : TypeId × Value → H} {w : World} {sp : Nat → Bool} {held : Bool} {n : Nat} {a : Addr} {ys : List (DataW H × List MemPlace)} {j : Nat}
  (h : ∃ (v : Value) (y : DataW H × List MemPlace), w.cell? a = some v ∧ ys[j]? = some y ∧ DataW.trod enc Tryz.prog w 0 sp held n 3 [v] = some y) : ∃ k : Int, w.cell? a = some (.int .i64 k) ∧ k ≤ 9223372036854775807 := by
 obtain ⟨v, y, hc, _, ht⟩ := h
 obtain ⟨z, e, rfl, wz⟩ := DataW.trod_int Tryz.underlying3 ht
 simp at e
 subst e
 exact ⟨z, hc, (i64_bnd wz).2⟩
set_option maxRecDepth 100000 in
theorem open_cubes {H : Type} {enc : TypeId × Value → H} {w : World} {base' : Nat} {sp : Nat → Bool} {held : Bool} {v : Value} {d : DataW H} {p : List MemPlace}
  (hv : Value.okWide Tryz.prog w .any base' 28 v) (h : DataW.Trod enc Tryz.prog w 0 sp held 28 v d p) :
  ∃ (A : Option Addr) (n cap : Nat) (S : List (Int × Int)), v = .slice A n cap ∧ n = S.length ∧ CqRd w w.heap.size A S ∧ ∀ x ∈ S, x.2 ≤ 9223372036854775807 := by
 obtain ⟨a0, ln0, cp0, rfl⟩ := okWide_slice Tryz.underlying28 hv
 obtain ⟨fuel, hf⟩ := h
 rcases open_slice_fields Tryz.underlying28 Tryz.underlying37 (by kernel_rfl) (by kernel_rfl) hf with ⟨hc, hx⟩ | ⟨ad, len, cap, mm, D, Pl, hc, _, hlc, hcm, hmm, hx, hi⟩
 ·simp [Value.cells] at hc
  obtain ⟨rfl, rfl, rfl⟩ := hc
  exact ⟨none, 0, 0, [], rfl, rfl, fun h => absurd h (by simp), fun _ h => absurd h List.not_mem_nil⟩
 ·simp [Value.cells] at hc
  obtain ⟨e1, e2, e3⟩ := hc
  rw [e1, e2, e3]
  have hx2 : ∀ i, ∃ x : Int × Int, i < len → (w.cell? (ad.add (i * 2)) = some (.int .i64 x.1) ∧ w.cell? (ad.add (i * 2 + 1)) = some (.int .i64 x.2)) ∧ x.2 ≤ 9223372036854775807 := by
   intro i
   by_cases hil : i < len
   ·obtain ⟨ys, nn, _, _, _, hf⟩ := hi i (by rw [hmm]; split <;> omega)
    obtain ⟨n0, k0, _⟩ := int_fld (hf 0 _ rfl)
    obtain ⟨n1, k1, b1⟩ := int_fld (hf 1 _ rfl)
    exact ⟨(n0, n1), fun _ => ⟨⟨k0, k1⟩, b1⟩⟩
   ·exact ⟨(0, 0), fun h => absurd h hil⟩
  obtain ⟨X, hX⟩ := Classical.axiomOfChoice hx2
  refine ⟨some ad, len, cap, (List.range len).map X, rfl, by simp, fun hl => ?_, fun x hx => ?_⟩
  ·have hl' : 0 < len := by simpa using hl
   have hsp : ad.spot = none := by
    have := World.cell?_spot (hX 0 hl').1.1
    simpa [Addr.add] using this
   obtain ⟨b, off, sp⟩ := ad
   simp only at hsp
   subst hsp
   refine ⟨b, off, rfl, ?_, fun i hi => ?_⟩
   ·have hc := (hX 0 hl').1.1
    have := World.block_lt_of_cell? w _ hc
    simpa [Addr.add] using this
   ·have hil : i < len := by simpa using hi
    have e : ((List.range len).map X).getD i (0, 0) = X i := by simp [List.getD, List.getElem?_map, List.getElem?_range hil]
    rw [e]
    obtain ⟨⟨k0, k1⟩, _⟩ := hX i hil
    rw [add_plain] at k0 k1
    exact ⟨k0, k1⟩
  ·obtain ⟨i, hi, rfl⟩ := List.mem_map.1 hx
   exact (hX i (List.mem_range.1 hi)).2
end Go.Proofs.YtaegjpancbmppaaGreatDoor
