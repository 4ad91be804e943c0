/- An array of ints by value and a plan of a size, opened. Conditions: none. A plan of a size by value, opened. Conditions: none. -/
import Derived.Test.YtplonkeipdbchaaDoorIvArgs
import Derived.Laws.IdiomArrays
import Derived.OpenShut
namespace Go.Proofs.YtplonkeipdbchaaDoor
section
open Go.ChangeShapes Go.WideShapes Go.ChangeAt Go.WideMaps Go.WideElems Go.RowKit Go.Joins Go.Deep
set_option linter.unusedVariables false

theorem okWide_arrv {P : Program} {w : World} {r : Reach} {base n : Nat} {t e : TypeId} {v : Value} (ht : P.underlying t = some (.array n e)) (h : Value.okWide P w r base t v) : ∃ cs, v = .agg cs ∧ cs.size = P.cellsOf t := by
  simp only [Value.okWide, ht] at h
  obtain ⟨cs, h1, h2, _⟩ := h
  exact ⟨cs, h1, h2⟩
theorem int_cell {H : Type} {enc : TypeId × Value → H} {P : Program} {w : World} {base : Nat} {sp : Nat → Bool} {held : Bool} {n : Nat} {t : TypeId} {k : IntKind} {c : Value} {x : DataW H × List MemPlace} (ht : P.underlying t = some (.int k))
    (h : DataW.trod enc P w base sp held n t [c] = some x) : ∃ a, c = .int k a ∧ (Lit.int k a).wf = true := by
  obtain ⟨a, e, _, wa⟩ := DataW.trod_int ht h
  exact ⟨a, by simpa using e, wa⟩
theorem i8_bounds {a : Int} (h : (Lit.int .i8 a).wf = true) : -128 ≤ a ∧ a ≤ 127 := bounds_i8 h
set_option maxRecDepth 100000 in
/-- Three ints by value, opened. -/
theorem open_arr3 {H : Type} {enc : TypeId × Value → H} {w : World} {base base' : Nat} {sp : Nat → Bool} {held : Bool} {v : Value} {d : DataW H} {p : List MemPlace}
    (hv : Value.okWide Tryd.prog w .any base' 22 v) (h : DataW.Trod enc Tryd.prog w base sp held 22 v d p) :
    ∃ a b c : Int, v = .agg #[.int .i64 a, .int .i64 b, .int .i64 c] ∧ I64 a ∧ I64 b ∧ I64 c := by
  obtain ⟨cs, rfl, hsz⟩ := okWide_arrv Tryd.underlying22 hv
  have h3 : cs.size = 3 := hsz.trans (by kernel_rfl)
  obtain ⟨l⟩ := cs
  match l, h3 with
  | [c0, c1, c2], _ =>
    obtain ⟨fuel, hf⟩ := h
    obtain ⟨y0, y1, y2, n, _, h0, h1, h2⟩ := trod_array3 Tryd.underlying22 (by kernel_rfl) hf
    obtain ⟨a, rfl, wa⟩ := int_cell Tryd.underlying3 h0
    obtain ⟨b, rfl, wb⟩ := int_cell Tryd.underlying3 h1
    obtain ⟨c, rfl, wc⟩ := int_cell Tryd.underlying3 h2
    exact ⟨a, b, c, rfl, i64_of wa, i64_of wb, i64_of wc⟩
end

section
open Go.ChangeShapes Go.WideShapes Go.ChangeAt Go.WideMaps Go.WideElems Go.RowKit Go.Joins Go.Deep
set_option linter.unusedVariables false
set_option maxRecDepth 100000 in
theorem open_plan5 {H : Type} {enc : TypeId × Value → H} {w : World} {base base' : Nat} {sp : Nat → Bool} {held : Bool} {v : Value} {d : DataW H} {p : List MemPlace}
    (hv : Value.okWide Tryd.prog w .any base' 55 v) (h : DataW.Trod enc Tryd.prog w base sp held 55 v d p) :
    ∃ a b c e : Int, v = .agg #[.int .i8 a, .int .i8 b, .int .i8 c, .int .u8 e] ∧ (-128 ≤ a ∧ a ≤ 127) ∧ (-128 ≤ b ∧ b ≤ 127) ∧ (-128 ≤ c ∧ c ≤ 127) ∧ 0 ≤ e ∧ e ≤ 255 := by
  obtain ⟨cs, rfl, hsz⟩ := okWide_struct Tryd.underlying55 hv
  have h4 : cs.size = 4 := hsz.trans (by kernel_rfl)
  obtain ⟨l⟩ := cs
  match l, h4 with
  | [c0, c1, c2, c3], _ =>
    obtain ⟨fuel, hf⟩ := h
    obtain ⟨y0, y1, n, _, _, h0, h1⟩ := trod_struct2 Tryd.underlying55 hf
    have hc : Tryd.prog.cellsOf 53 = 3 := by kernel_rfl
    have hc1 : Tryd.prog.cellsOf 5 = 1 := by kernel_rfl
    dsimp only at h0 h1
    rw [hc] at h0
    rw [hc1] at h1
    simp [Value.cells] at h0 h1
    obtain ⟨z0, z1, z2, m, _, k0, k1, k2⟩ := trod_array3 Tryd.underlying53 (by kernel_rfl) h0
    obtain ⟨a, rfl, wa⟩ := int_cell Tryd.underlying52 k0
    obtain ⟨b, rfl, wb⟩ := int_cell Tryd.underlying52 k1
    obtain ⟨c, rfl, wc⟩ := int_cell Tryd.underlying52 k2
    obtain ⟨e, rfl, we⟩ := int_cell Tryd.underlying5 h1
    exact ⟨a, b, c, e, rfl, i8_bounds wa, i8_bounds wb, i8_bounds wc, u8_bounds we⟩
end
end Go.Proofs.YtplonkeipdbchaaDoor
