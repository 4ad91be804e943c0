/- Two ints by value, opened. Conditions: none. -/
import Derived.Test.YtplonkeipdbchaaDoorIvArgs2
namespace Go.Proofs.YtplonkeipdbchaaDoor
open Go.ChangeShapes Go.WideShapes Go.ChangeAt Go.WideMaps Go.WideElems Go.RowKit Go.Joins Go.Deep
set_option linter.unusedVariables false
set_option maxRecDepth 100000 in
/-- Two ints by value, opened. -/
theorem open_arr2 {H : Type} {enc : TypeId × Value → H} {w : World} {base base' : Nat} {sp : Nat → Bool} {held : Bool} {v : Value} {d : DataW H} {p : List MemPlace}
    (hv : Value.okWide Tryd.prog w .any base' 23 v) (h : DataW.Trod enc Tryd.prog w base sp held 23 v d p) :
    ∃ a b : Int, v = .agg #[.int .i64 a, .int .i64 b] ∧ I64 a ∧ I64 b := by
  obtain ⟨cs, rfl, hsz⟩ := okWide_arrv Tryd.underlying23 hv
  have h2 : cs.size = 2 := hsz.trans (by kernel_rfl)
  obtain ⟨l⟩ := cs
  match l, h2 with
  | [c0, c1], _ =>
    obtain ⟨fuel, hf⟩ := h
    obtain ⟨xs, m, _, _, _, hl, hi⟩ := DataW.trod_array Tryd.underlying23 hf
    have hc : Tryd.prog.cellsOf 3 = 1 := by kernel_rfl
    have h0 := hi 0 (by decide)
    have h1 := hi 1 (by decide)
    rw [hc] at h0 h1
    match xs, hl with
    | [y0, y1], _ =>
      simp at h0 h1
      obtain ⟨a, rfl, wa⟩ := int_cell Tryd.underlying3 h0
      obtain ⟨b, rfl, wb⟩ := int_cell Tryd.underlying3 h1
      exact ⟨a, b, rfl, i64_of wa, i64_of wb⟩
end Go.Proofs.YtplonkeipdbchaaDoor
