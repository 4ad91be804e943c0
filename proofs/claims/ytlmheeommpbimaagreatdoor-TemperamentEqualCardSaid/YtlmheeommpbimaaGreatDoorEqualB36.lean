/- Part 36 of 37 of the proof of the law: contracts of the functions that it reaches, and plain facts. Conditions: those that each contract names. -/
import Derived.Test.YtlmheeommpbimaaGreatDoorEqualB08
import Derived.Test.YtlmheeommpbimaaGreatDoorEqualB35
import Derived.Laws.IdiomArrays
import Derived.Deep.Strs
import Derived.OpenShut
namespace Go.Proofs.YtlmheeommpbimaaGreatDoor
section
open Go.ChangeShapes Go.WideShapes Go.ChangeAt Go.WideMaps Go.WideElems Go.RowKit Go.Joins Go.Deep
set_option linter.unusedVariables false
theorem mapM_at {α β : Type} {f : α → Option β} : ∀ {l : List α} {xs : List β}, l.mapM f = some xs → ∀ a ∈ l, ∃ b, f a = some b
  | [], _, _, a, ha => absurd ha List.not_mem_nil
  | c :: l, xs, h, a, ha => by
    rw [List.mapM_cons] at h
    cases hc : f c with
    | none => simp [hc] at h
    | some b =>
      cases hl : l.mapM f with
      | none => simp [hc, hl] at h
      | some ys =>
        rcases List.mem_cons.1 ha with rfl | ha
        · exact ⟨b, hc⟩
        · exact mapM_at hl a ha
theorem trod_arr_at {H : Type} {enc : TypeId × Value → H} {P : Program} {w : World} {base : Nat} {sp : Nat → Bool} {held : Bool} {t e : TypeId} {n fuel : Nat} {cs : List Value} {x : DataW H × List MemPlace} (ht : P.underlying t = some (.array n e))
    (h : DataW.trod enc P w base sp held fuel t cs = some x) : ∀ i, i < n → ∃ m y, DataW.trod enc P w base sp held m e ((cs.drop (i * P.cellsOf e)).take (P.cellsOf e)) = some y := by
  cases fuel with
  | zero => simp [DataW.trod] at h
  | succ m =>
    unfold DataW.trod at h
    rw [ht] at h
    intro i hi
    simp only at h
    split at h
    · cases hm : (List.range n).mapM fun i => DataW.trod enc P w base sp held m e ((cs.drop (i * P.cellsOf e)).take (P.cellsOf e)) with
      | none => simp [hm] at h
      | some xs =>
        obtain ⟨y, hy⟩ := mapM_at hm i (List.mem_range.2 hi)
        exact ⟨m, y, hy⟩
    · cases h
theorem take_one {l : List Value} {j : Nat} {v : Value} (h : (l.drop j).take 1 = [v]) : l[j]? = some v := by
  have := congrArg (fun x => x[0]?) h
  simpa using this
end
end Go.Proofs.YtlmheeommpbimaaGreatDoor
namespace Go.Proofs.YtlmheeommpbimaaGreatDoor
section
open Go.ChangeShapes Go.WideShapes Go.ChangeAt Go.WideMaps Go.WideElems Go.RowKit Go.Joins Go.Deep
set_option linter.unusedVariables false
theorem okWide_arr41 {P : Program} {w : World} {r : Reach} {base n : Nat} {t e : TypeId} {v : Value} (ht : P.underlying t = some (.array n e)) (h : Value.okWide P w r base t v) : ∃ cs, v = .agg cs ∧ cs.size = P.cellsOf t := by
  simp only [Value.okWide, ht] at h
  obtain ⟨cs, h1, h2, _⟩ := h
  exact ⟨cs, h1, h2⟩
theorem u8_at {H : Type} {enc : TypeId × Value → H} {w : World} {base : Nat} {sp : Nat → Bool} {held : Bool} {t : TypeId} {n fuel : Nat} {l : List Value} {x : DataW H × List MemPlace} (ht : Tryz.prog.underlying t = some (.array n 5))
    (h : DataW.trod enc Tryz.prog w base sp held fuel t l = some x) {i : Nat} (hi : i < n) : ∃ a : Int, l[i]? = some (.int .u8 a) ∧ 0 ≤ a ∧ a < 256 := by
  obtain ⟨m, y, hy⟩ := trod_arr_at ht h i hi
  have hc : Tryz.prog.cellsOf 5 = 1 := by kernel_rfl
  rw [hc, Nat.mul_one] at hy
  obtain ⟨a, e, _, wa⟩ := DataW.trod_int Tryz.underlying5 hy
  have := u8_bounds wa
  exact ⟨a, take_one e, by omega, by omega⟩
set_option maxRecDepth 100000 in
theorem open_u2 {H : Type} {enc : TypeId × Value → H} {w : World} {base base' : Nat} {sp : Nat → Bool} {held : Bool} {v : Value} {d : DataW H} {p : List MemPlace}
    (hv : Value.okWide Tryz.prog w .any base' 54 v) (h : DataW.Trod enc Tryz.prog w base sp held 54 v d p) :
    ∃ a b : Int, v = .agg #[.int .u8 a, .int .u8 b] ∧ (0 ≤ a ∧ a < 256) ∧ 0 ≤ b ∧ b < 256 := by
  obtain ⟨cs, rfl, hsz⟩ := okWide_arr41 Tryz.underlying54 hv
  have h2 : cs.size = 2 := hsz.trans (by kernel_rfl)
  obtain ⟨l⟩ := cs
  match l, h2 with
  | [c0, c1], _ =>
    obtain ⟨fuel, hf⟩ := h
    obtain ⟨a, e0, wa⟩ := u8_at Tryz.underlying54 hf (i := 0) (by decide)
    obtain ⟨b, e1, wb⟩ := u8_at Tryz.underlying54 hf (i := 1) (by decide)
    simp [Value.cells] at e0 e1
    subst e0 e1
    exact ⟨a, b, rfl, wa, wb⟩
end
end Go.Proofs.YtlmheeommpbimaaGreatDoor
