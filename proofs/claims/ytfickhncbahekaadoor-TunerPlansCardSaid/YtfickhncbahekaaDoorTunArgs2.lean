/- A task by value, and a plan of a task, opened. Conditions: none. -/
import Derived.Test.YtfickhncbahekaaDoorTunArgs
import Derived.Test.YtfickhncbahekaaDoorTunTask
import Derived.Deep.Strs
import Derived.Lib.SmallJoins
namespace Go.Proofs.YtfickhncbahekaaDoor
open Go.ChangeShapes Go.WideShapes Go.ChangeAt Go.WideMaps Go.WideElems Go.RowKit Go.Joins Go.Deep
set_option linter.unusedVariables false

theorem u64_bndT {a : Int} (h : (Lit.int .u64 a).wf = true) : 0 ≤ a ∧ a < 18446744073709551616 := by
  have h1 : IntKind.u64.min ≤ a ∧ a ≤ IntKind.u64.max := by simpa [Lit.wf] using h
  have e1 : IntKind.u64.min = 0 := by decide
  have e2 : IntKind.u64.max = 18446744073709551615 := by decide
  omega
theorem u16_bndT {a : Int} (h : (Lit.int .u16 a).wf = true) : 0 ≤ a ∧ a ≤ 65535 := by
  have h1 : IntKind.u16.min ≤ a ∧ a ≤ IntKind.u16.max := by simpa [Lit.wf] using h
  have e1 : IntKind.u16.min = 0 := by decide
  have e2 : IntKind.u16.max = 65535 := by decide
  omega
theorem array5T {cs : Array Value} (h : cs.size = 5) : ∃ a b c d e, cs = #[a, b, c, d, e] := by
  obtain ⟨l⟩ := cs
  match l, h with
  | [a, b, c, d, e], _ => exact ⟨a, b, c, d, e, rfl⟩
set_option maxRecDepth 100000 in
/-- A task by value, opened. -/
theorem open_task {H : Type} {enc : TypeId × Value → H} {w : World} {base base' : Nat} {sp : Nat → Bool} {held : Bool} {v : Value} {d : DataW H} {p : List MemPlace}
    (hv : Value.okWide Tryd.prog w .any base' 43 v) (h : DataW.Trod enc Tryd.prog w base sp held 43 v d p) :
    ∃ (f : Int) (s : Nat × Nat) (lo hi : Int), v = tv f s lo hi ∧ NOk s := by
  obtain ⟨cs, rfl, hsz⟩ := okWide_struct Tryd.underlying43 hv
  have h5 : cs.size = 5 := hsz.trans (by kernel_rfl)
  obtain ⟨c0, c1, c2, c3, c4, rfl⟩ := array5T h5
  obtain ⟨fuel, hf⟩ := h
  obtain ⟨y0, y1, y2, n, _, _, h0, h1, h2⟩ := trod_struct3 Tryd.underlying43 hf
  have e1 : Tryd.prog.cellsOf 3 = 1 := by kernel_rfl
  have e2 : Tryd.prog.cellsOf 39 = 2 := by kernel_rfl
  have e3 : Tryd.prog.cellsOf 41 = 2 := by kernel_rfl
  rw [e1] at h0
  rw [e2] at h1
  rw [e3] at h2
  simp [Value.cells] at h0 h1 h2
  obtain ⟨f, g0, _, _⟩ := DataW.trod_int Tryd.underlying3 h0
  obtain ⟨z0, z1, m, _, _, k0, k1⟩ := trod_struct2 Tryd.underlying39 h1
  obtain ⟨z2, z3, m', _, _, k2, k3⟩ := trod_struct2 Tryd.underlying41 h2
  have e4 : Tryd.prog.cellsOf 37 = 1 := by kernel_rfl
  rw [e4] at k0 k1
  rw [e1] at k2 k3
  simp at k0 k1 k2 k3
  obtain ⟨s1, g1, _, w1⟩ := DataW.trod_int Tryd.underlying37 k0
  obtain ⟨s2, g2, _, w2⟩ := DataW.trod_int Tryd.underlying37 k1
  obtain ⟨lo, g3, _, _⟩ := DataW.trod_int Tryd.underlying3 k2
  obtain ⟨hi, g4, _, _⟩ := DataW.trod_int Tryd.underlying3 k3
  simp at g0 g1 g2 g3 g4
  subst g0; subst g1; subst g2; subst g3; subst g4
  have b1 := u64_bndT w1
  have b2 := u64_bndT w2
  obtain ⟨n1, rfl⟩ := Int.eq_ofNat_of_zero_le b1.1
  obtain ⟨n2, rfl⟩ := Int.eq_ofNat_of_zero_le b2.1
  exact ⟨f, (n1, n2), lo, hi, rfl, by show n1 < _; omega, by show n2 < _; omega⟩
set_option maxRecDepth 100000 in
/-- A plan of a task by value, opened. -/
theorem open_tplan {H : Type} {enc : TypeId × Value → H} {w : World} {base base' : Nat} {sp : Nat → Bool} {held : Bool} {v : Value} {d : DataW H} {p : List MemPlace}
    (hv : Value.okWide Tryd.prog w .any base' 35 v) (h : DataW.Trod enc Tryd.prog w base sp held 35 v d p) :
    ∃ a b c d g : Nat, v = .agg #[.int .u8 (a : Int), .int .u16 (b : Int), .int .u8 (c : Int), .int .u8 (d : Int), .int .u8 (g : Int)] ∧ a ≤ 255 ∧ b ≤ 65535 ∧ c ≤ 255 ∧ d ≤ 255 ∧ g ≤ 255 := by
  obtain ⟨cs, rfl, hsz⟩ := okWide_struct Tryd.underlying35 hv
  have h5 : cs.size = 5 := hsz.trans (by kernel_rfl)
  obtain ⟨c0, c1, c2, c3, c4, rfl⟩ := array5T h5
  obtain ⟨fuel, hf⟩ := h
  obtain ⟨y0, y1, y2, y3, n, _, _, h0, h1, h2, h3⟩ := trod_struct4 Tryd.underlying35 hf
  have e1 : Tryd.prog.cellsOf 5 = 1 := by kernel_rfl
  have e2 : Tryd.prog.cellsOf 33 = 2 := by kernel_rfl
  have e3 : Tryd.prog.cellsOf 31 = 1 := by kernel_rfl
  rw [e2] at h0
  rw [e1] at h1 h2 h3
  simp [Value.cells] at h0 h1 h2 h3
  obtain ⟨z0, z1, m, _, _, k0, k1⟩ := trod_struct2 Tryd.underlying33 h0
  rw [e1] at k0
  rw [e3] at k1
  simp at k0 k1
  obtain ⟨a, g0, _, w0⟩ := DataW.trod_int Tryd.underlying5 k0
  obtain ⟨b, g1, _, w1⟩ := DataW.trod_int Tryd.underlying31 k1
  obtain ⟨c, g2, _, w2⟩ := DataW.trod_int Tryd.underlying5 h1
  obtain ⟨d, g3, _, w3⟩ := DataW.trod_int Tryd.underlying5 h2
  obtain ⟨g, g4, _, w4⟩ := DataW.trod_int Tryd.underlying5 h3
  simp at g0 g1 g2 g3 g4
  subst g0; subst g1; subst g2; subst g3; subst g4
  have b0 := u8_bnd w0
  have b1 := u16_bndT w1
  have b2 := u8_bnd w2
  have b3 := u8_bnd w3
  have b4 := u8_bnd w4
  obtain ⟨n0, rfl⟩ := Int.eq_ofNat_of_zero_le b0.1
  obtain ⟨n1, rfl⟩ := Int.eq_ofNat_of_zero_le b1.1
  obtain ⟨n2, rfl⟩ := Int.eq_ofNat_of_zero_le b2.1
  obtain ⟨n3, rfl⟩ := Int.eq_ofNat_of_zero_le b3.1
  obtain ⟨n4, rfl⟩ := Int.eq_ofNat_of_zero_le b4.1
  exact ⟨n0, n1, n2, n3, n4, rfl, by omega, by omega, by omega, by omega, by omega⟩
end Go.Proofs.YtfickhncbahekaaDoor
