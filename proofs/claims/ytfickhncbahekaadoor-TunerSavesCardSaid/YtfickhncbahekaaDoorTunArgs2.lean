/- An order by value, opened: its first note, its steps as a list of pairs. A task by value, and a plan of a task, opened. The arguments read again where below the call's heap nothing has changed. Conditions: none. A task by value, and a plan of a task, opened. Conditions: none. -/
import Derived.Test.YtfickhncbahekaaDoorTunFrame
import Derived.Test.YtfickhncbahekaaDoorTunCalls
import Derived.Deep.Slices
import Derived.Deep.Fields
import Derived.ChangeSame
import Derived.ChangeSlices
import Derived.Test.YtfickhncbahekaaDoorTunTask
import Derived.Deep.Strs
import Derived.Lib.SmallJoins
namespace Go.Proofs.YtfickhncbahekaaDoor
section
open Go.ChangeShapes Go.WideShapes Go.ChangeAt Go.WideMaps Go.WideElems Go.RowKit Go.Joins Go.Deep
set_option linter.unusedVariables false

section
variable {H : Type} {enc : TypeId × Value → H} {P : Program} {w : World} {base : Nat} {spare : Nat → Bool} {held : Bool}
theorem open_slice_fields {t e : TypeId} {fs : Array Field} {fuel : Nat} {cs : List Value} {x : DataW H × List MemPlace} (ht : P.underlying t = some (.slice e)) (he : P.underlying e = some (.struct fs))
    (hone : oneCellFields P fs = true) (hC : P.cellsOf e = fs.size) (h : DataW.trod enc P w base spare held fuel t cs = some x) :
    (cs = [.slice none 0 0] ∧ x = (.nil, [])) ∨
    ∃ (a : Addr) (len cap m : Nat) (D : Nat → DataW H) (Pl : Nat → List MemPlace), cs = [.slice (some a) len cap] ∧ base ≤ a.block ∧ len ≤ cap ∧ cap ≤ maxLen ∧ m = (if spare a.block then cap else len) ∧
      x = (.slice ((List.range len).map D) ((List.range (m - len)).map fun j => D (len + j)), MemPlace.row a (m * fs.size) ++ (List.range m).flatMap Pl) ∧
      ∀ i, i < m → ∃ (ys : List (DataW H × List MemPlace)) (n : Nat), D i = .agg (ys.map (·.1)) ∧ Pl i = ys.flatMap (·.2) ∧ ys.length = fs.size ∧
        ∀ (j : Nat) (f : Field), fs[j]? = some f → ∃ (v : Value) (y : DataW H × List MemPlace), w.cell? (a.add (i * fs.size + j)) = some v ∧ ys[j]? = some y ∧ DataW.trod enc P w base spare held n f.type [v] = some y := by
  rcases open_slice ht h with h0 | ⟨a, len, cap, m, n, D, Pl, hcs, hb, hl, hm, hmm, hx, hi⟩
  · exact .inl h0
  · refine .inr ⟨a, len, cap, m, D, Pl, hcs, hb, hl, hm, hmm, by rw [hC] at hx; exact hx, fun i him => ?_⟩
    obtain ⟨cs', hc, ht'⟩ := hi i him
    rw [hC] at hc
    obtain ⟨ys, n', hn', hy, hlen, hyl, hf⟩ := DataW.trod_struct he ht'
    obtain ⟨_, hcl, hat⟩ := World.cells?_some hc
    simp only [Prod.mk.injEq] at hy
    refine ⟨ys, n', hy.1, hy.2, hyl, fun j f hj => ?_⟩
    obtain ⟨ho, hk⟩ := hone_of hone j f hj
    have hjl : j < fs.size := (Array.getElem?_eq_some_iff.1 hj).1
    have hcell := hat j hjl
    have hv : cs'[j]? = some (cs'[j]'(by omega)) := List.getElem?_eq_getElem (by omega)
    have h1 := hf j f hj
    rw [ho, hk] at h1
    have hone' : (cs'.drop j).take 1 = [cs'[j]'(by omega)] := by
      rw [List.drop_eq_getElem_cons (by omega)]
      rfl
    rw [hone'] at h1
    have hys : ys[j]? = some (ys[j]'(by omega)) := List.getElem?_eq_getElem (by omega)
    refine ⟨_, _, ?_, hys, h1.trans hys⟩
    rw [← Go.Deep.add_add, hcell, hv]
end

theorem kids_here : Kids Tryd.prog (· < Tryd.prog.types.size) := kids_rows (by kernel_rfl) (by kernel_rfl)
theorem full_here : ∀ t e, t < Tryd.prog.types.size → Tryd.prog.underlying t = some (.slice e) → 0 < Tryd.prog.cellsOf e := slices_full_of Tryd.prog (by kernel_rfl)
theorem trodAll_carry {H : Type} {enc : TypeId × Value → H} {P : Program} {w w' : World} {base : Nat} {sp : Nat → Bool} {held : Bool} : ∀ {ts : List TypeId} {vs : List Value} {ds : List (DataW H)} {ps : List MemPlace},
    DataW.TrodAll enc P w base sp held ts vs ds ps → (∀ p ∈ ps, w.sameAt w' p) → DataW.TrodAll enc P w' base sp held ts vs ds ps
  | [], [], [], _, h, _ => h
  | _ :: _, _ :: _, _ :: _, _, ⟨p, q, ⟨n, h⟩, hs, e⟩, hk => by
    subst e
    exact ⟨p, q, ⟨n, DataW.trod_carry n _ _ _ h (fun x hx => hk x (List.mem_append_left _ hx))⟩, trodAll_carry hs (fun x hx => hk x (List.mem_append_right _ hx)), rfl⟩
/-- The arguments read again. -/
theorem args_again {H : Type} {enc : TypeId × Value → H} {W W' : World} {ts : List TypeId} {vs : List Value} {ds : List (DataW H)} {p : List MemPlace} (hts : ∀ t ∈ ts, t < Tryd.prog.types.size)
    (hA : DataW.TrodAll enc Tryd.prog W 0 (fun _ => true) true ts vs ds p) (hlt : ∀ x ∈ p, x.block < W.heap.size) (hb : Below W.heap.size W W') : DataW.TrodAll enc Tryd.prog W' 0 (fun b => decide (b < W.heap.size)) true ts vs ds p :=
  trodAll_carry (DataW.TrodAll.respare kids_here full_here hts hA (fun x hx => by simpa using hlt x hx)) (fun x hx => hb.same (hlt x hx))

theorem add_plain (b off n : Nat) : (Addr.mk b off none).add n = ⟨b, off + n, none⟩ := by
  unfold Addr.add
  split
  · subst_vars; rfl
  · rfl

def I64b (x : Int) : Prop := -9223372036854775808 ≤ x ∧ x ≤ 9223372036854775807
theorem i64b_of {a : Int} (h : (Lit.int .i64 a).wf = true) : I64b a := by
  have h1 : IntKind.i64.min ≤ a ∧ a ≤ IntKind.i64.max := by simpa [Lit.wf] using h
  have e1 : IntKind.i64.min = -9223372036854775808 := by decide
  have e2 : IntKind.i64.max = 9223372036854775807 := by decide
  unfold I64b
  omega
theorem int_field {H : Type} {enc : TypeId × Value → H} {w : World} {sp : Nat → Bool} {held : Bool} {n : Nat} {a : Addr} {ys : List (DataW H × List MemPlace)} {j : Nat}
    (h : ∃ (v : Value) (y : DataW H × List MemPlace), w.cell? a = some v ∧ ys[j]? = some y ∧ DataW.trod enc Tryd.prog w 0 sp held n 3 [v] = some y) : ∃ k : Int, w.cell? a = some (.int .i64 k) := by
  obtain ⟨v, y, hc, _, ht⟩ := h
  obtain ⟨z, e, rfl, wz⟩ := DataW.trod_int Tryd.underlying3 ht
  simp at e
  subst e
  exact ⟨z, hc⟩

set_option maxRecDepth 100000 in
/-- An order by value, opened. -/
theorem open_order {H : Type} {enc : TypeId × Value → H} {w : World} {base' : Nat} {v : Value} {d : DataW H} {p : List MemPlace}
    (hv : Value.okWide Tryd.prog w .any base' 25 v) (h : DataW.Trod enc Tryd.prog w 0 (fun _ => true) true 25 v d p) :
    ∃ (f : Int) (A : Option Addr) (n cap : Nat) (L : List (Int × Int)), v = .agg #[.int .i64 f, .slice A n cap] ∧ I64b f ∧ OArg w w.heap.size A n cap L := by
  obtain ⟨c0, c1, y0, y1, m, rfl, rfl, rfl, hy0, hy1⟩ := open_agg2 Tryd.underlying25 (by kernel_rfl) (by kernel_rfl) hv h
  obtain ⟨f, e1, _, wf⟩ := DataW.trod_int Tryd.underlying3 hy0
  simp at e1
  subst e1
  rcases open_slice_fields Tryd.underlying23 Tryd.underlying27 (by kernel_rfl) (by kernel_rfl) hy1 with ⟨hc, hx⟩ | ⟨ad, len, cap, mm, D, Pl, hc, _, hlc, hcm, hmm, hx, hi⟩
  · simp at hc
    subst hc
    exact ⟨f, none, 0, 0, [], rfl, i64b_of wf, rfl, SRd.nil, Nat.le_refl _, by decide⟩
  · simp at hc
    subst hc
    have hx2 : ∀ i, ∃ x : Int × Int, i < len → (w.cell? (ad.add (i * 2)) = some (.int .i64 x.1) ∧ w.cell? (ad.add (i * 2 + 1)) = some (.int .i64 x.2)) := by
      intro i
      by_cases hil : i < len
      · obtain ⟨ys, nn, _, _, _, hf⟩ := hi i (by rw [hmm]; simp; omega)
        obtain ⟨n0, k0⟩ := int_field (hf 0 _ rfl)
        obtain ⟨n1, k1⟩ := int_field (hf 1 _ rfl)
        exact ⟨(n0, n1), fun _ => ⟨k0, k1⟩⟩
      · exact ⟨(0, 0), fun h => absurd h hil⟩
    obtain ⟨X, hX⟩ := Classical.axiomOfChoice hx2
    refine ⟨f, some ad, len, cap, (List.range len).map X, rfl, i64b_of wf, by simp, fun hl => ?_, hlc, hcm⟩
    have hl' : 0 < len := by simpa using hl
    have hsp : ad.spot = none := by
      have := World.cell?_spot (hX 0 hl').1
      simpa [Addr.add] using this
    obtain ⟨b, off, sp⟩ := ad
    simp only at hsp
    subst hsp
    refine ⟨b, off, rfl, ?_, fun i hi => ?_⟩
    · have hc := (hX 0 hl').1
      have := World.block_lt_of_cell? w _ hc
      simpa [Addr.add] using this
    · have hil : i < len := by simpa using hi
      have e : ((List.range len).map X).getD i (0, 0) = X i := by simp [List.getD, List.getElem?_map, List.getElem?_range hil]
      rw [e]
      obtain ⟨k0, k1⟩ := hX i hil
      rw [add_plain] at k0 k1
      exact ⟨k0, k1⟩
end

section
open Go.ChangeShapes Go.WideShapes Go.ChangeAt Go.WideMaps Go.WideElems Go.RowKit Go.Joins Go.Deep
set_option linter.unusedVariables false

theorem u64_bndT {a : Int} (h : (Lit.int .u64 a).wf = true) : 0 ≤ a ∧ a < 18446744073709551616 := by
  have h1 : IntKind.u64.min ≤ a ∧ a ≤ IntKind.u64.max := by simpa [Lit.wf] using h
  have e1 : IntKind.u64.min = 0 := by decide
  have e2 : IntKind.u64.max = 18446744073709551615 := by decide
  omega
theorem u16_bndT {a : Int} (h : (Lit.int .u16 a).wf = true) : 0 ≤ a ∧ a ≤ 65535 := by
  have h1 : IntKind.u16.min ≤ a ∧ a ≤ IntKind.u16.max := by simpa [Lit.wf] using h
  have e1 : IntKind.u16.min = 0 := by decide
  have e2 : IntKind.u16.max = 65535 := by decide
  omega
theorem array5T {cs : Array Value} (h : cs.size = 5) : ∃ a b c d e, cs = #[a, b, c, d, e] := by
  obtain ⟨l⟩ := cs
  match l, h with
  | [a, b, c, d, e], _ => exact ⟨a, b, c, d, e, rfl⟩
set_option maxRecDepth 100000 in
/-- A task by value, opened. -/
theorem open_task {H : Type} {enc : TypeId × Value → H} {w : World} {base base' : Nat} {sp : Nat → Bool} {held : Bool} {v : Value} {d : DataW H} {p : List MemPlace}
    (hv : Value.okWide Tryd.prog w .any base' 43 v) (h : DataW.Trod enc Tryd.prog w base sp held 43 v d p) :
    ∃ (f : Int) (s : Nat × Nat) (lo hi : Int), v = tv f s lo hi ∧ NOk s := by
  obtain ⟨cs, rfl, hsz⟩ := okWide_struct Tryd.underlying43 hv
  have h5 : cs.size = 5 := hsz.trans (by kernel_rfl)
  obtain ⟨c0, c1, c2, c3, c4, rfl⟩ := array5T h5
  obtain ⟨fuel, hf⟩ := h
  obtain ⟨y0, y1, y2, n, _, _, h0, h1, h2⟩ := trod_struct3 Tryd.underlying43 hf
  have e1 : Tryd.prog.cellsOf 3 = 1 := by kernel_rfl
  have e2 : Tryd.prog.cellsOf 39 = 2 := by kernel_rfl
  have e3 : Tryd.prog.cellsOf 41 = 2 := by kernel_rfl
  rw [e1] at h0
  rw [e2] at h1
  rw [e3] at h2
  simp [Value.cells] at h0 h1 h2
  obtain ⟨f, g0, _, _⟩ := DataW.trod_int Tryd.underlying3 h0
  obtain ⟨z0, z1, m, _, _, k0, k1⟩ := trod_struct2 Tryd.underlying39 h1
  obtain ⟨z2, z3, m', _, _, k2, k3⟩ := trod_struct2 Tryd.underlying41 h2
  have e4 : Tryd.prog.cellsOf 37 = 1 := by kernel_rfl
  rw [e4] at k0 k1
  rw [e1] at k2 k3
  simp at k0 k1 k2 k3
  obtain ⟨s1, g1, _, w1⟩ := DataW.trod_int Tryd.underlying37 k0
  obtain ⟨s2, g2, _, w2⟩ := DataW.trod_int Tryd.underlying37 k1
  obtain ⟨lo, g3, _, _⟩ := DataW.trod_int Tryd.underlying3 k2
  obtain ⟨hi, g4, _, _⟩ := DataW.trod_int Tryd.underlying3 k3
  simp at g0 g1 g2 g3 g4
  subst g0; subst g1; subst g2; subst g3; subst g4
  have b1 := u64_bndT w1
  have b2 := u64_bndT w2
  obtain ⟨n1, rfl⟩ := Int.eq_ofNat_of_zero_le b1.1
  obtain ⟨n2, rfl⟩ := Int.eq_ofNat_of_zero_le b2.1
  exact ⟨f, (n1, n2), lo, hi, rfl, by show n1 < _; omega, by show n2 < _; omega⟩
set_option maxRecDepth 100000 in
/-- A plan of a task by value, opened. -/
theorem open_tplan {H : Type} {enc : TypeId × Value → H} {w : World} {base base' : Nat} {sp : Nat → Bool} {held : Bool} {v : Value} {d : DataW H} {p : List MemPlace}
    (hv : Value.okWide Tryd.prog w .any base' 35 v) (h : DataW.Trod enc Tryd.prog w base sp held 35 v d p) :
    ∃ a b c d g : Nat, v = .agg #[.int .u8 (a : Int), .int .u16 (b : Int), .int .u8 (c : Int), .int .u8 (d : Int), .int .u8 (g : Int)] ∧ a ≤ 255 ∧ b ≤ 65535 ∧ c ≤ 255 ∧ d ≤ 255 ∧ g ≤ 255 := by
  obtain ⟨cs, rfl, hsz⟩ := okWide_struct Tryd.underlying35 hv
  have h5 : cs.size = 5 := hsz.trans (by kernel_rfl)
  obtain ⟨c0, c1, c2, c3, c4, rfl⟩ := array5T h5
  obtain ⟨fuel, hf⟩ := h
  obtain ⟨y0, y1, y2, y3, n, _, _, h0, h1, h2, h3⟩ := trod_struct4 Tryd.underlying35 hf
  have e1 : Tryd.prog.cellsOf 5 = 1 := by kernel_rfl
  have e2 : Tryd.prog.cellsOf 33 = 2 := by kernel_rfl
  have e3 : Tryd.prog.cellsOf 31 = 1 := by kernel_rfl
  rw [e2] at h0
  rw [e1] at h1 h2 h3
  simp [Value.cells] at h0 h1 h2 h3
  obtain ⟨z0, z1, m, _, _, k0, k1⟩ := trod_struct2 Tryd.underlying33 h0
  rw [e1] at k0
  rw [e3] at k1
  simp at k0 k1
  obtain ⟨a, g0, _, w0⟩ := DataW.trod_int Tryd.underlying5 k0
  obtain ⟨b, g1, _, w1⟩ := DataW.trod_int Tryd.underlying31 k1
  obtain ⟨c, g2, _, w2⟩ := DataW.trod_int Tryd.underlying5 h1
  obtain ⟨d, g3, _, w3⟩ := DataW.trod_int Tryd.underlying5 h2
  obtain ⟨g, g4, _, w4⟩ := DataW.trod_int Tryd.underlying5 h3
  simp at g0 g1 g2 g3 g4
  subst g0; subst g1; subst g2; subst g3; subst g4
  have b0 := u8_bnd w0
  have b1 := u16_bndT w1
  have b2 := u8_bnd w2
  have b3 := u8_bnd w3
  have b4 := u8_bnd w4
  obtain ⟨n0, rfl⟩ := Int.eq_ofNat_of_zero_le b0.1
  obtain ⟨n1, rfl⟩ := Int.eq_ofNat_of_zero_le b1.1
  obtain ⟨n2, rfl⟩ := Int.eq_ofNat_of_zero_le b2.1
  obtain ⟨n3, rfl⟩ := Int.eq_ofNat_of_zero_le b3.1
  obtain ⟨n4, rfl⟩ := Int.eq_ofNat_of_zero_le b4.1
  exact ⟨n0, n1, n2, n3, n4, rfl, by omega, by omega, by omega, by omega, by omega⟩
end
end Go.Proofs.YtfickhncbahekaaDoor
