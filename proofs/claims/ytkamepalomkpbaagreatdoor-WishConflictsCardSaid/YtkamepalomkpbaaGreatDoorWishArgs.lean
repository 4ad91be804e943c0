/- A plan's reading opened: its wants as a list, its rules; the arguments read again where below the call's heap nothing has changed. Conditions: none. A slice of ints, opened. Conditions: none. -/
import Derived.Test.YtkamepalomkpbaaGreatDoorFrame
import Derived.Test.YtkamepalomkpbaaGreatDoorWishMake
import Derived.Deep.Slices
import Derived.Deep.Fields
import Derived.ChangeSame
import Derived.ChangeSlices
namespace Go.Proofs.YtkamepalomkpbaaGreatDoor
section
open Go.ChangeShapes Go.WideShapes Go.ChangeAt Go.WideMaps Go.WideElems Go.RowKit Go.Joins Go.Deep
set_option linter.unusedVariables false

section
variable {H : Type} {enc : TypeId × Value → H} {P : Program} {w : World} {base : Nat} {spare : Nat → Bool} {held : Bool}
theorem open_slice_fields {t e : TypeId} {fs : Array Field} {fuel : Nat} {cs : List Value} {x : DataW H × List MemPlace} (ht : P.underlying t = some (.slice e)) (he : P.underlying e = some (.struct fs))
    (hone : oneCellFields P fs = true) (hC : P.cellsOf e = fs.size) (h : DataW.trod enc P w base spare held fuel t cs = some x) :
    (cs = [.slice none 0 0] ∧ x = (.nil, [])) ∨
    ∃ (a : Addr) (len cap m : Nat) (D : Nat → DataW H) (Pl : Nat → List MemPlace), cs = [.slice (some a) len cap] ∧ base ≤ a.block ∧ len ≤ cap ∧ cap ≤ maxLen ∧ m = (if spare a.block then cap else len) ∧
      x = (.slice ((List.range len).map D) ((List.range (m - len)).map fun j => D (len + j)), MemPlace.row a (m * fs.size) ++ (List.range m).flatMap Pl) ∧
      ∀ i, i < m → ∃ (ys : List (DataW H × List MemPlace)) (n : Nat), D i = .agg (ys.map (·.1)) ∧ Pl i = ys.flatMap (·.2) ∧ ys.length = fs.size ∧
        ∀ (j : Nat) (f : Field), fs[j]? = some f → ∃ (v : Value) (y : DataW H × List MemPlace), w.cell? (a.add (i * fs.size + j)) = some v ∧ ys[j]? = some y ∧ DataW.trod enc P w base spare held n f.type [v] = some y := by
  rcases open_slice ht h with h0 | ⟨a, len, cap, m, n, D, Pl, hcs, hb, hl, hm, hmm, hx, hi⟩
  · exact .inl h0
  · refine .inr ⟨a, len, cap, m, D, Pl, hcs, hb, hl, hm, hmm, by rw [hC] at hx; exact hx, fun i him => ?_⟩
    obtain ⟨cs', hc, ht'⟩ := hi i him
    rw [hC] at hc
    obtain ⟨ys, n', hn', hy, hlen, hyl, hf⟩ := DataW.trod_struct he ht'
    obtain ⟨_, hcl, hat⟩ := World.cells?_some hc
    simp only [Prod.mk.injEq] at hy
    refine ⟨ys, n', hy.1, hy.2, hyl, fun j f hj => ?_⟩
    obtain ⟨ho, hk⟩ := hone_of hone j f hj
    have hjl : j < fs.size := (Array.getElem?_eq_some_iff.1 hj).1
    have hcell := hat j hjl
    have hv : cs'[j]? = some (cs'[j]'(by omega)) := List.getElem?_eq_getElem (by omega)
    have h1 := hf j f hj
    rw [ho, hk] at h1
    have hone' : (cs'.drop j).take 1 = [cs'[j]'(by omega)] := by
      rw [List.drop_eq_getElem_cons (by omega)]
      rfl
    rw [hone'] at h1
    have hys : ys[j]? = some (ys[j]'(by omega)) := List.getElem?_eq_getElem (by omega)
    refine ⟨_, _, ?_, hys, h1.trans hys⟩
    rw [← Go.Deep.add_add, hcell, hv]
end

theorem kids_here : Kids Tryz.prog (· < Tryz.prog.types.size) := kids_rows (by kernel_rfl) (by kernel_rfl)
theorem full_here : ∀ t e, t < Tryz.prog.types.size → Tryz.prog.underlying t = some (.slice e) → 0 < Tryz.prog.cellsOf e := slices_full_of Tryz.prog (by kernel_rfl)
theorem trodAll_carry {H : Type} {enc : TypeId × Value → H} {P : Program} {w w' : World} {base : Nat} {sp : Nat → Bool} {held : Bool} : ∀ {ts : List TypeId} {vs : List Value} {ds : List (DataW H)} {ps : List MemPlace},
    DataW.TrodAll enc P w base sp held ts vs ds ps → (∀ p ∈ ps, w.sameAt w' p) → DataW.TrodAll enc P w' base sp held ts vs ds ps
  | [], [], [], _, h, _ => h
  | _ :: _, _ :: _, _ :: _, _, ⟨p, q, ⟨n, h⟩, hs, e⟩, hk => by
    subst e
    exact ⟨p, q, ⟨n, DataW.trod_carry n _ _ _ h (fun x hx => hk x (List.mem_append_left _ hx))⟩, trodAll_carry hs (fun x hx => hk x (List.mem_append_right _ hx)), rfl⟩
/-- The arguments read again. -/
theorem args_again {H : Type} {enc : TypeId × Value → H} {W W' : World} {ts : List TypeId} {vs : List Value} {ds : List (DataW H)} {p : List MemPlace} (hts : ∀ t ∈ ts, t < Tryz.prog.types.size)
    (hA : DataW.TrodAll enc Tryz.prog W 0 (fun _ => true) true ts vs ds p) (hlt : ∀ x ∈ p, x.block < W.heap.size) (hb : Below W.heap.size W W') : DataW.TrodAll enc Tryz.prog W' 0 (fun b => decide (b < W.heap.size)) true ts vs ds p :=
  trodAll_carry (DataW.TrodAll.respare kids_here full_here hts hA (fun x hx => by simpa using hlt x hx)) (fun x hx => hb.same (hlt x hx))

theorem u8_bounds {a : Int} (h : (Lit.int .u8 a).wf = true) : 0 ≤ a ∧ a ≤ 255 := by
  have h1 : IntKind.u8.min ≤ a ∧ a ≤ IntKind.u8.max := by simpa [Lit.wf] using h
  have e1 : IntKind.u8.min = 0 := by decide
  have e2 : IntKind.u8.max = 255 := by decide
  omega
theorem add_plain (b off n : Nat) : (Addr.mk b off none).add n = ⟨b, off + n, none⟩ := by
  unfold Addr.add
  split
  · subst_vars; rfl
  · rfl
theorem u8_field {H : Type} {enc : TypeId × Value → H} {w : World} {sp : Nat → Bool} {held : Bool} {n : Nat} {a : Addr} {ys : List (DataW H × List MemPlace)} {j : Nat}
    (h : ∃ (v : Value) (y : DataW H × List MemPlace), w.cell? a = some v ∧ ys[j]? = some y ∧ DataW.trod enc Tryz.prog w 0 sp held n 5 [v] = some y) : ∃ k : Nat, w.cell? a = some (.int .u8 k) ∧ k ≤ 255 := by
  obtain ⟨v, y, hc, _, ht⟩ := h
  obtain ⟨z, e, rfl, wz⟩ := DataW.trod_int Tryz.underlying5 ht
  simp at e
  subst e
  have hb := u8_bounds wz
  obtain ⟨k, rfl⟩ := Int.eq_ofNat_of_zero_le hb.1
  exact ⟨k, hc, by omega⟩

set_option maxRecDepth 100000 in
/-- A plan by value, opened. -/
theorem open_plan {H : Type} {enc : TypeId × Value → H} {w : World} {base' : Nat} {v : Value} {d : DataW H} {p : List MemPlace}
    (hv : Value.okWide Tryz.prog w .any base' 24 v) (h : DataW.Trod enc Tryz.prog w 0 (fun _ => true) true 24 v d p) (hlt : ∀ x ∈ p, x.block < w.heap.size) :
    ∃ (XA : Option Addr) (xn xc bR : Nat) (L : List Wnt), v = .agg #[.slice XA xn xc, .int .u8 bR] ∧ xn ≤ xc ∧ xc ≤ maxLen ∧ bR ≤ 255 ∧ L.length = xn ∧ NRd w w.heap.size XA L := by
  obtain ⟨c0, c1, y0, y1, m, rfl, rfl, rfl, hy0, hy1⟩ := open_agg2 Tryz.underlying24 (by kernel_rfl) (by kernel_rfl) hv h
  obtain ⟨a, e1, rfl, wa⟩ := DataW.trod_int Tryz.underlying5 hy1
  simp at e1
  subst e1
  have hba := u8_bounds wa
  obtain ⟨bR, rfl⟩ := Int.eq_ofNat_of_zero_le hba.1
  rcases open_slice_fields Tryz.underlying22 Tryz.underlying69 (by kernel_rfl) (by kernel_rfl) hy0 with ⟨hc, hx⟩ | ⟨ad, len, cap, mm, D, Pl, hc, _, hlc, hcm, hmm, hx, hi⟩
  · simp at hc
    subst hc
    exact ⟨none, 0, 0, bR, [], rfl, Nat.le_refl _, by decide, by omega, rfl, fun h => absurd h (by simp)⟩
  · simp at hc
    subst hc
    have hx5 : ∀ i, ∃ x : Wnt, i < len → (w.cell? (ad.add (i * 5)) = some (.int .u8 x.dv) ∧ w.cell? (ad.add (i * 5 + 1)) = some (.int .u8 x.tn) ∧ w.cell? (ad.add (i * 5 + 2)) = some (.int .u8 x.ft) ∧ w.cell? (ad.add (i * 5 + 3)) = some (.int .u8 x.lo) ∧ w.cell? (ad.add (i * 5 + 4)) = some (.int .u8 x.ks)) ∧ x.dv ≤ 255 ∧ x.tn ≤ 255 ∧ x.ft ≤ 255 ∧ x.lo ≤ 255 ∧ x.ks ≤ 255 := by
      intro i
      by_cases hil : i < len
      · obtain ⟨ys, nn, _, _, _, hf⟩ := hi i (by rw [hmm]; simp; omega)
        obtain ⟨n0, k0, b0⟩ := u8_field (hf 0 _ rfl)
        obtain ⟨n1, k1, b1⟩ := u8_field (hf 1 _ rfl)
        obtain ⟨n2, k2, b2⟩ := u8_field (hf 2 _ rfl)
        obtain ⟨n3, k3, b3⟩ := u8_field (hf 3 _ rfl)
        obtain ⟨n4, k4, b4⟩ := u8_field (hf 4 _ rfl)
        exact ⟨⟨n0, n1, n2, n3, n4⟩, fun _ => ⟨⟨k0, k1, k2, k3, k4⟩, b0, b1, b2, b3, b4⟩⟩
      · exact ⟨⟨0, 0, 0, 0, 0⟩, fun h => absurd h hil⟩
    obtain ⟨X, hX⟩ := Classical.axiomOfChoice hx5
    refine ⟨some ad, len, cap, bR, (List.range len).map X, rfl, hlc, hcm, by omega, by simp, fun hl => ?_⟩
    have hl' : 0 < len := by simpa using hl
    have hsp : ad.spot = none := by
      have := World.cell?_spot (hX 0 hl').1.1
      simpa [Addr.add] using this
    obtain ⟨b, off, sp⟩ := ad
    simp only at hsp
    subst hsp
    refine ⟨b, off, rfl, ?_, fun i hi => ?_⟩
    · have hc := (hX 0 hl').1.1
      have := World.block_lt_of_cell? w _ hc
      simpa [Addr.add] using this
    · have hil : i < len := by simpa using hi
      have e : ((List.range len).map X)[i] = X i := by simp
      rw [e]
      obtain ⟨⟨k0, k1, k2, k3, k4⟩, hb⟩ := hX i hil
      rw [add_plain] at k0 k1 k2 k3 k4
      exact ⟨⟨k0, k1, k2, k3, k4⟩, hb⟩
end

section
open Go.ChangeShapes Go.WideShapes Go.ChangeAt Go.WideMaps Go.WideElems Go.RowKit Go.Joins Go.Deep
set_option linter.unusedVariables false

set_option maxRecDepth 100000 in
theorem open_ig {H : Type} {enc : TypeId × Value → H} {w : World} {base' : Nat} {v : Value} {d : DataW H} {p : List MemPlace}
    (hv : Value.okWide Tryz.prog w .any base' 25 v) (h : DataW.Trod enc Tryz.prog w 0 (fun _ => true) true 25 v d p) (hlt : ∀ x ∈ p, x.block < w.heap.size) :
    ∃ (G : Option Addr) (gn gc : Nat) (g : List Int), v = .slice G gn gc ∧ gn ≤ gc ∧ gc ≤ maxLen ∧ g.length = gn ∧ Rd i64v w w.heap.size G g := by
  obtain ⟨a0, len, cap, rfl⟩ := okWide_slice Tryz.underlying25 hv
  obtain ⟨fuel, hf⟩ := h
  rcases open_ints Tryz.underlying25 Tryz.underlying3 (by kernel_rfl) hf with ⟨hcs, hx⟩ | ⟨a, len', cap', zs, hcs, _, hl, hm, hz, hx, hcell, hwz⟩
  · simp [Value.cells] at hcs
    obtain ⟨rfl, rfl, rfl⟩ := hcs
    exact ⟨none, 0, 0, [], rfl, Nat.le_refl _, by decide, rfl, fun h => absurd h (by simp)⟩
  · simp [Value.cells] at hcs
    obtain ⟨rfl, rfl, rfl⟩ := hcs
    simp only [if_true] at hz
    refine ⟨some a, len, cap, zs.take len, rfl, hl, hm, by rw [List.length_take]; omega, fun hpos => ?_⟩
    rw [List.length_take] at hpos
    obtain ⟨b, off, sp⟩ := a
    have hc0 := hcell 0 (by omega)
    have hsp : sp = none := by simpa [Addr.add] using World.cell?_spot hc0
    subst hsp
    refine ⟨b, off, rfl, ?_, fun i hi => ?_⟩
    · have := World.block_lt_of_cell? w _ hc0
      simpa [Addr.add] using this
    · rw [List.length_take] at hi
      have k := hcell i (by omega)
      rw [add_plain] at k
      rw [k, List.getElem_take]
      simp [List.getD, List.getElem?_eq_getElem (show i < zs.length by omega)]
end
end Go.Proofs.YtkamepalomkpbaaGreatDoor
