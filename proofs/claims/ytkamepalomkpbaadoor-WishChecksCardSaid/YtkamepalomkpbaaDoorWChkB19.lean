/- Part 19 of 22 of the proof of the law: contracts of the functions that it reaches, and plain facts. Conditions: those that each contract names. -/
import Derived.Test.YtkamepalomkpbaaDoorWChkB07
import Derived.Test.YtkamepalomkpbaaDoorWChkB17
import Derived.Deep.Slices
import Derived.Deep.Fields
import Derived.ChangeSame
import Derived.ChangeSlices
import Derived.Test.YtkamepalomkpbaaDoorWChkB18
import Derived.Deep.Strs
namespace Go.Proofs.YtkamepalomkpbaaDoor
section
open Go.ChangeShapes Go.WideShapes Go.ChangeAt Go.WideMaps Go.WideElems Go.RowKit Go.Joins Go.Deep
set_option linter.unusedVariables false
section
variable {H : Type} {enc : TypeId × Value → H} {P : Program} {w : World} {base : Nat} {spare : Nat → Bool} {held : Bool}
end
theorem kids_here : Kids Tryd.prog (· < Tryd.prog.types.size) := kids_rows (by kernel_rfl) (by kernel_rfl)
theorem full_here : ∀ t e, t < Tryd.prog.types.size → Tryd.prog.underlying t = some (.slice e) → 0 < Tryd.prog.cellsOf e := slices_full_of Tryd.prog (by kernel_rfl)
theorem trodAll_carry {H : Type} {enc : TypeId × Value → H} {P : Program} {w w' : World} {base : Nat} {sp : Nat → Bool} {held : Bool} : ∀ {ts : List TypeId} {vs : List Value} {ds : List (DataW H)} {ps : List MemPlace},
    DataW.TrodAll enc P w base sp held ts vs ds ps → (∀ p ∈ ps, w.sameAt w' p) → DataW.TrodAll enc P w' base sp held ts vs ds ps
  | [], [], [], _, h, _ => h
  | _ :: _, _ :: _, _ :: _, _, ⟨p, q, ⟨n, h⟩, hs, e⟩, hk => by
    subst e
    exact ⟨p, q, ⟨n, DataW.trod_carry n _ _ _ h (fun x hx => hk x (List.mem_append_left _ hx))⟩, trodAll_carry hs (fun x hx => hk x (List.mem_append_right _ hx)), rfl⟩
theorem args_again {H : Type} {enc : TypeId × Value → H} {W W' : World} {ts : List TypeId} {vs : List Value} {ds : List (DataW H)} {p : List MemPlace} (hts : ∀ t ∈ ts, t < Tryd.prog.types.size)
    (hA : DataW.TrodAll enc Tryd.prog W 0 (fun _ => true) true ts vs ds p) (hlt : ∀ x ∈ p, x.block < W.heap.size) (hb : Below W.heap.size W W') : DataW.TrodAll enc Tryd.prog W' 0 (fun b => decide (b < W.heap.size)) true ts vs ds p :=
  trodAll_carry (DataW.TrodAll.respare kids_here full_here hts hA (fun x hx => by simpa using hlt x hx)) (fun x hx => hb.same (hlt x hx))
theorem add_plain (b off n : Nat) : (Addr.mk b off none).add n = ⟨b, off + n, none⟩ := by
  unfold Addr.add
  split
  · subst_vars; rfl
  · rfl
end
section
open Go.ChangeShapes Go.WideShapes Go.ChangeAt Go.WideMaps Go.WideElems Go.RowKit Go.Joins Go.Deep
set_option linter.unusedVariables false
end
end Go.Proofs.YtkamepalomkpbaaDoor
namespace Go.Proofs.YtkamepalomkpbaaDoor
open Go.ChangeShapes Go.WideShapes Go.ChangeAt Go.WideMaps Go.WideElems Go.RowKit Go.Joins Go.Deep
set_option linter.unusedVariables false
theorem i64_of37 {a : Int} (h : (Lit.int .i64 a).wf = true) : I64 a := by
  have h1 : IntKind.i64.min ≤ a ∧ a ≤ IntKind.i64.max := by simpa [Lit.wf] using h
  have e1 : IntKind.i64.min = -9223372036854775808 := by decide
  have e2 : IntKind.i64.max = 9223372036854775807 := by decide
  unfold I64
  omega
theorem take_one37 {l : List Value} {j : Nat} {v : Value} (h : (l.drop j).take 1 = [v]) : l[j]? = some v := by
  have : ((l.drop j).take 1)[0]? = some v := by rw [h]; rfl
  rw [List.getElem?_take_of_lt (by decide), List.getElem?_drop] at this
  simpa using this
theorem sub_at37 {l : List Value} {a b j : Nat} {v : Value} (h : ((l.drop a).take b)[j]? = some v) : l[a + j]? = some v := by
  rw [List.getElem?_take] at h
  split at h
  · rwa [List.getElem?_drop] at h
  · cases h
theorem two_ints {H : Type} {enc : TypeId × Value → H} {w : World} {base : Nat} {sp : Nat → Bool} {held : Bool} {n : Nat} {l : List Value} {t : TypeId} {f0 f1 : Field} {y : Option (DataW H × List MemPlace)} (ht : Tryd.prog.underlying t = some (.struct #[f0, f1])) (h0 : f0.type = 3 ∧ f0.offset = 0) (h1 : f1.type = 3 ∧ f1.offset = 1)
    (h : DataW.trod enc Tryd.prog w base sp held n t l = y) (hy : y.isSome = true) : ∃ a b : Int, l[0]? = some (.int .i64 a) ∧ l[1]? = some (.int .i64 b) ∧ I64 a ∧ I64 b := by
  obtain ⟨y, rfl⟩ := Option.isSome_iff_exists.1 hy
  obtain ⟨y0, y1, m, _, _, k0, k1⟩ := trod_struct2 ht h
  have hc : Tryd.prog.cellsOf 3 = 1 := by kernel_rfl
  rw [h0.1, h0.2, hc] at k0
  rw [h1.1, h1.2, hc] at k1
  obtain ⟨a, e0, _, wa⟩ := DataW.trod_int Tryd.underlying3 k0
  obtain ⟨b, e1, _, wb⟩ := DataW.trod_int Tryd.underlying3 k1
  exact ⟨a, b, take_one37 e0, take_one37 e1, i64_of37 wa, i64_of37 wb⟩
set_option maxRecDepth 100000 in
theorem wish_cells {H : Type} {enc : TypeId × Value → H} {w : World} {base : Nat} {sp : Nat → Bool} {held : Bool} {n : Nat} {l : List Value} {y : DataW H × List MemPlace}
    (h : DataW.trod enc Tryd.prog w base sp held n 48 l = some y) : ∃ x : Wsh, (∀ j, j < 7 → l[j]? = x.cells[j]?) ∧ I64 x.fn ∧ I64 x.fd ∧ x.nm.size ≤ maxLen ∧ x.tn.size ≤ maxLen := by
  obtain ⟨ys, m, _, _, _, hlen, hf⟩ := DataW.trod_struct Tryd.underlying48 h
  have hc : Tryd.prog.cellsOf 3 = 1 := by kernel_rfl
  have hcs : Tryd.prog.cellsOf 9 = 1 := by kernel_rfl
  have hcf : Tryd.prog.cellsOf 44 = 2 := by kernel_rfl
  have hck : Tryd.prog.cellsOf 46 = 2 := by kernel_rfl
  have k0 : DataW.trod enc Tryd.prog w base sp held m 9 ((l.drop 0).take (Tryd.prog.cellsOf 9)) = ys[0]? := hf 0 _ rfl
  have k1 : DataW.trod enc Tryd.prog w base sp held m 3 ((l.drop 1).take (Tryd.prog.cellsOf 3)) = ys[1]? := hf 1 _ rfl
  have k2 : DataW.trod enc Tryd.prog w base sp held m 9 ((l.drop 2).take (Tryd.prog.cellsOf 9)) = ys[2]? := hf 2 _ rfl
  have k3 : DataW.trod enc Tryd.prog w base sp held m 44 ((l.drop 3).take (Tryd.prog.cellsOf 44)) = ys[3]? := hf 3 _ rfl
  have k4 : DataW.trod enc Tryd.prog w base sp held m 46 ((l.drop 5).take (Tryd.prog.cellsOf 46)) = ys[4]? := hf 4 _ rfl
  have hs : ∀ j, j < 5 → ∃ z, ys[j]? = some z := fun j hj => ⟨_, List.getElem?_eq_getElem (show j < ys.length by rw [hlen]; exact hj)⟩
  obtain ⟨z0, e0⟩ := hs 0 (by decide)
  obtain ⟨z1, e1⟩ := hs 1 (by decide)
  obtain ⟨z2, e2⟩ := hs 2 (by decide)
  obtain ⟨z3, e3⟩ := hs 3 (by decide)
  obtain ⟨z4, e4⟩ := hs 4 (by decide)
  rw [e0] at k0
  rw [e1] at k1
  rw [e2] at k2
  rw [e3] at k3
  rw [e4] at k4
  rw [hcs] at k0 k2
  rw [hc] at k1
  rw [hcf] at k3
  rw [hck] at k4
  obtain ⟨s0, q0, _, b0⟩ := DataW.trod_string Tryd.underlying9 k0
  obtain ⟨dv, q1, _, w1⟩ := DataW.trod_int Tryd.underlying3 k1
  obtain ⟨s2, q2, _, b2⟩ := DataW.trod_string Tryd.underlying9 k2
  obtain ⟨fn, fd, q3, q4, i3, i4⟩ := two_ints Tryd.underlying44 ⟨rfl, rfl⟩ ⟨rfl, rfl⟩ k3 rfl
  obtain ⟨lo, hi, q5, q6, _, _⟩ := two_ints Tryd.underlying46 ⟨rfl, rfl⟩ ⟨rfl, rfl⟩ k4 rfl
  have q0 := take_one37 q0
  have q1 := take_one37 q1
  have q2 := take_one37 q2
  have q3 := sub_at37 q3
  have q4 := sub_at37 q4
  have q5 := sub_at37 q5
  have q6 := sub_at37 q6
  refine ⟨⟨s0, dv, s2, fn, fd, lo, hi⟩, fun j hj => ?_, i3, i4, b0, b2⟩
  match j, hj with
  | 0, _ => exact q0
  | 1, _ => exact q1
  | 2, _ => exact q2
  | 3, _ => exact q3
  | 4, _ => exact q4
  | 5, _ => exact q5
  | 6, _ => exact q6
set_option maxRecDepth 100000 in
theorem open_problem {H : Type} {enc : TypeId × Value → H} {w : World} {base' : Nat} {v : Value} {d : DataW H} {p : List MemPlace}
    (hv : Value.okWide Tryd.prog w .any base' 29 v) (h : DataW.Trod enc Tryd.prog w 0 (fun _ => true) true 29 v d p) :
    ∃ (A : Option Addr) (n cap : Nat) (B : Option Addr) (m c2 : Nat) (ws : List Wsh) (rules : List Int), v = .agg #[.slice A n cap, .slice B m c2] ∧ ws.length = n ∧ rules.length = m ∧ WRd w w.heap.size A ws ∧ Rd i64v w w.heap.size B rules ∧
      n ≤ cap ∧ m ≤ c2 ∧ cap ≤ maxLen ∧ c2 ≤ maxLen ∧ ∀ x ∈ ws, I64 x.fn ∧ I64 x.fd ∧ x.nm.size ≤ maxLen ∧ x.tn.size ≤ maxLen := by
  obtain ⟨c0, c1, y0, y1, m, rfl, rfl, rfl, hy0, hy1⟩ := open_agg2 Tryd.underlying29 (by kernel_rfl) (by kernel_rfl) hv h
  have hR : ∃ (B : Option Addr) (m c2 : Nat) (rules : List Int), c1 = .slice B m c2 ∧ rules.length = m ∧ Rd i64v w w.heap.size B rules ∧ m ≤ c2 ∧ c2 ≤ maxLen := by
    rcases open_ints Tryd.underlying27 Tryd.underlying3 (by kernel_rfl) hy1 with ⟨hcs, hx⟩ | ⟨a, len', cap', zs, hcs, _, hl, hm, hz, hx, hcell, hwz⟩
    · simp at hcs
      subst hcs
      exact ⟨none, 0, 0, [], rfl, rfl, fun h => absurd h (by simp), Nat.le_refl _, by decide⟩
    · simp at hcs
      subst hcs
      simp only [if_true] at hz
      refine ⟨some a, len', cap', zs.take len', rfl, by rw [List.length_take]; omega, fun hpos => ?_, hl, hm⟩
      rw [List.length_take] at hpos
      obtain ⟨b, off, sp⟩ := a
      have hc0 := hcell 0 (by omega)
      have hsp : sp = none := by simpa [Addr.add] using World.cell?_spot hc0
      subst hsp
      refine ⟨b, off, rfl, ?_, fun i hi => ?_⟩
      · have := World.block_lt_of_cell? w _ hc0
        simpa [Addr.add] using this
      · rw [List.length_take] at hi
        have k := hcell i (by omega)
        rw [add_plain] at k
        rw [k, List.getElem_take]
        simp [List.getD, List.getElem?_eq_getElem (show i < zs.length by omega)]
  obtain ⟨B, m2, c2, rules, rfl, hr1, hr2, hr3, hr4⟩ := hR
  have hC : Tryd.prog.cellsOf 48 = 7 := by kernel_rfl
  rcases open_slice Tryd.underlying26 hy0 with ⟨hc, hx⟩ | ⟨ad, len, cap, mm, n', D, Pl, hc, _, hlc, hcm, hmm, hx, hi⟩
  · simp at hc
    subst hc
    exact ⟨none, 0, 0, B, m2, c2, [], rules, rfl, rfl, hr1, WRd.nil, hr2, Nat.le_refl _, hr3, by decide, hr4, fun x h => by cases h⟩
  · simp at hc
    subst hc
    have hx7 : ∀ i, ∃ x : Wsh, i < len → (∀ j, j < 7 → w.cell? (ad.add (i * 7 + j)) = x.cells[j]?) ∧ I64 x.fn ∧ I64 x.fd ∧ x.nm.size ≤ maxLen ∧ x.tn.size ≤ maxLen := by
      intro i
      by_cases hil : i < len
      · obtain ⟨cs', hc', ht'⟩ := hi i (by rw [hmm]; simp; omega)
        rw [hC] at hc'
        obtain ⟨_, hcl, hat⟩ := World.cells?_some hc'
        obtain ⟨x, hx, hb⟩ := wish_cells ht'
        refine ⟨x, fun _ => ⟨fun j hj => ?_, hb⟩⟩
        rw [← hx j hj, ← hat j hj, Go.Deep.add_add]
      · exact ⟨dflt, fun h => absurd h hil⟩
    obtain ⟨X, hX⟩ := Classical.axiomOfChoice hx7
    refine ⟨some ad, len, cap, B, m2, c2, (List.range len).map X, rules, rfl, by simp, hr1, fun hl => ?_, hr2, hlc, hr3, hcm, hr4, fun x hx => ?_⟩
    · have hl' : 0 < len := by simpa using hl
      have h00 : w.cell? (ad.add (0 * 7 + 0)) = some (.string (X 0).nm) := (hX 0 hl').1 0 (by decide)
      have hsp : ad.spot = none := by simpa [Addr.add] using World.cell?_spot h00
      obtain ⟨b, off, sp⟩ := ad
      simp only at hsp
      subst hsp
      refine ⟨b, off, rfl, ?_, fun i hi => ?_⟩
      · have := World.block_lt_of_cell? w _ h00
        simpa [Addr.add] using this
      · have hil : i < len := by simpa using hi
        have e : ((List.range len).map X)[i] = X i := by simp
        rw [e]
        have k := (hX i hil).1
        simp only [add_plain] at k
        exact ⟨k 0 (by decide), k 1 (by decide), k 2 (by decide), k 3 (by decide), k 4 (by decide), k 5 (by decide), k 6 (by decide)⟩
    · obtain ⟨i, hi, rfl⟩ := List.mem_map.1 hx
      exact (hX i (List.mem_range.1 hi)).2
end Go.Proofs.YtkamepalomkpbaaDoor
