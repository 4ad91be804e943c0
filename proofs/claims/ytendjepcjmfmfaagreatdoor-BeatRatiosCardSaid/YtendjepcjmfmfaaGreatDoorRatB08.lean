/- Part 8 of 42 of the proof of the law: contracts of the functions that it reaches, and plain facts. Conditions: those that each contract names. -/
import Derived.Test.YtendjepcjmfmfaaGreatDoorRows
import Derived.Test.YtendjepcjmfmfaaGreatDoorTie
import Derived.Test.YtendjepcjmfmfaaGreatDoorCards
import Derived.Test.YtendjepcjmfmfaaGreatDoorRatB04
import Derived.Test.YtendjepcjmfmfaaGreatDoorRatB07
import Derived.ProofKit
import Derived.LaidMore
import Derived.OpenShut
import Derived.Stop.Joined
import Derived.SevenTiedAt
import Derived.LaidSub
import Derived.Lib.SmallJoins
import Derived.Deep.Strs
import Derived.Deep.Fields
import Derived.ChangeSame
import Derived.Deep.Slices
import Derived.ChangeSlices
import Derived.Laws.IdiomArrays
namespace Go.Proofs.YtendjepcjmfmfaaGreatDoor
open Go.ChangeShapes Go.WideShapes Go.ChangeAt Go.WideMaps Go.WideElems Go.RowKit Go.Joins
theorem frame_own : ownKnob Tryz.prog.godebug = none := by kernel_rfl
theorem post_below {H : Type} {enc : TypeId × Value → H} {P : Program} {f : Func} {s : ChangeSpec} {apart fresh handsOn : Bool} {W W' : World} {args : Array Value} {v : Value} {ds gs : List (DataW H)} {before pa pv : List MemPlace}
  (hW : DataW.Whole enc P f.params.toList s.vars apart W args.toList ds gs before) (hb : Below W.heap.size W W')
  (hres : ∀ (b : Nat) (sp : Nat → Bool) (hd : Bool), DataW.TrodAll enc P W' b sp hd f.resultTypes.toList (v.resultList f.resultTypes.size) (s.fn H (ds ++ gs)).results [])
  (hargs : DataW.TrodAll enc P W' 0 (fun b => decide (b < W.heap.size)) true f.params.toList args.toList (s.fn H (ds ++ gs)).args pa)
  (hvars : DataW.TrodVars enc P W' (fun b => decide (b < W.heap.size)) s.vars (s.fn H (ds ++ gs)).vars pv) :
  s.post enc P f apart fresh handsOn false W args v W' :=
 ⟨ds, gs, before, [], pa, pv, hW, hres _ _ _, hargs, hvars, hb.frame _, fun h => by cases h⟩
def laidList : List (String × DataW Unit) := [("math/bits.deBruijn32tab", Rows.laid_math_bits_deBruijn32tab), ("math/bits.deBruijn64tab", Rows.laid_math_bits_deBruijn64tab), ("internal/strconv.uint64pow10", Rows.laid_internal_strconv_uint64pow10)]
abbrev laidKindsHere : List LaidKind := [.data, .data, .data]
abbrev laidLooksHere : Bool := false
abbrev laidHarness : Bool × String := (true, "926fc2ab661f039162938f19a47c0af912a764bd6dfd632659d388252cea7a9e")
theorem tab_of_laid {W : World} (h : laidMetH Tryz.prog laidList W) : Tab W := by
 rw [MakeChecks.laidMetH_plain _ _ _ (by kernel_rfl)] at h
 have h2 := h.filter (fun x => x.1 == "internal/strconv.uint64pow10")
 have e : (laidList.filter fun x => x.1 == "internal/strconv.uint64pow10") = [("internal/strconv.uint64pow10", Lib.tabData .u64 Lib.pow10Tab)] := by kernel_rfl
 rw [e] at h2
 exact Lib.tabIs_of_head (g := 1) (t := 250) (e := 145) (n := 20) (by kernel_rfl) (by kernel_rfl) Tryz.underlying250 Tryz.underlying145 (by kernel_rfl) (by kernel_rfl) h2
theorem door_met (os : Os) (args : Array Value) : laidMetH Tryz.prog laidList ((World.doorLaid Tryz.prog 4000 os).forCall (fun _ _ => 0) ⟨#[], args, []⟩).memory :=
 laidMetH_of_parts3 (fuel := 8) (laidMet_of_run' 8 (by kernel_rfl) (by kernel_rfl)) (by kernel_rfl) (by kernel_rfl)
theorem i64_of {n : Int} (h : (Lit.int .i64 n).wf = true) : I64 n := bounds_i64 h
#print axioms tab_of_laid
#print axioms door_met
end Go.Proofs.YtendjepcjmfmfaaGreatDoor
namespace Go.Proofs.YtendjepcjmfmfaaGreatDoor
open Go.ChangeShapes Go.WideShapes Go.ChangeAt Go.WideMaps Go.WideElems Go.RowKit Go.Joins Go.Deep
set_option linter.unusedVariables false
theorem frac_cells {H : Type} {enc : TypeId × Value → H} {w : World} {base : Nat} {sp : Nat → Bool} {held : Bool} {n : Nat} {u v : Value} {y : DataW H × List MemPlace}
  (h : DataW.trod enc Tryz.prog w base sp held n 34 [u, v] = some y) : ∃ a b : Int, u = .int .i64 a ∧ v = .int .i64 b ∧ I64 a ∧ I64 b := by
 obtain ⟨y0, y1, m, _, _, h0, h1⟩ := trod_struct2 Tryz.underlying34 h
 have hc : Tryz.prog.cellsOf 3 = 1 := by kernel_rfl
 obtain ⟨a, e0, _, wa⟩ := DataW.trod_int Tryz.underlying3 h0
 obtain ⟨b, e1, _, wb⟩ := DataW.trod_int Tryz.underlying3 h1
 rw [hc] at e0 e1
 simp at e0 e1
 exact ⟨a, b, e0, e1, i64_of wa, i64_of wb⟩
theorem array6 {cs : Array Value} (h : cs.size = 6) : ∃ a b c d e f, cs = #[a, b, c, d, e, f] := by
 obtain ⟨l⟩ := cs
 match l, h with
 | [a, b, c, d, e, f], _ => exact ⟨a, b, c, d, e, f, rfl⟩
set_option maxRecDepth 100000 in
theorem open_size {H : Type} {enc : TypeId × Value → H} {w : World} {base base' : Nat} {sp : Nat → Bool} {held : Bool} {v : Value} {d : DataW H} {p : List MemPlace}
  (hv : Value.okWide Tryz.prog w .any base' 49 v) (h : DataW.Trod enc Tryz.prog w base sp held 49 v d p) :
  ∃ a0 b0 a1 b1 a2 b2 : Int, v = .agg #[.int .i64 a0, .int .i64 b0, .int .i64 a1, .int .i64 b1, .int .i64 a2, .int .i64 b2] ∧ ((I64 a0 ∧ I64 b0) ∧ (I64 a1 ∧ I64 b1) ∧ I64 a2 ∧ I64 b2) := by
 obtain ⟨cs, rfl, hsz⟩ := okWide_struct Tryz.underlying49 hv
 have h6 : cs.size = 6 := hsz.trans (by kernel_rfl)
 obtain ⟨c0, c1, c2, c3, c4, c5, rfl⟩ := array6 h6
 obtain ⟨fuel, hf⟩ := h
 obtain ⟨y0, y1, y2, n, _, _, h0, h1, h2⟩ := trod_struct3 Tryz.underlying49 hf
 have hc : Tryz.prog.cellsOf 34 = 2 := by kernel_rfl
 rw [hc] at h0 h1 h2
 simp [Value.cells] at h0 h1 h2
 obtain ⟨a0, b0, rfl, rfl, i0, j0⟩ := frac_cells h0
 obtain ⟨a1, b1, rfl, rfl, i1, j1⟩ := frac_cells h1
 obtain ⟨a2, b2, rfl, rfl, i2, j2⟩ := frac_cells h2
 exact ⟨a0, b0, a1, b1, a2, b2, rfl, ⟨i0, j0⟩, ⟨i1, j1⟩, i2, j2⟩
theorem kids_here : Kids Tryz.prog (· < Tryz.prog.types.size) := kids_rows (by kernel_rfl) (by kernel_rfl)
theorem full_here : ∀ t e, t < Tryz.prog.types.size → Tryz.prog.underlying t = some (.slice e) → 0 < Tryz.prog.cellsOf e := slices_full_of Tryz.prog (by kernel_rfl)
theorem trodAll_carry {H : Type} {enc : TypeId × Value → H} {P : Program} {w w' : World} {base : Nat} {sp : Nat → Bool} {held : Bool} : ∀ {ts : List TypeId} {vs : List Value} {ds : List (DataW H)} {ps : List MemPlace},
  DataW.TrodAll enc P w base sp held ts vs ds ps → (∀ p ∈ ps, w.sameAt w' p) → DataW.TrodAll enc P w' base sp held ts vs ds ps
 | [], [], [], _, h, _ => h
 | _ :: _, _ :: _, _ :: _, _, ⟨p, q, ⟨n, h⟩, hs, e⟩, hk => by
  subst e
  exact ⟨p, q, ⟨n, DataW.trod_carry n _ _ _ h (fun x hx => hk x (List.mem_append_left _ hx))⟩, trodAll_carry hs (fun x hx => hk x (List.mem_append_right _ hx)), rfl⟩
theorem args_again {H : Type} {enc : TypeId × Value → H} {W W' : World} {ts : List TypeId} {vs : List Value} {ds : List (DataW H)} {p : List MemPlace} (hts : ∀ t ∈ ts, t < Tryz.prog.types.size)
  (hA : DataW.TrodAll enc Tryz.prog W 0 (fun _ => true) true ts vs ds p) (hlt : ∀ x ∈ p, x.block < W.heap.size) (hb : Below W.heap.size W W') : DataW.TrodAll enc Tryz.prog W' 0 (fun b => decide (b < W.heap.size)) true ts vs ds p :=
 trodAll_carry (DataW.TrodAll.respare kids_here full_here hts hA (fun x hx => by simpa using hlt x hx)) (fun x hx => hb.same (hlt x hx))
theorem u8_bounds {a : Int} (h : (Lit.int .u8 a).wf = true) : 0 ≤ a ∧ a ≤ 255 := by
 have h1 : IntKind.u8.min ≤ a ∧ a ≤ IntKind.u8.max := by simpa [Lit.wf] using h
 have e1 : IntKind.u8.min = 0 := by decide
 have e2 : IntKind.u8.max = 255 := by decide
 omega
end Go.Proofs.YtendjepcjmfmfaaGreatDoor
namespace Go.Proofs.YtendjepcjmfmfaaGreatDoor
section
open Go.ChangeShapes Go.WideShapes Go.ChangeAt Go.WideMaps Go.WideElems Go.RowKit Go.Joins Go.Deep
set_option linter.unusedVariables false
theorem int_cell {H : Type} {enc : TypeId × Value → H} {P : Program} {w : World} {base : Nat} {sp : Nat → Bool} {held : Bool} {n : Nat} {t : TypeId} {k : IntKind} {c : Value} {x : DataW H × List MemPlace} (ht : P.underlying t = some (.int k))
  (h : DataW.trod enc P w base sp held n t [c] = some x) : ∃ a, c = .int k a ∧ (Lit.int k a).wf = true := by
 obtain ⟨a, e, _, wa⟩ := DataW.trod_int ht h
 exact ⟨a, by simpa using e, wa⟩
theorem i8_bounds {a : Int} (h : (Lit.int .i8 a).wf = true) : -128 ≤ a ∧ a ≤ 127 := bounds_i8 h
end
section
open Go.ChangeShapes Go.WideShapes Go.ChangeAt Go.WideMaps Go.WideElems Go.RowKit Go.Joins Go.Deep
set_option linter.unusedVariables false
set_option maxRecDepth 100000 in
theorem open_plan5 {H : Type} {enc : TypeId × Value → H} {w : World} {base base' : Nat} {sp : Nat → Bool} {held : Bool} {v : Value} {d : DataW H} {p : List MemPlace}
  (hv : Value.okWide Tryz.prog w .any base' 47 v) (h : DataW.Trod enc Tryz.prog w base sp held 47 v d p) :
  ∃ a b c e : Int, v = .agg #[.int .i8 a, .int .i8 b, .int .i8 c, .int .u8 e] ∧ (-128 ≤ a ∧ a ≤ 127) ∧ (-128 ≤ b ∧ b ≤ 127) ∧ (-128 ≤ c ∧ c ≤ 127) ∧ 0 ≤ e ∧ e ≤ 255 := by
 obtain ⟨cs, rfl, hsz⟩ := okWide_struct Tryz.underlying47 hv
 have h4 : cs.size = 4 := hsz.trans (by kernel_rfl)
 obtain ⟨l⟩ := cs
 match l, h4 with
 | [c0, c1, c2, c3], _ =>
  obtain ⟨fuel, hf⟩ := h
  obtain ⟨y0, y1, n, _, _, h0, h1⟩ := trod_struct2 Tryz.underlying47 hf
  have hc : Tryz.prog.cellsOf 45 = 3 := by kernel_rfl
  have hc1 : Tryz.prog.cellsOf 5 = 1 := by kernel_rfl
  dsimp only at h0 h1
  rw [hc] at h0
  rw [hc1] at h1
  simp [Value.cells] at h0 h1
  obtain ⟨z0, z1, z2, m, _, k0, k1, k2⟩ := trod_array3 Tryz.underlying45 (by kernel_rfl) h0
  obtain ⟨a, rfl, wa⟩ := int_cell Tryz.underlying22 k0
  obtain ⟨b, rfl, wb⟩ := int_cell Tryz.underlying22 k1
  obtain ⟨c, rfl, wc⟩ := int_cell Tryz.underlying22 k2
  obtain ⟨e, rfl, we⟩ := int_cell Tryz.underlying5 h1
  exact ⟨a, b, c, e, rfl, i8_bounds wa, i8_bounds wb, i8_bounds wc, u8_bounds we⟩
end
end Go.Proofs.YtendjepcjmfmfaaGreatDoor
