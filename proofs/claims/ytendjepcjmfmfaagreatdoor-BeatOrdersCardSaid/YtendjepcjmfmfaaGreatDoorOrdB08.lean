/- Part 8 of 47 of the proof of the law: contracts of the functions that it reaches, and plain facts. Conditions: those that each contract names. -/
import Derived.Test.YtendjepcjmfmfaaGreatDoorRows
import Derived.Test.YtendjepcjmfmfaaGreatDoorTie
import Derived.Test.YtendjepcjmfmfaaGreatDoorCards
import Derived.Test.YtendjepcjmfmfaaGreatDoorOrdB04
import Derived.Test.YtendjepcjmfmfaaGreatDoorOrdB07
import Derived.ProofKit
import Derived.LaidMore
import Derived.OpenShut
import Derived.Stop.Joined
import Derived.SevenTiedAt
import Derived.LaidSub
import Derived.Lib.SmallJoins
import Derived.Deep.Strs
import Derived.Deep.Fields
import Derived.ChangeSame
import Derived.Deep.Slices
import Derived.ChangeSlices
namespace Go.Proofs.YtendjepcjmfmfaaGreatDoor
open Go.ChangeShapes Go.WideShapes Go.ChangeAt Go.WideMaps Go.WideElems Go.RowKit Go.Joins
theorem frame_own : ownKnob Tryz.prog.godebug = none := by kernel_rfl
theorem post_below {H : Type} {enc : TypeId × Value → H} {P : Program} {f : Func} {s : ChangeSpec} {apart fresh handsOn : Bool} {W W' : World} {args : Array Value} {v : Value} {ds gs : List (DataW H)} {before pa pv : List MemPlace}
  (hW : DataW.Whole enc P f.params.toList s.vars apart W args.toList ds gs before) (hb : Below W.heap.size W W')
  (hres : ∀ (b : Nat) (sp : Nat → Bool) (hd : Bool), DataW.TrodAll enc P W' b sp hd f.resultTypes.toList (v.resultList f.resultTypes.size) (s.fn H (ds ++ gs)).results [])
  (hargs : DataW.TrodAll enc P W' 0 (fun b => decide (b < W.heap.size)) true f.params.toList args.toList (s.fn H (ds ++ gs)).args pa)
  (hvars : DataW.TrodVars enc P W' (fun b => decide (b < W.heap.size)) s.vars (s.fn H (ds ++ gs)).vars pv) :
  s.post enc P f apart fresh handsOn false W args v W' :=
 ⟨ds, gs, before, [], pa, pv, hW, hres _ _ _, hargs, hvars, hb.frame _, fun h => by cases h⟩
def laidList : List (String × DataW Unit) := [("math/bits.deBruijn32tab", Rows.laid_math_bits_deBruijn32tab), ("math/bits.deBruijn64tab", Rows.laid_math_bits_deBruijn64tab), ("internal/strconv.uint64pow10", Rows.laid_internal_strconv_uint64pow10)]
abbrev laidKindsHere : List LaidKind := [.data, .data, .data]
abbrev laidLooksHere : Bool := false
abbrev laidHarness : Bool × String := (true, "926fc2ab661f039162938f19a47c0af912a764bd6dfd632659d388252cea7a9e")
theorem tab_of_laid {W : World} (h : laidMetH Tryz.prog laidList W) : Tab W := by
 rw [MakeChecks.laidMetH_plain _ _ _ (by kernel_rfl)] at h
 have h2 := h.filter (fun x => x.1 == "internal/strconv.uint64pow10")
 have e : (laidList.filter fun x => x.1 == "internal/strconv.uint64pow10") = [("internal/strconv.uint64pow10", Lib.tabData .u64 Lib.pow10Tab)] := by kernel_rfl
 rw [e] at h2
 exact Lib.tabIs_of_head (g := 1) (t := 250) (e := 145) (n := 20) (by kernel_rfl) (by kernel_rfl) Tryz.underlying250 Tryz.underlying145 (by kernel_rfl) (by kernel_rfl) h2
theorem door_met (os : Os) (args : Array Value) : laidMetH Tryz.prog laidList ((World.doorLaid Tryz.prog 4000 os).forCall (fun _ _ => 0) ⟨#[], args, []⟩).memory :=
 laidMetH_of_parts3 (fuel := 8) (laidMet_of_run' 8 (by kernel_rfl) (by kernel_rfl)) (by kernel_rfl) (by kernel_rfl)
#print axioms tab_of_laid
#print axioms door_met
end Go.Proofs.YtendjepcjmfmfaaGreatDoor
namespace Go.Proofs.YtendjepcjmfmfaaGreatDoor
open Go.ChangeShapes Go.WideShapes Go.ChangeAt Go.WideMaps Go.WideElems Go.RowKit Go.Joins Go.Deep
set_option linter.unusedVariables false
theorem kids_here : Kids Tryz.prog (· < Tryz.prog.types.size) := kids_rows (by kernel_rfl) (by kernel_rfl)
theorem full_here : ∀ t e, t < Tryz.prog.types.size → Tryz.prog.underlying t = some (.slice e) → 0 < Tryz.prog.cellsOf e := slices_full_of Tryz.prog (by kernel_rfl)
theorem trodAll_carry {H : Type} {enc : TypeId × Value → H} {P : Program} {w w' : World} {base : Nat} {sp : Nat → Bool} {held : Bool} : ∀ {ts : List TypeId} {vs : List Value} {ds : List (DataW H)} {ps : List MemPlace},
  DataW.TrodAll enc P w base sp held ts vs ds ps → (∀ p ∈ ps, w.sameAt w' p) → DataW.TrodAll enc P w' base sp held ts vs ds ps
 | [], [], [], _, h, _ => h
 | _ :: _, _ :: _, _ :: _, _, ⟨p, q, ⟨n, h⟩, hs, e⟩, hk => by
  subst e
  exact ⟨p, q, ⟨n, DataW.trod_carry n _ _ _ h (fun x hx => hk x (List.mem_append_left _ hx))⟩, trodAll_carry hs (fun x hx => hk x (List.mem_append_right _ hx)), rfl⟩
theorem args_again {H : Type} {enc : TypeId × Value → H} {W W' : World} {ts : List TypeId} {vs : List Value} {ds : List (DataW H)} {p : List MemPlace} (hts : ∀ t ∈ ts, t < Tryz.prog.types.size)
  (hA : DataW.TrodAll enc Tryz.prog W 0 (fun _ => true) true ts vs ds p) (hlt : ∀ x ∈ p, x.block < W.heap.size) (hb : Below W.heap.size W W') : DataW.TrodAll enc Tryz.prog W' 0 (fun b => decide (b < W.heap.size)) true ts vs ds p :=
 trodAll_carry (DataW.TrodAll.respare kids_here full_here hts hA (fun x hx => by simpa using hlt x hx)) (fun x hx => hb.same (hlt x hx))
theorem u8_bounds {a : Int} (h : (Lit.int .u8 a).wf = true) : 0 ≤ a ∧ a ≤ 255 := by
 have h1 : IntKind.u8.min ≤ a ∧ a ≤ IntKind.u8.max := by simpa [Lit.wf] using h
 have e1 : IntKind.u8.min = 0 := by decide
 have e2 : IntKind.u8.max = 255 := by decide
 omega
end Go.Proofs.YtendjepcjmfmfaaGreatDoor
namespace Go.Proofs.YtendjepcjmfmfaaGreatDoor
open Go.ChangeShapes Go.WideShapes Go.ChangeAt Go.WideMaps Go.WideElems Go.RowKit Go.Joins
set_option linter.unusedVariables false
theorem u16_bnd {n : Int} (h : (Lit.int .u16 n).wf = true) : 0 ≤ n ∧ n < 65536 := by
 simp [Lit.wf, IntKind.min, IntKind.max, IntKind.signed, IntKind.bits] at h
 omega
theorem u8_bnd42 {n : Int} (h : (Lit.int .u8 n).wf = true) : 0 ≤ n ∧ n < 256 := by
 simp [Lit.wf, IntKind.min, IntKind.max, IntKind.signed, IntKind.bits] at h
 omega
end Go.Proofs.YtendjepcjmfmfaaGreatDoor
