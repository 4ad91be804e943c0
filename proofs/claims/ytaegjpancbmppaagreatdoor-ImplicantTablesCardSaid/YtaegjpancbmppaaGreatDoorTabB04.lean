/- Part 4 of 33 of the proof of the law: contracts of the functions that it reaches, and plain facts. Conditions: those that each contract names. -/
import Derived.Test.YtaegjpancbmppaaGreatDoorRows
import Derived.Test.YtaegjpancbmppaaGreatDoorTie
import Derived.Test.YtaegjpancbmppaaGreatDoorCards
import Derived.Test.YtaegjpancbmppaaGreatDoorTabB03
import Derived.ProofKit
import Derived.ChangeSlices
import Derived.Deep.Slices
import Derived.ChangeSame
import Derived.Deep.Fields
import Derived.Deep.Strs
import Derived.LaidMore
import Derived.OpenShut
import Derived.Stop.Joined
import Derived.SevenTiedAt
import Derived.LaidSub
import Derived.Lib.SmallJoins
set_option linter.unusedVariables false
set_option linter.unusedSimpArgs false
namespace Go.Proofs.YtaegjpancbmppaaGreatDoor
open Go.ChangeShapes Go.WideShapes Go.ChangeAt Go.WideMaps Go.WideElems Go.RowKit Go.Joins
theorem frame_own : ownKnob Tryz.prog.godebug = none := by kernel_rfl
theorem post_below {H : Type} {enc : TypeId × Value → H} {P : Program} {f : Func} {s : ChangeSpec} {apart fresh handsOn : Bool} {W W' : World} {args : Array Value} {v : Value} {ds gs : List (DataW H)} {before pa pv : List MemPlace}
  (hW : DataW.Whole enc P f.params.toList s.vars apart W args.toList ds gs before) (hb : Below W.heap.size W W')
  (hres : ∀ (b : Nat) (sp : Nat → Bool) (hd : Bool), DataW.TrodAll enc P W' b sp hd f.resultTypes.toList (v.resultList f.resultTypes.size) (s.fn H (ds ++ gs)).results [])
  (hargs : DataW.TrodAll enc P W' 0 (fun b => decide (b < W.heap.size)) true f.params.toList args.toList (s.fn H (ds ++ gs)).args pa)
  (hvars : DataW.TrodVars enc P W' (fun b => decide (b < W.heap.size)) s.vars (s.fn H (ds ++ gs)).vars pv) :
  s.post enc P f apart fresh handsOn false W args v W' :=
 ⟨ds, gs, before, [], pa, pv, hW, hres _ _ _, hargs, hvars, hb.frame _, fun h => by cases h⟩
def laidList : List (String × DataW Unit) := [("math/bits.deBruijn32tab", Rows.laid_math_bits_deBruijn32tab), ("math/bits.deBruijn64tab", Rows.laid_math_bits_deBruijn64tab), ("internal/strconv.uint64pow10", Rows.laid_internal_strconv_uint64pow10)]
abbrev laidKindsHere : List LaidKind := [.data, .data, .data]
abbrev laidLooksHere : Bool := false
abbrev laidHarness : Bool × String := (true, "1c4533cc2189037f359d8b996309368d5cb7d9e7aaf98c242b7688feaf9e7890")
theorem tab_of_laid {W : World} (_ : laidMetH Tryz.prog laidList W) : True := trivial
theorem door_met (os : Os) (args : Array Value) : laidMetH Tryz.prog laidList ((World.doorLaid Tryz.prog 4000 os).forCall (fun _ _ => 0) ⟨#[], args, []⟩).memory :=
 laidMetH_of_parts3 (fuel := 8) (laidMet_of_run' 8 (by kernel_rfl) (by kernel_rfl)) (by kernel_rfl) (by kernel_rfl)
theorem kids_here : Kids Tryz.prog (· < Tryz.prog.types.size) := kids_rows (by kernel_rfl) (by kernel_rfl)
theorem full_here : ∀ t e, t < Tryz.prog.types.size → Tryz.prog.underlying t = some (.slice e) → 0 < Tryz.prog.cellsOf e := slices_full_of Tryz.prog (by kernel_rfl)
theorem trodAll_carry {H : Type} {enc : TypeId × Value → H} {P : Program} {w w' : World} {base : Nat} {sp : Nat → Bool} {held : Bool} : ∀ {ts : List TypeId} {vs : List Value} {ds : List (DataW H)} {ps : List MemPlace},
  DataW.TrodAll enc P w base sp held ts vs ds ps → (∀ p ∈ ps, w.sameAt w' p) → DataW.TrodAll enc P w' base sp held ts vs ds ps
 | [], [], [], _, h, _ => h
 | _ :: _, _ :: _, _ :: _, _, ⟨p, q, ⟨n, h⟩, hs, e⟩, hk => by
  subst e
  exact ⟨p, q, ⟨n, DataW.trod_carry n _ _ _ h (fun x hx => hk x (List.mem_append_left _ hx))⟩, trodAll_carry hs (fun x hx => hk x (List.mem_append_right _ hx)), rfl⟩
theorem args_again {H : Type} {enc : TypeId × Value → H} {W W' : World} {ts : List TypeId} {vs : List Value} {ds : List (DataW H)} {p : List MemPlace} (hts : ∀ t ∈ ts, t < Tryz.prog.types.size)
  (hA : DataW.TrodAll enc Tryz.prog W 0 (fun _ => true) true ts vs ds p) (hlt : ∀ x ∈ p, x.block < W.heap.size) (hb : Below W.heap.size W W') : DataW.TrodAll enc Tryz.prog W' 0 (fun b => decide (b < W.heap.size)) true ts vs ds p :=
 trodAll_carry (DataW.TrodAll.respare kids_here full_here hts hA (fun x hx => by simpa using hlt x hx)) (fun x hx => hb.same (hlt x hx))
#print axioms door_met
end Go.Proofs.YtaegjpancbmppaaGreatDoor
