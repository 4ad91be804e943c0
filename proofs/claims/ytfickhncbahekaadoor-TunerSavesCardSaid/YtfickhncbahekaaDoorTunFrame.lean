/- What every row of the tuner's seat needs of the frame: the library's table out of the row's own list, the row's promise out of 'below the call's heap nothing has changed'. Conditions: the row's own list of package-level variables. -/
import Derived.Test.YtfickhncbahekaaDoorRows
import Derived.Test.YtfickhncbahekaaDoorTie
import Derived.Test.YtfickhncbahekaaDoorCards
import Derived.Test.YtfickhncbahekaaDoorTz
import Derived.Test.YtfickhncbahekaaDoorRegI
import Derived.ProofKit
import Derived.LaidMore
import Derived.OpenShut
import Derived.Stop.Joined
import Derived.SevenTiedAt
import Derived.LaidSub
import Derived.Lib.SmallJoins
namespace Go.Proofs.YtfickhncbahekaaDoor
open Go.ChangeShapes Go.WideShapes Go.ChangeAt Go.WideMaps Go.WideElems Go.RowKit Go.Joins

theorem frame_own : ownKnob Tryd.prog.godebug = none := by kernel_rfl
theorem frame_out : laidOutB Tryd.prog = true := by kernel_rfl

/-- The row's promise, where below the call's own heap nothing has changed and nothing is asked again. -/
theorem post_below {H : Type} {enc : TypeId × Value → H} {P : Program} {f : Func} {s : ChangeSpec} {apart fresh handsOn : Bool} {W W' : World} {args : Array Value} {v : Value} {ds gs : List (DataW H)} {before pa pv : List MemPlace}
    (hW : DataW.Whole enc P f.params.toList s.vars apart W args.toList ds gs before) (hb : Below W.heap.size W W')
    (hres : ∀ (b : Nat) (sp : Nat → Bool) (hd : Bool), DataW.TrodAll enc P W' b sp hd f.resultTypes.toList (v.resultList f.resultTypes.size) (s.fn H (ds ++ gs)).results [])
    (hargs : DataW.TrodAll enc P W' 0 (fun b => decide (b < W.heap.size)) true f.params.toList args.toList (s.fn H (ds ++ gs)).args pa)
    (hvars : DataW.TrodVars enc P W' (fun b => decide (b < W.heap.size)) s.vars (s.fn H (ds ++ gs)).vars pv) :
    s.post enc P f apart fresh handsOn false W args v W' :=
  ⟨ds, gs, before, [], pa, pv, hW, hres _ _ _, hargs, hvars, hb.frame _, fun h => by cases h⟩

/-- The list of the row. -/
def laidList : List (String × DataW Unit) := [("math/bits.deBruijn64tab", Rows.laid_math_bits_deBruijn64tab)]

/-- The kinds of the list, and the harness that the cards name. -/
abbrev laidKindsHere : List LaidKind := [.data]
abbrev laidLooksHere : Bool := false
abbrev laidHarness : Bool × String := (true, "9172e041fa3cabe0223d1f979daaddfe973097af419d66809cb93f53be5a3232")

theorem dtab_of_laid {W : World} (h : laidMetH Tryd.prog laidList W) : DTab W := by
  rw [MakeChecks.laidMetH_plain _ _ _ (by kernel_rfl)] at h
  have h2 := h.filter (fun x => x.1 == "math/bits.deBruijn64tab")
  have e : (laidList.filter fun x => x.1 == "math/bits.deBruijn64tab") = [("math/bits.deBruijn64tab", Lib.tabData .u8 dbTab)] := by kernel_rfl
  rw [e] at h2
  exact Lib.tabIs_of_head (g := 0) (t := 155) (e := 5) (n := 64) (by kernel_rfl) (by kernel_rfl) Tryd.underlying155 Tryd.underlying5 (by kernel_rfl) (by kernel_rfl) h2

/-- The heap that the door's own run leaves meets the row's list. -/
theorem door_met (os : Os) (args : Array Value) : laidMetH Tryd.prog laidList ((World.doorLaid Tryd.prog 4000 os).forCall (fun _ _ => 0) ⟨#[], args, []⟩).memory :=
  laidMetH_of_parts3 (fuel := 8) (laidMet_of_run' 8 (by kernel_rfl) (by kernel_rfl)) (by kernel_rfl) (by kernel_rfl)

theorem u8_bnd {a : Int} (h : (Lit.int .u8 a).wf = true) : 0 ≤ a ∧ a ≤ 255 := by
  have h1 : IntKind.u8.min ≤ a ∧ a ≤ IntKind.u8.max := by simpa [Lit.wf] using h
  have e1 : IntKind.u8.min = 0 := by decide
  have e2 : IntKind.u8.max = 255 := by decide
  omega

#print axioms dtab_of_laid
#print axioms door_met
end Go.Proofs.YtfickhncbahekaaDoor
