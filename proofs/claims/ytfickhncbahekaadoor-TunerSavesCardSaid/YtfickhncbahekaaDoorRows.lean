/-
  NARROWER THAN 'FOR EVERY INPUT', by the rows' own cells (each row's printed sentence says how): TunerLimits: laid · TunerPlans: laid · TunerTasks: laid · TunerChains: laid · TunerSaves: laid · TunerDrifts: laid · TunerChecks: laid.
  DERIVED. THE GIVEN ROWS OF THIS SEAT. 7 by the template 'for every input the law returns true; each argument reads behind the call as it read before'; 0 by the template 'total and deterministic' (their statements: YtfickhncbahekaaDoorTotals.lean).
  GIVEN WITH THE SEED: the statements are not yours to turn. If you find one false, say at which input.
  Laid BY PROGRAM, IN A SANDBOX (cutbox-rows.mjs): the forced cells as the released guide's own fill.sh prints them over the translation 90aa7cbb6fcaf1b4… (all of the seat's roots in one cut). By AI agents, Wed Nov 11 2026. No macro, syntax, notation, axiom, sorry.
-/
import Derived.Test.YtfickhncbahekaaDoorChecked
import GoSem.Claim
import GoSem.ClaimJoined
import GoSem.ClaimMapViews
import Derived.JoinedTies
import Derived.KernelRfl
namespace Go.Proofs.YtfickhncbahekaaDoor
/- THE CELL 'sum', in the pinned program and in every row, IS THE sha256 OF THE DUMP (.gsa) THAT YtfickhncbahekaaDoorProg.lean LOADS. Nothing in Lean hashes anything: it is a label: what it is worth is what the hold of that sum in a sandbox is worth. -/
noncomputable def Tryd.pinned : Pinned := { name := "ytfickhncbahekaadoor", sum := "90aa7cbb6fcaf1b4f612931efd13b9419fff66713aa65f0c76d8ea93d99cd404", checked := Tryd.checked }
namespace Rows
def none {H : Type} : Left H := { results := [], args := [] }

/- WHAT THE LISTED PACKAGE-LEVEL VARIABLES READ AS WHEN THE CALL BEGINS. Each datum BY PROGRAM (the guide's laid-datum.mjs) off the statement by which the dump's own 'gosem.cut.vars' lays the variable. In a bare row this is a premise. The card (YtfickhncbahekaaDoorCards.lean) ties it to the program's text. -/
def laid_math_bits_deBruijn64tab {H : Type} : DataW H := .agg [.lit (.int .u8 0), .lit (.int .u8 1), .lit (.int .u8 56), .lit (.int .u8 2), .lit (.int .u8 57), .lit (.int .u8 49), .lit (.int .u8 28), .lit (.int .u8 3), .lit (.int .u8 61), .lit (.int .u8 58), .lit (.int .u8 42), .lit (.int .u8 50), .lit (.int .u8 38), .lit (.int .u8 29), .lit (.int .u8 17), .lit (.int .u8 4), .lit (.int .u8 62), .lit (.int .u8 47), .lit (.int .u8 59), .lit (.int .u8 36), .lit (.int .u8 45), .lit (.int .u8 43), .lit (.int .u8 51), .lit (.int .u8 22), .lit (.int .u8 53), .lit (.int .u8 39), .lit (.int .u8 33), .lit (.int .u8 30), .lit (.int .u8 24), .lit (.int .u8 18), .lit (.int .u8 12), .lit (.int .u8 5), .lit (.int .u8 63), .lit (.int .u8 55), .lit (.int .u8 48), .lit (.int .u8 27), .lit (.int .u8 60), .lit (.int .u8 41), .lit (.int .u8 37), .lit (.int .u8 16), .lit (.int .u8 46), .lit (.int .u8 35), .lit (.int .u8 44), .lit (.int .u8 21), .lit (.int .u8 52), .lit (.int .u8 32), .lit (.int .u8 23), .lit (.int .u8 11), .lit (.int .u8 54), .lit (.int .u8 26), .lit (.int .u8 40), .lit (.int .u8 15), .lit (.int .u8 34), .lit (.int .u8 20), .lit (.int .u8 31), .lit (.int .u8 10), .lit (.int .u8 25), .lit (.int .u8 14), .lit (.int .u8 19), .lit (.int .u8 9), .lit (.int .u8 13), .lit (.int .u8 8), .lit (.int .u8 7), .lit (.int .u8 6)]

/-- 'bombardelaw43.TunerLimits': WHATEVER THE INPUT: true; the input reads as it did. -/
def tunerLimitsSpec : ChangeSpec := { name := "tunerLimits", fn := fun _ => fun
  | [d] => { results := [.lit (.bool true)], args := [d] }
  | _ => none }
def tunerLimitsRow : OpenClaim := { program := "ytfickhncbahekaadoor", sum := "90aa7cbb6fcaf1b4f612931efd13b9419fff66713aa65f0c76d8ea93d99cd404", func := "bombarde/bombardelaw43.TunerLimits", spec := "tunerLimits", unfollowed := true, recurses := true, named := ["math/bits.deBruijn64tab"], apart := false, laid := [("math/bits.deBruijn64tab", laid_math_bits_deBruijn64tab)] }
def TunerLimitsSaid : Prop := tunerLimitsRow.holds Tryd.pinned (OpenSpec.ofChange tunerLimitsSpec)

/-- ITS FALSE NEIGHBOUR: 'it returns false'. Refute it at one input. -/
def tunerLimitsWrong : ChangeSpec := { name := "tunerLimits", fn := fun _ => fun
  | [d] => { results := [.lit (.bool false)], args := [d] }
  | _ => none }
def TunerLimitsWrongFalsely : Prop := tunerLimitsRow.holds Tryd.pinned (OpenSpec.ofChange tunerLimitsWrong)

/-- 'bombardelaw43.TunerPlans': WHATEVER THE INPUT: true; the input reads as it did. -/
def tunerPlansSpec : ChangeSpec := { name := "tunerPlans", fn := fun _ => fun
  | [d1, d2] => { results := [.lit (.bool true)], args := [d1, d2] }
  | _ => none }
def tunerPlansRow : OpenClaim := { program := "ytfickhncbahekaadoor", sum := "90aa7cbb6fcaf1b4f612931efd13b9419fff66713aa65f0c76d8ea93d99cd404", func := "bombarde/bombardelaw43.TunerPlans", spec := "tunerPlans", unfollowed := true, recurses := true, named := ["math/bits.deBruijn64tab"], apart := false, laid := [("math/bits.deBruijn64tab", laid_math_bits_deBruijn64tab)] }
def TunerPlansSaid : Prop := tunerPlansRow.holds Tryd.pinned (OpenSpec.ofChange tunerPlansSpec)

/-- ITS FALSE NEIGHBOUR: 'it returns false'. Refute it at one input. -/
def tunerPlansWrong : ChangeSpec := { name := "tunerPlans", fn := fun _ => fun
  | [d1, d2] => { results := [.lit (.bool false)], args := [d1, d2] }
  | _ => none }
def TunerPlansWrongFalsely : Prop := tunerPlansRow.holds Tryd.pinned (OpenSpec.ofChange tunerPlansWrong)

/-- 'bombardelaw43.TunerTasks': WHATEVER THE INPUT: true; the input reads as it did. -/
def tunerTasksSpec : ChangeSpec := { name := "tunerTasks", fn := fun _ => fun
  | [d1, d2] => { results := [.lit (.bool true)], args := [d1, d2] }
  | _ => none }
def tunerTasksRow : OpenClaim := { program := "ytfickhncbahekaadoor", sum := "90aa7cbb6fcaf1b4f612931efd13b9419fff66713aa65f0c76d8ea93d99cd404", func := "bombarde/bombardelaw43.TunerTasks", spec := "tunerTasks", unfollowed := true, recurses := true, named := ["math/bits.deBruijn64tab"], apart := false, laid := [("math/bits.deBruijn64tab", laid_math_bits_deBruijn64tab)] }
def TunerTasksSaid : Prop := tunerTasksRow.holds Tryd.pinned (OpenSpec.ofChange tunerTasksSpec)

/-- ITS FALSE NEIGHBOUR: 'it returns false'. Refute it at one input. -/
def tunerTasksWrong : ChangeSpec := { name := "tunerTasks", fn := fun _ => fun
  | [d1, d2] => { results := [.lit (.bool false)], args := [d1, d2] }
  | _ => none }
def TunerTasksWrongFalsely : Prop := tunerTasksRow.holds Tryd.pinned (OpenSpec.ofChange tunerTasksWrong)

/-- 'bombardelaw43.TunerChains': WHATEVER THE INPUT: true; the input reads as it did. -/
def tunerChainsSpec : ChangeSpec := { name := "tunerChains", fn := fun _ => fun
  | [d1, d2] => { results := [.lit (.bool true)], args := [d1, d2] }
  | _ => none }
def tunerChainsRow : OpenClaim := { program := "ytfickhncbahekaadoor", sum := "90aa7cbb6fcaf1b4f612931efd13b9419fff66713aa65f0c76d8ea93d99cd404", func := "bombarde/bombardelaw43.TunerChains", spec := "tunerChains", unfollowed := true, recurses := true, named := ["math/bits.deBruijn64tab"], apart := false, laid := [("math/bits.deBruijn64tab", laid_math_bits_deBruijn64tab)] }
def TunerChainsSaid : Prop := tunerChainsRow.holds Tryd.pinned (OpenSpec.ofChange tunerChainsSpec)

/-- ITS FALSE NEIGHBOUR: 'it returns false'. Refute it at one input. -/
def tunerChainsWrong : ChangeSpec := { name := "tunerChains", fn := fun _ => fun
  | [d1, d2] => { results := [.lit (.bool false)], args := [d1, d2] }
  | _ => none }
def TunerChainsWrongFalsely : Prop := tunerChainsRow.holds Tryd.pinned (OpenSpec.ofChange tunerChainsWrong)

/-- 'bombardelaw43.TunerSaves': WHATEVER THE INPUT: true; the input reads as it did. -/
def tunerSavesSpec : ChangeSpec := { name := "tunerSaves", fn := fun _ => fun
  | [d] => { results := [.lit (.bool true)], args := [d] }
  | _ => none }
def tunerSavesRow : OpenClaim := { program := "ytfickhncbahekaadoor", sum := "90aa7cbb6fcaf1b4f612931efd13b9419fff66713aa65f0c76d8ea93d99cd404", func := "bombarde/bombardelaw43.TunerSaves", spec := "tunerSaves", unfollowed := true, recurses := true, named := ["math/bits.deBruijn64tab"], apart := false, laid := [("math/bits.deBruijn64tab", laid_math_bits_deBruijn64tab)] }
def TunerSavesSaid : Prop := tunerSavesRow.holds Tryd.pinned (OpenSpec.ofChange tunerSavesSpec)

/-- ITS FALSE NEIGHBOUR: 'it returns false'. Refute it at one input. -/
def tunerSavesWrong : ChangeSpec := { name := "tunerSaves", fn := fun _ => fun
  | [d] => { results := [.lit (.bool false)], args := [d] }
  | _ => none }
def TunerSavesWrongFalsely : Prop := tunerSavesRow.holds Tryd.pinned (OpenSpec.ofChange tunerSavesWrong)

/-- 'bombardelaw43.TunerDrifts': WHATEVER THE INPUT: true; the input reads as it did. -/
def tunerDriftsSpec : ChangeSpec := { name := "tunerDrifts", fn := fun _ => fun
  | [d] => { results := [.lit (.bool true)], args := [d] }
  | _ => none }
def tunerDriftsRow : OpenClaim := { program := "ytfickhncbahekaadoor", sum := "90aa7cbb6fcaf1b4f612931efd13b9419fff66713aa65f0c76d8ea93d99cd404", func := "bombarde/bombardelaw43.TunerDrifts", spec := "tunerDrifts", unfollowed := true, recurses := true, named := ["math/bits.deBruijn64tab"], apart := false, laid := [("math/bits.deBruijn64tab", laid_math_bits_deBruijn64tab)] }
def TunerDriftsSaid : Prop := tunerDriftsRow.holds Tryd.pinned (OpenSpec.ofChange tunerDriftsSpec)

/-- ITS FALSE NEIGHBOUR: 'it returns false'. Refute it at one input. -/
def tunerDriftsWrong : ChangeSpec := { name := "tunerDrifts", fn := fun _ => fun
  | [d] => { results := [.lit (.bool false)], args := [d] }
  | _ => none }
def TunerDriftsWrongFalsely : Prop := tunerDriftsRow.holds Tryd.pinned (OpenSpec.ofChange tunerDriftsWrong)

/-- 'bombardelaw43.TunerChecks': WHATEVER THE INPUT: true; the input reads as it did. -/
def tunerChecksSpec : ChangeSpec := { name := "tunerChecks", fn := fun _ => fun
  | [d] => { results := [.lit (.bool true)], args := [d] }
  | _ => none }
def tunerChecksRow : OpenClaim := { program := "ytfickhncbahekaadoor", sum := "90aa7cbb6fcaf1b4f612931efd13b9419fff66713aa65f0c76d8ea93d99cd404", func := "bombarde/bombardelaw43.TunerChecks", spec := "tunerChecks", unfollowed := true, recurses := true, named := ["math/bits.deBruijn64tab"], apart := false, laid := [("math/bits.deBruijn64tab", laid_math_bits_deBruijn64tab)] }
def TunerChecksSaid : Prop := tunerChecksRow.holds Tryd.pinned (OpenSpec.ofChange tunerChecksSpec)

/-- ITS FALSE NEIGHBOUR: 'it returns false'. Refute it at one input. -/
def tunerChecksWrong : ChangeSpec := { name := "tunerChecks", fn := fun _ => fun
  | [d] => { results := [.lit (.bool false)], args := [d] }
  | _ => none }
def TunerChecksWrongFalsely : Prop := tunerChecksRow.holds Tryd.pinned (OpenSpec.ofChange tunerChecksWrong)

/- THE SECOND FORM. 'bulk': how many values and letters a reading holds, each counted each time it is reached (what is shared counts as often as it is met; a slice's spare places count too). A statement '..UptoSaid' is the law's where the arguments, and the package variables that the reading takes, are together of bulk at most 1048576: NARROWER than '..Said'. Prove '..Said' where nothing that the law and all that it calls make is longer than what came in: it says more and counts as full. Else prove '..UptoSaid'. A law counts once. -/
mutual
def uptoBulk {H : Type} : DataW H → Nat
  | .lit (.string bytes) => bytes.length + 1
  | .lit _ => 1
  | .nil => 1
  | .ptr d => uptoBulk d + 1
  | .slice elems spare => uptoBulkAll elems + uptoBulkAll spare + 1
  | .agg parts => uptoBulkAll parts + 1
  | .iface _ d => uptoBulk d + 1
  | .map entries => uptoBulkEntries entries + 1
  | .held _ => 1
def uptoBulkAll {H : Type} : List (DataW H) → Nat
  | [] => 0
  | d :: r => uptoBulk d + uptoBulkAll r
def uptoBulkEntries {H : Type} : List (Lit × DataW H) → Nat
  | [] => 0
  | x :: r => uptoBulkEntry x + uptoBulkEntries r
def uptoBulkEntry {H : Type} : Lit × DataW H → Nat
  | (.string bytes, d) => bytes.length + uptoBulk d + 1
  | (_, d) => uptoBulk d + 1
 end
def uptoSmall : (H : Type) → List (DataW H) → Bool := fun _ ds => decide (uptoBulkAll ds ≤ 1048576)
def OpenSpec.upto (s : _root_.Go.ChangeSpec) : _root_.Go.OpenSpec := { _root_.Go.OpenSpec.ofChange s with cond := some uptoSmall }

/-- 'bombardelaw43.TunerLimits', WHERE WHAT IT READS IS OF BULK AT MOST 1048576: true; the input reads as it did. -/
def tunerLimitsUptoRow : OpenClaim := { program := "ytfickhncbahekaadoor", sum := "90aa7cbb6fcaf1b4f612931efd13b9419fff66713aa65f0c76d8ea93d99cd404", func := "bombarde/bombardelaw43.TunerLimits", spec := "tunerLimits", unfollowed := true, recurses := true, named := ["math/bits.deBruijn64tab"], apart := false, laid := [("math/bits.deBruijn64tab", laid_math_bits_deBruijn64tab)], narrowed := true }
def TunerLimitsUptoSaid : Prop := tunerLimitsUptoRow.holds Tryd.pinned (OpenSpec.upto tunerLimitsSpec)

/-- 'bombardelaw43.TunerPlans', WHERE WHAT IT READS IS OF BULK AT MOST 1048576: true; the input reads as it did. -/
def tunerPlansUptoRow : OpenClaim := { program := "ytfickhncbahekaadoor", sum := "90aa7cbb6fcaf1b4f612931efd13b9419fff66713aa65f0c76d8ea93d99cd404", func := "bombarde/bombardelaw43.TunerPlans", spec := "tunerPlans", unfollowed := true, recurses := true, named := ["math/bits.deBruijn64tab"], apart := false, laid := [("math/bits.deBruijn64tab", laid_math_bits_deBruijn64tab)], narrowed := true }
def TunerPlansUptoSaid : Prop := tunerPlansUptoRow.holds Tryd.pinned (OpenSpec.upto tunerPlansSpec)

/-- 'bombardelaw43.TunerTasks', WHERE WHAT IT READS IS OF BULK AT MOST 1048576: true; the input reads as it did. -/
def tunerTasksUptoRow : OpenClaim := { program := "ytfickhncbahekaadoor", sum := "90aa7cbb6fcaf1b4f612931efd13b9419fff66713aa65f0c76d8ea93d99cd404", func := "bombarde/bombardelaw43.TunerTasks", spec := "tunerTasks", unfollowed := true, recurses := true, named := ["math/bits.deBruijn64tab"], apart := false, laid := [("math/bits.deBruijn64tab", laid_math_bits_deBruijn64tab)], narrowed := true }
def TunerTasksUptoSaid : Prop := tunerTasksUptoRow.holds Tryd.pinned (OpenSpec.upto tunerTasksSpec)

/-- 'bombardelaw43.TunerChains', WHERE WHAT IT READS IS OF BULK AT MOST 1048576: true; the input reads as it did. -/
def tunerChainsUptoRow : OpenClaim := { program := "ytfickhncbahekaadoor", sum := "90aa7cbb6fcaf1b4f612931efd13b9419fff66713aa65f0c76d8ea93d99cd404", func := "bombarde/bombardelaw43.TunerChains", spec := "tunerChains", unfollowed := true, recurses := true, named := ["math/bits.deBruijn64tab"], apart := false, laid := [("math/bits.deBruijn64tab", laid_math_bits_deBruijn64tab)], narrowed := true }
def TunerChainsUptoSaid : Prop := tunerChainsUptoRow.holds Tryd.pinned (OpenSpec.upto tunerChainsSpec)

/-- 'bombardelaw43.TunerSaves', WHERE WHAT IT READS IS OF BULK AT MOST 1048576: true; the input reads as it did. -/
def tunerSavesUptoRow : OpenClaim := { program := "ytfickhncbahekaadoor", sum := "90aa7cbb6fcaf1b4f612931efd13b9419fff66713aa65f0c76d8ea93d99cd404", func := "bombarde/bombardelaw43.TunerSaves", spec := "tunerSaves", unfollowed := true, recurses := true, named := ["math/bits.deBruijn64tab"], apart := false, laid := [("math/bits.deBruijn64tab", laid_math_bits_deBruijn64tab)], narrowed := true }
def TunerSavesUptoSaid : Prop := tunerSavesUptoRow.holds Tryd.pinned (OpenSpec.upto tunerSavesSpec)

/-- 'bombardelaw43.TunerDrifts', WHERE WHAT IT READS IS OF BULK AT MOST 1048576: true; the input reads as it did. -/
def tunerDriftsUptoRow : OpenClaim := { program := "ytfickhncbahekaadoor", sum := "90aa7cbb6fcaf1b4f612931efd13b9419fff66713aa65f0c76d8ea93d99cd404", func := "bombarde/bombardelaw43.TunerDrifts", spec := "tunerDrifts", unfollowed := true, recurses := true, named := ["math/bits.deBruijn64tab"], apart := false, laid := [("math/bits.deBruijn64tab", laid_math_bits_deBruijn64tab)], narrowed := true }
def TunerDriftsUptoSaid : Prop := tunerDriftsUptoRow.holds Tryd.pinned (OpenSpec.upto tunerDriftsSpec)

/-- 'bombardelaw43.TunerChecks', WHERE WHAT IT READS IS OF BULK AT MOST 1048576: true; the input reads as it did. -/
def tunerChecksUptoRow : OpenClaim := { program := "ytfickhncbahekaadoor", sum := "90aa7cbb6fcaf1b4f612931efd13b9419fff66713aa65f0c76d8ea93d99cd404", func := "bombarde/bombardelaw43.TunerChecks", spec := "tunerChecks", unfollowed := true, recurses := true, named := ["math/bits.deBruijn64tab"], apart := false, laid := [("math/bits.deBruijn64tab", laid_math_bits_deBruijn64tab)], narrowed := true }
def TunerChecksUptoSaid : Prop := tunerChecksUptoRow.holds Tryd.pinned (OpenSpec.upto tunerChecksSpec)

end Rows
end Go.Proofs.YtfickhncbahekaaDoor
