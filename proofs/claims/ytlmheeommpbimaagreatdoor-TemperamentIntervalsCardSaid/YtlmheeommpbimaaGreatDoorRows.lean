/-
  NARROWER THAN 'FOR EVERY INPUT', by the rows' own cells (each row's printed sentence says how): TemperamentRests: laid · TemperamentEqual: laid · TemperamentNamed: laid · TemperamentChecks: laid · TemperamentNotes: laid · TemperamentSame: laid · TemperamentIntervals: laid.
  DERIVED. THE GIVEN ROWS OF THIS SEAT. 7 by the template 'for every input the law returns true; each argument reads behind the call as it read before'; 0 by the template 'total and deterministic' (their statements: YtlmheeommpbimaaGreatDoorTotals.lean).
  GIVEN WITH THE SEED: the statements are not yours to turn. If you find one false, say at which input.
  Laid BY PROGRAM, IN A SANDBOX (cutbox-rows.mjs): the forced cells as the released guide's own fill.sh prints them over the translation 971e67bd3292b9dc… (all of the seat's roots in one cut). By AI agents, Wed Nov 11 2026. No macro, syntax, notation, axiom, sorry.
-/
import Derived.Test.YtlmheeommpbimaaGreatDoorChecked
import GoSem.Claim
import GoSem.ClaimJoined
import GoSem.ClaimMapViews
import Derived.JoinedTies
import Derived.KernelRfl
namespace Go.Proofs.YtlmheeommpbimaaGreatDoor
/- THE CELL 'sum', in the pinned program and in every row, IS THE sha256 OF THE DUMP (.gsa) THAT YtlmheeommpbimaaGreatDoorProg.lean LOADS. Nothing in Lean hashes anything: it is a label: what it is worth is what the hold of that sum in a sandbox is worth. -/
noncomputable def Tryz.pinned : Pinned := { name := "ytlmheeommpbimaagreatdoor", sum := "971e67bd3292b9dcfb023464888a6c02854c54c68afd39d75cd1b186e38b606a", checked := Tryz.checked }
namespace Rows
def none {H : Type} : Left H := { results := [], args := [] }

/- WHAT THE LISTED PACKAGE-LEVEL VARIABLES READ AS WHEN THE CALL BEGINS. Each datum BY PROGRAM (the guide's laid-datum.mjs) off the statement by which the dump's own 'gosem.cut.vars' lays the variable. In a bare row this is a premise. The card (YtlmheeommpbimaaGreatDoorCards.lean) ties it to the program's text. -/
def laid_math_bits_deBruijn32tab {H : Type} : DataW H := .agg [.lit (.int .u8 0), .lit (.int .u8 1), .lit (.int .u8 28), .lit (.int .u8 2), .lit (.int .u8 29), .lit (.int .u8 14), .lit (.int .u8 24), .lit (.int .u8 3), .lit (.int .u8 30), .lit (.int .u8 22), .lit (.int .u8 20), .lit (.int .u8 15), .lit (.int .u8 25), .lit (.int .u8 17), .lit (.int .u8 4), .lit (.int .u8 8), .lit (.int .u8 31), .lit (.int .u8 27), .lit (.int .u8 13), .lit (.int .u8 23), .lit (.int .u8 21), .lit (.int .u8 19), .lit (.int .u8 16), .lit (.int .u8 7), .lit (.int .u8 26), .lit (.int .u8 12), .lit (.int .u8 18), .lit (.int .u8 6), .lit (.int .u8 11), .lit (.int .u8 5), .lit (.int .u8 10), .lit (.int .u8 9)]
def laid_math_bits_deBruijn64tab {H : Type} : DataW H := .agg [.lit (.int .u8 0), .lit (.int .u8 1), .lit (.int .u8 56), .lit (.int .u8 2), .lit (.int .u8 57), .lit (.int .u8 49), .lit (.int .u8 28), .lit (.int .u8 3), .lit (.int .u8 61), .lit (.int .u8 58), .lit (.int .u8 42), .lit (.int .u8 50), .lit (.int .u8 38), .lit (.int .u8 29), .lit (.int .u8 17), .lit (.int .u8 4), .lit (.int .u8 62), .lit (.int .u8 47), .lit (.int .u8 59), .lit (.int .u8 36), .lit (.int .u8 45), .lit (.int .u8 43), .lit (.int .u8 51), .lit (.int .u8 22), .lit (.int .u8 53), .lit (.int .u8 39), .lit (.int .u8 33), .lit (.int .u8 30), .lit (.int .u8 24), .lit (.int .u8 18), .lit (.int .u8 12), .lit (.int .u8 5), .lit (.int .u8 63), .lit (.int .u8 55), .lit (.int .u8 48), .lit (.int .u8 27), .lit (.int .u8 60), .lit (.int .u8 41), .lit (.int .u8 37), .lit (.int .u8 16), .lit (.int .u8 46), .lit (.int .u8 35), .lit (.int .u8 44), .lit (.int .u8 21), .lit (.int .u8 52), .lit (.int .u8 32), .lit (.int .u8 23), .lit (.int .u8 11), .lit (.int .u8 54), .lit (.int .u8 26), .lit (.int .u8 40), .lit (.int .u8 15), .lit (.int .u8 34), .lit (.int .u8 20), .lit (.int .u8 31), .lit (.int .u8 10), .lit (.int .u8 25), .lit (.int .u8 14), .lit (.int .u8 19), .lit (.int .u8 9), .lit (.int .u8 13), .lit (.int .u8 8), .lit (.int .u8 7), .lit (.int .u8 6)]
def laid_internal_strconv_uint64pow10 {H : Type} : DataW H := .agg [.lit (.int .u64 1), .lit (.int .u64 10), .lit (.int .u64 100), .lit (.int .u64 1000), .lit (.int .u64 10000), .lit (.int .u64 100000), .lit (.int .u64 1000000), .lit (.int .u64 10000000), .lit (.int .u64 100000000), .lit (.int .u64 1000000000), .lit (.int .u64 10000000000), .lit (.int .u64 100000000000), .lit (.int .u64 1000000000000), .lit (.int .u64 10000000000000), .lit (.int .u64 100000000000000), .lit (.int .u64 1000000000000000), .lit (.int .u64 10000000000000000), .lit (.int .u64 100000000000000000), .lit (.int .u64 1000000000000000000), .lit (.int .u64 10000000000000000000)]
def laid_strconv_ErrRange {H : Type} : DataW H := .iface "*errors.errorString" (.ptr (.agg [.lit (.string [118, 97, 108, 117, 101, 32, 111, 117, 116, 32, 111, 102, 32, 114, 97, 110, 103, 101])]))
def laid_strconv_ErrSyntax {H : Type} : DataW H := .iface "*errors.errorString" (.ptr (.agg [.lit (.string [105, 110, 118, 97, 108, 105, 100, 32, 115, 121, 110, 116, 97, 120])]))

/-- 'bombardelaw41.TemperamentRests': WHATEVER THE INPUT: true; the input reads as it did. -/
def temperamentRestsSpec : ChangeSpec := { name := "temperamentRests", fn := fun _ => fun
  | [d1, d2] => { results := [.lit (.bool true)], args := [d1, d2] }
  | _ => none }
def temperamentRestsRow : OpenClaim := { program := "ytlmheeommpbimaagreatdoor", sum := "971e67bd3292b9dcfb023464888a6c02854c54c68afd39d75cd1b186e38b606a", func := "bombarde/bombardelaw41.TemperamentRests", spec := "temperamentRests", inPlace := ["internal/abi.NoEscape", "internal/bytealg.MakeNoZero", "internal/bytealg.abigen_runtime_cmpstring"], unfollowed := true, recurses := true, named := ["internal/strconv.uint64pow10", "math/bits.deBruijn32tab", "math/bits.deBruijn64tab"], apart := false, laid := [("math/bits.deBruijn32tab", laid_math_bits_deBruijn32tab), ("math/bits.deBruijn64tab", laid_math_bits_deBruijn64tab), ("internal/strconv.uint64pow10", laid_internal_strconv_uint64pow10)] }
def TemperamentRestsSaid : Prop := temperamentRestsRow.holds Tryz.pinned (OpenSpec.ofChange temperamentRestsSpec)

/-- ITS FALSE NEIGHBOUR: 'it returns false'. Refute it at one input. -/
def temperamentRestsWrong : ChangeSpec := { name := "temperamentRests", fn := fun _ => fun
  | [d1, d2] => { results := [.lit (.bool false)], args := [d1, d2] }
  | _ => none }
def TemperamentRestsWrongFalsely : Prop := temperamentRestsRow.holds Tryz.pinned (OpenSpec.ofChange temperamentRestsWrong)

/-- 'bombardelaw41.TemperamentEqual': WHATEVER THE INPUT: true; the input reads as it did. -/
def temperamentEqualSpec : ChangeSpec := { name := "temperamentEqual", fn := fun _ => fun
  | [d1, d2] => { results := [.lit (.bool true)], args := [d1, d2] }
  | _ => none }
def temperamentEqualRow : OpenClaim := { program := "ytlmheeommpbimaagreatdoor", sum := "971e67bd3292b9dcfb023464888a6c02854c54c68afd39d75cd1b186e38b606a", func := "bombarde/bombardelaw41.TemperamentEqual", spec := "temperamentEqual", inPlace := ["internal/abi.NoEscape", "internal/bytealg.MakeNoZero", "internal/bytealg.abigen_runtime_cmpstring"], unfollowed := true, recurses := true, named := ["internal/strconv.uint64pow10", "math/bits.deBruijn32tab", "math/bits.deBruijn64tab"], apart := false, laid := [("math/bits.deBruijn32tab", laid_math_bits_deBruijn32tab), ("math/bits.deBruijn64tab", laid_math_bits_deBruijn64tab), ("internal/strconv.uint64pow10", laid_internal_strconv_uint64pow10)] }
def TemperamentEqualSaid : Prop := temperamentEqualRow.holds Tryz.pinned (OpenSpec.ofChange temperamentEqualSpec)

/-- ITS FALSE NEIGHBOUR: 'it returns false'. Refute it at one input. -/
def temperamentEqualWrong : ChangeSpec := { name := "temperamentEqual", fn := fun _ => fun
  | [d1, d2] => { results := [.lit (.bool false)], args := [d1, d2] }
  | _ => none }
def TemperamentEqualWrongFalsely : Prop := temperamentEqualRow.holds Tryz.pinned (OpenSpec.ofChange temperamentEqualWrong)

/-- 'bombardelaw41.TemperamentNamed': WHATEVER THE INPUT: true; the input reads as it did. -/
def temperamentNamedSpec : ChangeSpec := { name := "temperamentNamed", fn := fun _ => fun
  | [d1, d2] => { results := [.lit (.bool true)], args := [d1, d2] }
  | _ => none }
def temperamentNamedRow : OpenClaim := { program := "ytlmheeommpbimaagreatdoor", sum := "971e67bd3292b9dcfb023464888a6c02854c54c68afd39d75cd1b186e38b606a", func := "bombarde/bombardelaw41.TemperamentNamed", spec := "temperamentNamed", inPlace := ["internal/abi.NoEscape", "internal/bytealg.MakeNoZero", "internal/bytealg.abigen_runtime_cmpstring"], unfollowed := true, recurses := true, named := ["internal/strconv.uint64pow10", "math/bits.deBruijn32tab", "math/bits.deBruijn64tab"], apart := false, laid := [("math/bits.deBruijn32tab", laid_math_bits_deBruijn32tab), ("math/bits.deBruijn64tab", laid_math_bits_deBruijn64tab), ("internal/strconv.uint64pow10", laid_internal_strconv_uint64pow10)] }
def TemperamentNamedSaid : Prop := temperamentNamedRow.holds Tryz.pinned (OpenSpec.ofChange temperamentNamedSpec)

/-- ITS FALSE NEIGHBOUR: 'it returns false'. Refute it at one input. -/
def temperamentNamedWrong : ChangeSpec := { name := "temperamentNamed", fn := fun _ => fun
  | [d1, d2] => { results := [.lit (.bool false)], args := [d1, d2] }
  | _ => none }
def TemperamentNamedWrongFalsely : Prop := temperamentNamedRow.holds Tryz.pinned (OpenSpec.ofChange temperamentNamedWrong)

/-- 'bombardelaw41.TemperamentChecks': WHATEVER THE INPUT: true; the input reads as it did. -/
def temperamentChecksSpec : ChangeSpec := { name := "temperamentChecks", fn := fun _ => fun
  | [d1, d2, d3] => { results := [.lit (.bool true)], args := [d1, d2, d3] }
  | _ => none }
def temperamentChecksRow : OpenClaim := { program := "ytlmheeommpbimaagreatdoor", sum := "971e67bd3292b9dcfb023464888a6c02854c54c68afd39d75cd1b186e38b606a", func := "bombarde/bombardelaw41.TemperamentChecks", spec := "temperamentChecks", inPlace := ["internal/abi.NoEscape", "internal/bytealg.MakeNoZero", "internal/bytealg.abigen_runtime_cmpstring"], unfollowed := true, recurses := true, named := ["internal/strconv.uint64pow10", "math/bits.deBruijn32tab", "math/bits.deBruijn64tab"], apart := false, laid := [("math/bits.deBruijn32tab", laid_math_bits_deBruijn32tab), ("math/bits.deBruijn64tab", laid_math_bits_deBruijn64tab), ("internal/strconv.uint64pow10", laid_internal_strconv_uint64pow10)] }
def TemperamentChecksSaid : Prop := temperamentChecksRow.holds Tryz.pinned (OpenSpec.ofChange temperamentChecksSpec)

/-- ITS FALSE NEIGHBOUR: 'it returns false'. Refute it at one input. -/
def temperamentChecksWrong : ChangeSpec := { name := "temperamentChecks", fn := fun _ => fun
  | [d1, d2, d3] => { results := [.lit (.bool false)], args := [d1, d2, d3] }
  | _ => none }
def TemperamentChecksWrongFalsely : Prop := temperamentChecksRow.holds Tryz.pinned (OpenSpec.ofChange temperamentChecksWrong)

/-- 'bombardelaw41.TemperamentNotes': WHATEVER THE INPUT: true; the input reads as it did. -/
def temperamentNotesSpec : ChangeSpec := { name := "temperamentNotes", fn := fun _ => fun
  | [d1, d2, d3] => { results := [.lit (.bool true)], args := [d1, d2, d3] }
  | _ => none }
def temperamentNotesRow : OpenClaim := { program := "ytlmheeommpbimaagreatdoor", sum := "971e67bd3292b9dcfb023464888a6c02854c54c68afd39d75cd1b186e38b606a", func := "bombarde/bombardelaw41.TemperamentNotes", spec := "temperamentNotes", inPlace := ["internal/abi.NoEscape", "internal/bytealg.MakeNoZero", "internal/bytealg.abigen_runtime_cmpstring"], unfollowed := true, recurses := true, named := ["internal/strconv.uint64pow10", "math/bits.deBruijn32tab", "math/bits.deBruijn64tab", "strconv.ErrSyntax", "strconv.ErrRange"], apart := false, laid := [("math/bits.deBruijn32tab", laid_math_bits_deBruijn32tab), ("math/bits.deBruijn64tab", laid_math_bits_deBruijn64tab), ("internal/strconv.uint64pow10", laid_internal_strconv_uint64pow10), ("strconv.ErrRange", laid_strconv_ErrRange), ("strconv.ErrSyntax", laid_strconv_ErrSyntax)] }
def TemperamentNotesSaid : Prop := temperamentNotesRow.holds Tryz.pinned (OpenSpec.ofChange temperamentNotesSpec)

/-- ITS FALSE NEIGHBOUR: 'it returns false'. Refute it at one input. -/
def temperamentNotesWrong : ChangeSpec := { name := "temperamentNotes", fn := fun _ => fun
  | [d1, d2, d3] => { results := [.lit (.bool false)], args := [d1, d2, d3] }
  | _ => none }
def TemperamentNotesWrongFalsely : Prop := temperamentNotesRow.holds Tryz.pinned (OpenSpec.ofChange temperamentNotesWrong)

/-- 'bombardelaw41.TemperamentSame': WHATEVER THE INPUT: true; the input reads as it did. -/
def temperamentSameSpec : ChangeSpec := { name := "temperamentSame", fn := fun _ => fun
  | [d1, d2] => { results := [.lit (.bool true)], args := [d1, d2] }
  | _ => none }
def temperamentSameRow : OpenClaim := { program := "ytlmheeommpbimaagreatdoor", sum := "971e67bd3292b9dcfb023464888a6c02854c54c68afd39d75cd1b186e38b606a", func := "bombarde/bombardelaw41.TemperamentSame", spec := "temperamentSame", inPlace := ["internal/abi.NoEscape", "internal/bytealg.MakeNoZero", "internal/bytealg.abigen_runtime_cmpstring"], unfollowed := true, recurses := true, named := ["internal/strconv.uint64pow10", "math/bits.deBruijn32tab", "math/bits.deBruijn64tab", "strconv.ErrSyntax", "strconv.ErrRange"], apart := false, laid := [("math/bits.deBruijn32tab", laid_math_bits_deBruijn32tab), ("math/bits.deBruijn64tab", laid_math_bits_deBruijn64tab), ("internal/strconv.uint64pow10", laid_internal_strconv_uint64pow10), ("strconv.ErrRange", laid_strconv_ErrRange), ("strconv.ErrSyntax", laid_strconv_ErrSyntax)] }
def TemperamentSameSaid : Prop := temperamentSameRow.holds Tryz.pinned (OpenSpec.ofChange temperamentSameSpec)

/-- ITS FALSE NEIGHBOUR: 'it returns false'. Refute it at one input. -/
def temperamentSameWrong : ChangeSpec := { name := "temperamentSame", fn := fun _ => fun
  | [d1, d2] => { results := [.lit (.bool false)], args := [d1, d2] }
  | _ => none }
def TemperamentSameWrongFalsely : Prop := temperamentSameRow.holds Tryz.pinned (OpenSpec.ofChange temperamentSameWrong)

/-- 'bombardelaw41.TemperamentIntervals': WHATEVER THE INPUT: true; the input reads as it did. -/
def temperamentIntervalsSpec : ChangeSpec := { name := "temperamentIntervals", fn := fun _ => fun
  | [d1, d2, d3] => { results := [.lit (.bool true)], args := [d1, d2, d3] }
  | _ => none }
def temperamentIntervalsRow : OpenClaim := { program := "ytlmheeommpbimaagreatdoor", sum := "971e67bd3292b9dcfb023464888a6c02854c54c68afd39d75cd1b186e38b606a", func := "bombarde/bombardelaw41.TemperamentIntervals", spec := "temperamentIntervals", inPlace := ["internal/abi.NoEscape", "internal/bytealg.MakeNoZero", "internal/bytealg.abigen_runtime_cmpstring"], unfollowed := true, recurses := true, named := ["internal/strconv.uint64pow10", "math/bits.deBruijn32tab", "math/bits.deBruijn64tab", "strconv.ErrSyntax", "strconv.ErrRange"], apart := false, laid := [("math/bits.deBruijn32tab", laid_math_bits_deBruijn32tab), ("math/bits.deBruijn64tab", laid_math_bits_deBruijn64tab), ("internal/strconv.uint64pow10", laid_internal_strconv_uint64pow10), ("strconv.ErrRange", laid_strconv_ErrRange), ("strconv.ErrSyntax", laid_strconv_ErrSyntax)] }
def TemperamentIntervalsSaid : Prop := temperamentIntervalsRow.holds Tryz.pinned (OpenSpec.ofChange temperamentIntervalsSpec)

/-- ITS FALSE NEIGHBOUR: 'it returns false'. Refute it at one input. -/
def temperamentIntervalsWrong : ChangeSpec := { name := "temperamentIntervals", fn := fun _ => fun
  | [d1, d2, d3] => { results := [.lit (.bool false)], args := [d1, d2, d3] }
  | _ => none }
def TemperamentIntervalsWrongFalsely : Prop := temperamentIntervalsRow.holds Tryz.pinned (OpenSpec.ofChange temperamentIntervalsWrong)

/- THE SECOND FORM. 'bulk': how many values and letters a reading holds, each counted each time it is reached (what is shared counts as often as it is met; a slice's spare places count too). A statement '..UptoSaid' is the law's where the arguments, and the package variables that the reading takes, are together of bulk at most 1048576: NARROWER than '..Said'. Prove '..Said' where nothing that the law and all that it calls make is longer than what came in: it says more and counts as full. Else prove '..UptoSaid'. A law counts once. -/
mutual
def uptoBulk {H : Type} : DataW H → Nat
  | .lit (.string bytes) => bytes.length + 1
  | .lit _ => 1
  | .nil => 1
  | .ptr d => uptoBulk d + 1
  | .slice elems spare => uptoBulkAll elems + uptoBulkAll spare + 1
  | .agg parts => uptoBulkAll parts + 1
  | .iface _ d => uptoBulk d + 1
  | .map entries => uptoBulkEntries entries + 1
  | .held _ => 1
def uptoBulkAll {H : Type} : List (DataW H) → Nat
  | [] => 0
  | d :: r => uptoBulk d + uptoBulkAll r
def uptoBulkEntries {H : Type} : List (Lit × DataW H) → Nat
  | [] => 0
  | x :: r => uptoBulkEntry x + uptoBulkEntries r
def uptoBulkEntry {H : Type} : Lit × DataW H → Nat
  | (.string bytes, d) => bytes.length + uptoBulk d + 1
  | (_, d) => uptoBulk d + 1
 end
def uptoSmall : (H : Type) → List (DataW H) → Bool := fun _ ds => decide (uptoBulkAll ds ≤ 1048576)
def OpenSpec.upto (s : _root_.Go.ChangeSpec) : _root_.Go.OpenSpec := { _root_.Go.OpenSpec.ofChange s with cond := some uptoSmall }

/-- 'bombardelaw41.TemperamentRests', WHERE WHAT IT READS IS OF BULK AT MOST 1048576: true; the input reads as it did. -/
def temperamentRestsUptoRow : OpenClaim := { program := "ytlmheeommpbimaagreatdoor", sum := "971e67bd3292b9dcfb023464888a6c02854c54c68afd39d75cd1b186e38b606a", func := "bombarde/bombardelaw41.TemperamentRests", spec := "temperamentRests", inPlace := ["internal/abi.NoEscape", "internal/bytealg.MakeNoZero", "internal/bytealg.abigen_runtime_cmpstring"], unfollowed := true, recurses := true, named := ["internal/strconv.uint64pow10", "math/bits.deBruijn32tab", "math/bits.deBruijn64tab"], apart := false, laid := [("math/bits.deBruijn32tab", laid_math_bits_deBruijn32tab), ("math/bits.deBruijn64tab", laid_math_bits_deBruijn64tab), ("internal/strconv.uint64pow10", laid_internal_strconv_uint64pow10)], narrowed := true }
def TemperamentRestsUptoSaid : Prop := temperamentRestsUptoRow.holds Tryz.pinned (OpenSpec.upto temperamentRestsSpec)

/-- 'bombardelaw41.TemperamentEqual', WHERE WHAT IT READS IS OF BULK AT MOST 1048576: true; the input reads as it did. -/
def temperamentEqualUptoRow : OpenClaim := { program := "ytlmheeommpbimaagreatdoor", sum := "971e67bd3292b9dcfb023464888a6c02854c54c68afd39d75cd1b186e38b606a", func := "bombarde/bombardelaw41.TemperamentEqual", spec := "temperamentEqual", inPlace := ["internal/abi.NoEscape", "internal/bytealg.MakeNoZero", "internal/bytealg.abigen_runtime_cmpstring"], unfollowed := true, recurses := true, named := ["internal/strconv.uint64pow10", "math/bits.deBruijn32tab", "math/bits.deBruijn64tab"], apart := false, laid := [("math/bits.deBruijn32tab", laid_math_bits_deBruijn32tab), ("math/bits.deBruijn64tab", laid_math_bits_deBruijn64tab), ("internal/strconv.uint64pow10", laid_internal_strconv_uint64pow10)], narrowed := true }
def TemperamentEqualUptoSaid : Prop := temperamentEqualUptoRow.holds Tryz.pinned (OpenSpec.upto temperamentEqualSpec)

/-- 'bombardelaw41.TemperamentNamed', WHERE WHAT IT READS IS OF BULK AT MOST 1048576: true; the input reads as it did. -/
def temperamentNamedUptoRow : OpenClaim := { program := "ytlmheeommpbimaagreatdoor", sum := "971e67bd3292b9dcfb023464888a6c02854c54c68afd39d75cd1b186e38b606a", func := "bombarde/bombardelaw41.TemperamentNamed", spec := "temperamentNamed", inPlace := ["internal/abi.NoEscape", "internal/bytealg.MakeNoZero", "internal/bytealg.abigen_runtime_cmpstring"], unfollowed := true, recurses := true, named := ["internal/strconv.uint64pow10", "math/bits.deBruijn32tab", "math/bits.deBruijn64tab"], apart := false, laid := [("math/bits.deBruijn32tab", laid_math_bits_deBruijn32tab), ("math/bits.deBruijn64tab", laid_math_bits_deBruijn64tab), ("internal/strconv.uint64pow10", laid_internal_strconv_uint64pow10)], narrowed := true }
def TemperamentNamedUptoSaid : Prop := temperamentNamedUptoRow.holds Tryz.pinned (OpenSpec.upto temperamentNamedSpec)

/-- 'bombardelaw41.TemperamentChecks', WHERE WHAT IT READS IS OF BULK AT MOST 1048576: true; the input reads as it did. -/
def temperamentChecksUptoRow : OpenClaim := { program := "ytlmheeommpbimaagreatdoor", sum := "971e67bd3292b9dcfb023464888a6c02854c54c68afd39d75cd1b186e38b606a", func := "bombarde/bombardelaw41.TemperamentChecks", spec := "temperamentChecks", inPlace := ["internal/abi.NoEscape", "internal/bytealg.MakeNoZero", "internal/bytealg.abigen_runtime_cmpstring"], unfollowed := true, recurses := true, named := ["internal/strconv.uint64pow10", "math/bits.deBruijn32tab", "math/bits.deBruijn64tab"], apart := false, laid := [("math/bits.deBruijn32tab", laid_math_bits_deBruijn32tab), ("math/bits.deBruijn64tab", laid_math_bits_deBruijn64tab), ("internal/strconv.uint64pow10", laid_internal_strconv_uint64pow10)], narrowed := true }
def TemperamentChecksUptoSaid : Prop := temperamentChecksUptoRow.holds Tryz.pinned (OpenSpec.upto temperamentChecksSpec)

/-- 'bombardelaw41.TemperamentNotes', WHERE WHAT IT READS IS OF BULK AT MOST 1048576: true; the input reads as it did. -/
def temperamentNotesUptoRow : OpenClaim := { program := "ytlmheeommpbimaagreatdoor", sum := "971e67bd3292b9dcfb023464888a6c02854c54c68afd39d75cd1b186e38b606a", func := "bombarde/bombardelaw41.TemperamentNotes", spec := "temperamentNotes", inPlace := ["internal/abi.NoEscape", "internal/bytealg.MakeNoZero", "internal/bytealg.abigen_runtime_cmpstring"], unfollowed := true, recurses := true, named := ["internal/strconv.uint64pow10", "math/bits.deBruijn32tab", "math/bits.deBruijn64tab", "strconv.ErrSyntax", "strconv.ErrRange"], apart := false, laid := [("math/bits.deBruijn32tab", laid_math_bits_deBruijn32tab), ("math/bits.deBruijn64tab", laid_math_bits_deBruijn64tab), ("internal/strconv.uint64pow10", laid_internal_strconv_uint64pow10), ("strconv.ErrRange", laid_strconv_ErrRange), ("strconv.ErrSyntax", laid_strconv_ErrSyntax)], narrowed := true }
def TemperamentNotesUptoSaid : Prop := temperamentNotesUptoRow.holds Tryz.pinned (OpenSpec.upto temperamentNotesSpec)

/-- 'bombardelaw41.TemperamentSame', WHERE WHAT IT READS IS OF BULK AT MOST 1048576: true; the input reads as it did. -/
def temperamentSameUptoRow : OpenClaim := { program := "ytlmheeommpbimaagreatdoor", sum := "971e67bd3292b9dcfb023464888a6c02854c54c68afd39d75cd1b186e38b606a", func := "bombarde/bombardelaw41.TemperamentSame", spec := "temperamentSame", inPlace := ["internal/abi.NoEscape", "internal/bytealg.MakeNoZero", "internal/bytealg.abigen_runtime_cmpstring"], unfollowed := true, recurses := true, named := ["internal/strconv.uint64pow10", "math/bits.deBruijn32tab", "math/bits.deBruijn64tab", "strconv.ErrSyntax", "strconv.ErrRange"], apart := false, laid := [("math/bits.deBruijn32tab", laid_math_bits_deBruijn32tab), ("math/bits.deBruijn64tab", laid_math_bits_deBruijn64tab), ("internal/strconv.uint64pow10", laid_internal_strconv_uint64pow10), ("strconv.ErrRange", laid_strconv_ErrRange), ("strconv.ErrSyntax", laid_strconv_ErrSyntax)], narrowed := true }
def TemperamentSameUptoSaid : Prop := temperamentSameUptoRow.holds Tryz.pinned (OpenSpec.upto temperamentSameSpec)

/-- 'bombardelaw41.TemperamentIntervals', WHERE WHAT IT READS IS OF BULK AT MOST 1048576: true; the input reads as it did. -/
def temperamentIntervalsUptoRow : OpenClaim := { program := "ytlmheeommpbimaagreatdoor", sum := "971e67bd3292b9dcfb023464888a6c02854c54c68afd39d75cd1b186e38b606a", func := "bombarde/bombardelaw41.TemperamentIntervals", spec := "temperamentIntervals", inPlace := ["internal/abi.NoEscape", "internal/bytealg.MakeNoZero", "internal/bytealg.abigen_runtime_cmpstring"], unfollowed := true, recurses := true, named := ["internal/strconv.uint64pow10", "math/bits.deBruijn32tab", "math/bits.deBruijn64tab", "strconv.ErrSyntax", "strconv.ErrRange"], apart := false, laid := [("math/bits.deBruijn32tab", laid_math_bits_deBruijn32tab), ("math/bits.deBruijn64tab", laid_math_bits_deBruijn64tab), ("internal/strconv.uint64pow10", laid_internal_strconv_uint64pow10), ("strconv.ErrRange", laid_strconv_ErrRange), ("strconv.ErrSyntax", laid_strconv_ErrSyntax)], narrowed := true }
def TemperamentIntervalsUptoSaid : Prop := temperamentIntervalsUptoRow.holds Tryz.pinned (OpenSpec.upto temperamentIntervalsSpec)

end Rows
end Go.Proofs.YtlmheeommpbimaaGreatDoor
