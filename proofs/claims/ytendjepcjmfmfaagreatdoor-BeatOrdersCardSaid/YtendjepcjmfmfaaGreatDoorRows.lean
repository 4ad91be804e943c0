/-
  NARROWER THAN 'FOR EVERY INPUT', by the rows' own cells (each row's printed sentence says how): BeatPartials: laid · BeatRatios: laid · BeatFrequencies: laid · BeatBounds: laid · BeatCompares: laid · BeatEqual: laid · BeatOrders: laid · BeatErrors: laid.
  DERIVED. THE GIVEN ROWS OF THIS SEAT. 8 by the template 'for every input the law returns true; each argument reads behind the call as it read before'; 0 by the template 'total and deterministic' (their statements: YtendjepcjmfmfaaGreatDoorTotals.lean).
  GIVEN WITH THE SEED: the statements are not yours to turn. If you find one false, say at which input.
  Laid BY PROGRAM, IN A SANDBOX (cutbox-rows.mjs): the forced cells as the released guide's own fill.sh prints them over the translation 55348abec616092f… (all of the seat's roots in one cut). By AI agents, Wed Nov 11 2026. No macro, syntax, notation, axiom, sorry.
-/
import Derived.Test.YtendjepcjmfmfaaGreatDoorChecked
import GoSem.Claim
import GoSem.ClaimJoined
import GoSem.ClaimMapViews
import Derived.JoinedTies
import Derived.KernelRfl
namespace Go.Proofs.YtendjepcjmfmfaaGreatDoor
/- THE CELL 'sum', in the pinned program and in every row, IS THE sha256 OF THE DUMP (.gsa) THAT YtendjepcjmfmfaaGreatDoorProg.lean LOADS. Nothing in Lean hashes anything: it is a label: what it is worth is what the hold of that sum in a sandbox is worth. -/
noncomputable def Tryz.pinned : Pinned := { name := "ytendjepcjmfmfaagreatdoor", sum := "55348abec616092f94fa5961610be86b35f724a35c1ef99de4ef3e04cd4c56c8", checked := Tryz.checked }
namespace Rows
def none {H : Type} : Left H := { results := [], args := [] }

/- WHAT THE LISTED PACKAGE-LEVEL VARIABLES READ AS WHEN THE CALL BEGINS. Each datum BY PROGRAM (the guide's laid-datum.mjs) off the statement by which the dump's own 'gosem.cut.vars' lays the variable. In a bare row this is a premise. The card (YtendjepcjmfmfaaGreatDoorCards.lean) ties it to the program's text. -/
def laid_math_bits_deBruijn32tab {H : Type} : DataW H := .agg [.lit (.int .u8 0), .lit (.int .u8 1), .lit (.int .u8 28), .lit (.int .u8 2), .lit (.int .u8 29), .lit (.int .u8 14), .lit (.int .u8 24), .lit (.int .u8 3), .lit (.int .u8 30), .lit (.int .u8 22), .lit (.int .u8 20), .lit (.int .u8 15), .lit (.int .u8 25), .lit (.int .u8 17), .lit (.int .u8 4), .lit (.int .u8 8), .lit (.int .u8 31), .lit (.int .u8 27), .lit (.int .u8 13), .lit (.int .u8 23), .lit (.int .u8 21), .lit (.int .u8 19), .lit (.int .u8 16), .lit (.int .u8 7), .lit (.int .u8 26), .lit (.int .u8 12), .lit (.int .u8 18), .lit (.int .u8 6), .lit (.int .u8 11), .lit (.int .u8 5), .lit (.int .u8 10), .lit (.int .u8 9)]
def laid_math_bits_deBruijn64tab {H : Type} : DataW H := .agg [.lit (.int .u8 0), .lit (.int .u8 1), .lit (.int .u8 56), .lit (.int .u8 2), .lit (.int .u8 57), .lit (.int .u8 49), .lit (.int .u8 28), .lit (.int .u8 3), .lit (.int .u8 61), .lit (.int .u8 58), .lit (.int .u8 42), .lit (.int .u8 50), .lit (.int .u8 38), .lit (.int .u8 29), .lit (.int .u8 17), .lit (.int .u8 4), .lit (.int .u8 62), .lit (.int .u8 47), .lit (.int .u8 59), .lit (.int .u8 36), .lit (.int .u8 45), .lit (.int .u8 43), .lit (.int .u8 51), .lit (.int .u8 22), .lit (.int .u8 53), .lit (.int .u8 39), .lit (.int .u8 33), .lit (.int .u8 30), .lit (.int .u8 24), .lit (.int .u8 18), .lit (.int .u8 12), .lit (.int .u8 5), .lit (.int .u8 63), .lit (.int .u8 55), .lit (.int .u8 48), .lit (.int .u8 27), .lit (.int .u8 60), .lit (.int .u8 41), .lit (.int .u8 37), .lit (.int .u8 16), .lit (.int .u8 46), .lit (.int .u8 35), .lit (.int .u8 44), .lit (.int .u8 21), .lit (.int .u8 52), .lit (.int .u8 32), .lit (.int .u8 23), .lit (.int .u8 11), .lit (.int .u8 54), .lit (.int .u8 26), .lit (.int .u8 40), .lit (.int .u8 15), .lit (.int .u8 34), .lit (.int .u8 20), .lit (.int .u8 31), .lit (.int .u8 10), .lit (.int .u8 25), .lit (.int .u8 14), .lit (.int .u8 19), .lit (.int .u8 9), .lit (.int .u8 13), .lit (.int .u8 8), .lit (.int .u8 7), .lit (.int .u8 6)]
def laid_internal_strconv_uint64pow10 {H : Type} : DataW H := .agg [.lit (.int .u64 1), .lit (.int .u64 10), .lit (.int .u64 100), .lit (.int .u64 1000), .lit (.int .u64 10000), .lit (.int .u64 100000), .lit (.int .u64 1000000), .lit (.int .u64 10000000), .lit (.int .u64 100000000), .lit (.int .u64 1000000000), .lit (.int .u64 10000000000), .lit (.int .u64 100000000000), .lit (.int .u64 1000000000000), .lit (.int .u64 10000000000000), .lit (.int .u64 100000000000000), .lit (.int .u64 1000000000000000), .lit (.int .u64 10000000000000000), .lit (.int .u64 100000000000000000), .lit (.int .u64 1000000000000000000), .lit (.int .u64 10000000000000000000)]

/-- 'bombardelaw42.BeatPartials': WHATEVER THE INPUT: true; the input reads as it did. -/
def beatPartialsSpec : ChangeSpec := { name := "beatPartials", fn := fun _ => fun
  | [d1, d2, d3] => { results := [.lit (.bool true)], args := [d1, d2, d3] }
  | _ => none }
def beatPartialsRow : OpenClaim := { program := "ytendjepcjmfmfaagreatdoor", sum := "55348abec616092f94fa5961610be86b35f724a35c1ef99de4ef3e04cd4c56c8", func := "bombarde/bombardelaw42.BeatPartials", spec := "beatPartials", inPlace := ["internal/abi.NoEscape", "internal/bytealg.MakeNoZero", "internal/bytealg.abigen_runtime_cmpstring"], unfollowed := true, recurses := true, named := ["internal/strconv.uint64pow10", "math/bits.deBruijn32tab", "math/bits.deBruijn64tab"], apart := false, laid := [("math/bits.deBruijn32tab", laid_math_bits_deBruijn32tab), ("math/bits.deBruijn64tab", laid_math_bits_deBruijn64tab), ("internal/strconv.uint64pow10", laid_internal_strconv_uint64pow10)] }
def BeatPartialsSaid : Prop := beatPartialsRow.holds Tryz.pinned (OpenSpec.ofChange beatPartialsSpec)

/-- ITS FALSE NEIGHBOUR: 'it returns false'. Refute it at one input. -/
def beatPartialsWrong : ChangeSpec := { name := "beatPartials", fn := fun _ => fun
  | [d1, d2, d3] => { results := [.lit (.bool false)], args := [d1, d2, d3] }
  | _ => none }
def BeatPartialsWrongFalsely : Prop := beatPartialsRow.holds Tryz.pinned (OpenSpec.ofChange beatPartialsWrong)

/-- 'bombardelaw42.BeatRatios': WHATEVER THE INPUT: true; the input reads as it did. -/
def beatRatiosSpec : ChangeSpec := { name := "beatRatios", fn := fun _ => fun
  | [d1, d2] => { results := [.lit (.bool true)], args := [d1, d2] }
  | _ => none }
def beatRatiosRow : OpenClaim := { program := "ytendjepcjmfmfaagreatdoor", sum := "55348abec616092f94fa5961610be86b35f724a35c1ef99de4ef3e04cd4c56c8", func := "bombarde/bombardelaw42.BeatRatios", spec := "beatRatios", inPlace := ["internal/abi.NoEscape", "internal/bytealg.MakeNoZero", "internal/bytealg.abigen_runtime_cmpstring"], unfollowed := true, recurses := true, named := ["internal/strconv.uint64pow10", "math/bits.deBruijn32tab", "math/bits.deBruijn64tab"], apart := false, laid := [("math/bits.deBruijn32tab", laid_math_bits_deBruijn32tab), ("math/bits.deBruijn64tab", laid_math_bits_deBruijn64tab), ("internal/strconv.uint64pow10", laid_internal_strconv_uint64pow10)] }
def BeatRatiosSaid : Prop := beatRatiosRow.holds Tryz.pinned (OpenSpec.ofChange beatRatiosSpec)

/-- ITS FALSE NEIGHBOUR: 'it returns false'. Refute it at one input. -/
def beatRatiosWrong : ChangeSpec := { name := "beatRatios", fn := fun _ => fun
  | [d1, d2] => { results := [.lit (.bool false)], args := [d1, d2] }
  | _ => none }
def BeatRatiosWrongFalsely : Prop := beatRatiosRow.holds Tryz.pinned (OpenSpec.ofChange beatRatiosWrong)

/-- 'bombardelaw42.BeatFrequencies': WHATEVER THE INPUT: true; the input reads as it did. -/
def beatFrequenciesSpec : ChangeSpec := { name := "beatFrequencies", fn := fun _ => fun
  | [d1, d2, d3] => { results := [.lit (.bool true)], args := [d1, d2, d3] }
  | _ => none }
def beatFrequenciesRow : OpenClaim := { program := "ytendjepcjmfmfaagreatdoor", sum := "55348abec616092f94fa5961610be86b35f724a35c1ef99de4ef3e04cd4c56c8", func := "bombarde/bombardelaw42.BeatFrequencies", spec := "beatFrequencies", inPlace := ["internal/abi.NoEscape", "internal/bytealg.MakeNoZero", "internal/bytealg.abigen_runtime_cmpstring"], unfollowed := true, recurses := true, named := ["internal/strconv.uint64pow10", "math/bits.deBruijn32tab", "math/bits.deBruijn64tab"], apart := false, laid := [("math/bits.deBruijn32tab", laid_math_bits_deBruijn32tab), ("math/bits.deBruijn64tab", laid_math_bits_deBruijn64tab), ("internal/strconv.uint64pow10", laid_internal_strconv_uint64pow10)] }
def BeatFrequenciesSaid : Prop := beatFrequenciesRow.holds Tryz.pinned (OpenSpec.ofChange beatFrequenciesSpec)

/-- ITS FALSE NEIGHBOUR: 'it returns false'. Refute it at one input. -/
def beatFrequenciesWrong : ChangeSpec := { name := "beatFrequencies", fn := fun _ => fun
  | [d1, d2, d3] => { results := [.lit (.bool false)], args := [d1, d2, d3] }
  | _ => none }
def BeatFrequenciesWrongFalsely : Prop := beatFrequenciesRow.holds Tryz.pinned (OpenSpec.ofChange beatFrequenciesWrong)

/-- 'bombardelaw42.BeatBounds': WHATEVER THE INPUT: true; the input reads as it did. -/
def beatBoundsSpec : ChangeSpec := { name := "beatBounds", fn := fun _ => fun
  | [d1, d2, d3] => { results := [.lit (.bool true)], args := [d1, d2, d3] }
  | _ => none }
def beatBoundsRow : OpenClaim := { program := "ytendjepcjmfmfaagreatdoor", sum := "55348abec616092f94fa5961610be86b35f724a35c1ef99de4ef3e04cd4c56c8", func := "bombarde/bombardelaw42.BeatBounds", spec := "beatBounds", inPlace := ["internal/abi.NoEscape", "internal/bytealg.MakeNoZero", "internal/bytealg.abigen_runtime_cmpstring"], unfollowed := true, recurses := true, named := ["internal/strconv.uint64pow10", "math/bits.deBruijn32tab", "math/bits.deBruijn64tab"], apart := false, laid := [("math/bits.deBruijn32tab", laid_math_bits_deBruijn32tab), ("math/bits.deBruijn64tab", laid_math_bits_deBruijn64tab), ("internal/strconv.uint64pow10", laid_internal_strconv_uint64pow10)] }
def BeatBoundsSaid : Prop := beatBoundsRow.holds Tryz.pinned (OpenSpec.ofChange beatBoundsSpec)

/-- ITS FALSE NEIGHBOUR: 'it returns false'. Refute it at one input. -/
def beatBoundsWrong : ChangeSpec := { name := "beatBounds", fn := fun _ => fun
  | [d1, d2, d3] => { results := [.lit (.bool false)], args := [d1, d2, d3] }
  | _ => none }
def BeatBoundsWrongFalsely : Prop := beatBoundsRow.holds Tryz.pinned (OpenSpec.ofChange beatBoundsWrong)

/-- 'bombardelaw42.BeatCompares': WHATEVER THE INPUT: true; the input reads as it did. -/
def beatComparesSpec : ChangeSpec := { name := "beatCompares", fn := fun _ => fun
  | [d1, d2, d3] => { results := [.lit (.bool true)], args := [d1, d2, d3] }
  | _ => none }
def beatComparesRow : OpenClaim := { program := "ytendjepcjmfmfaagreatdoor", sum := "55348abec616092f94fa5961610be86b35f724a35c1ef99de4ef3e04cd4c56c8", func := "bombarde/bombardelaw42.BeatCompares", spec := "beatCompares", inPlace := ["internal/abi.NoEscape", "internal/bytealg.MakeNoZero", "internal/bytealg.abigen_runtime_cmpstring"], unfollowed := true, recurses := true, named := ["internal/strconv.uint64pow10", "math/bits.deBruijn32tab", "math/bits.deBruijn64tab"], apart := false, laid := [("math/bits.deBruijn32tab", laid_math_bits_deBruijn32tab), ("math/bits.deBruijn64tab", laid_math_bits_deBruijn64tab), ("internal/strconv.uint64pow10", laid_internal_strconv_uint64pow10)] }
def BeatComparesSaid : Prop := beatComparesRow.holds Tryz.pinned (OpenSpec.ofChange beatComparesSpec)

/-- ITS FALSE NEIGHBOUR: 'it returns false'. Refute it at one input. -/
def beatComparesWrong : ChangeSpec := { name := "beatCompares", fn := fun _ => fun
  | [d1, d2, d3] => { results := [.lit (.bool false)], args := [d1, d2, d3] }
  | _ => none }
def BeatComparesWrongFalsely : Prop := beatComparesRow.holds Tryz.pinned (OpenSpec.ofChange beatComparesWrong)

/-- 'bombardelaw42.BeatEqual': WHATEVER THE INPUT: true; the input reads as it did. -/
def beatEqualSpec : ChangeSpec := { name := "beatEqual", fn := fun _ => fun
  | [d1, d2] => { results := [.lit (.bool true)], args := [d1, d2] }
  | _ => none }
def beatEqualRow : OpenClaim := { program := "ytendjepcjmfmfaagreatdoor", sum := "55348abec616092f94fa5961610be86b35f724a35c1ef99de4ef3e04cd4c56c8", func := "bombarde/bombardelaw42.BeatEqual", spec := "beatEqual", inPlace := ["internal/abi.NoEscape", "internal/bytealg.MakeNoZero", "internal/bytealg.abigen_runtime_cmpstring"], unfollowed := true, recurses := true, named := ["internal/strconv.uint64pow10", "math/bits.deBruijn32tab", "math/bits.deBruijn64tab"], apart := false, laid := [("math/bits.deBruijn32tab", laid_math_bits_deBruijn32tab), ("math/bits.deBruijn64tab", laid_math_bits_deBruijn64tab), ("internal/strconv.uint64pow10", laid_internal_strconv_uint64pow10)] }
def BeatEqualSaid : Prop := beatEqualRow.holds Tryz.pinned (OpenSpec.ofChange beatEqualSpec)

/-- ITS FALSE NEIGHBOUR: 'it returns false'. Refute it at one input. -/
def beatEqualWrong : ChangeSpec := { name := "beatEqual", fn := fun _ => fun
  | [d1, d2] => { results := [.lit (.bool false)], args := [d1, d2] }
  | _ => none }
def BeatEqualWrongFalsely : Prop := beatEqualRow.holds Tryz.pinned (OpenSpec.ofChange beatEqualWrong)

/-- 'bombardelaw42.BeatOrders': WHATEVER THE INPUT: true; the input reads as it did. -/
def beatOrdersSpec : ChangeSpec := { name := "beatOrders", fn := fun _ => fun
  | [d1, d2, d3] => { results := [.lit (.bool true)], args := [d1, d2, d3] }
  | _ => none }
def beatOrdersRow : OpenClaim := { program := "ytendjepcjmfmfaagreatdoor", sum := "55348abec616092f94fa5961610be86b35f724a35c1ef99de4ef3e04cd4c56c8", func := "bombarde/bombardelaw42.BeatOrders", spec := "beatOrders", inPlace := ["internal/abi.NoEscape", "internal/bytealg.MakeNoZero", "internal/bytealg.abigen_runtime_cmpstring"], unfollowed := true, recurses := true, named := ["internal/strconv.uint64pow10", "math/bits.deBruijn32tab", "math/bits.deBruijn64tab"], apart := false, laid := [("math/bits.deBruijn32tab", laid_math_bits_deBruijn32tab), ("math/bits.deBruijn64tab", laid_math_bits_deBruijn64tab), ("internal/strconv.uint64pow10", laid_internal_strconv_uint64pow10)] }
def BeatOrdersSaid : Prop := beatOrdersRow.holds Tryz.pinned (OpenSpec.ofChange beatOrdersSpec)

/-- ITS FALSE NEIGHBOUR: 'it returns false'. Refute it at one input. -/
def beatOrdersWrong : ChangeSpec := { name := "beatOrders", fn := fun _ => fun
  | [d1, d2, d3] => { results := [.lit (.bool false)], args := [d1, d2, d3] }
  | _ => none }
def BeatOrdersWrongFalsely : Prop := beatOrdersRow.holds Tryz.pinned (OpenSpec.ofChange beatOrdersWrong)

/-- 'bombardelaw42.BeatErrors': WHATEVER THE INPUT: true; the input reads as it did. -/
def beatErrorsSpec : ChangeSpec := { name := "beatErrors", fn := fun _ => fun
  | [d1, d2, d3] => { results := [.lit (.bool true)], args := [d1, d2, d3] }
  | _ => none }
def beatErrorsRow : OpenClaim := { program := "ytendjepcjmfmfaagreatdoor", sum := "55348abec616092f94fa5961610be86b35f724a35c1ef99de4ef3e04cd4c56c8", func := "bombarde/bombardelaw42.BeatErrors", spec := "beatErrors", inPlace := ["internal/abi.NoEscape", "internal/bytealg.MakeNoZero", "internal/bytealg.abigen_runtime_cmpstring"], unfollowed := true, recurses := true, named := ["internal/strconv.uint64pow10", "math/bits.deBruijn32tab", "math/bits.deBruijn64tab"], apart := false, laid := [("math/bits.deBruijn32tab", laid_math_bits_deBruijn32tab), ("math/bits.deBruijn64tab", laid_math_bits_deBruijn64tab), ("internal/strconv.uint64pow10", laid_internal_strconv_uint64pow10)] }
def BeatErrorsSaid : Prop := beatErrorsRow.holds Tryz.pinned (OpenSpec.ofChange beatErrorsSpec)

/-- ITS FALSE NEIGHBOUR: 'it returns false'. Refute it at one input. -/
def beatErrorsWrong : ChangeSpec := { name := "beatErrors", fn := fun _ => fun
  | [d1, d2, d3] => { results := [.lit (.bool false)], args := [d1, d2, d3] }
  | _ => none }
def BeatErrorsWrongFalsely : Prop := beatErrorsRow.holds Tryz.pinned (OpenSpec.ofChange beatErrorsWrong)

/- THE SECOND FORM. 'bulk': how many values and letters a reading holds, each counted each time it is reached (what is shared counts as often as it is met; a slice's spare places count too). A statement '..UptoSaid' is the law's where the arguments, and the package variables that the reading takes, are together of bulk at most 1048576: NARROWER than '..Said'. Prove '..Said' where nothing that the law and all that it calls make is longer than what came in: it says more and counts as full. Else prove '..UptoSaid'. A law counts once. -/
mutual
def uptoBulk {H : Type} : DataW H → Nat
  | .lit (.string bytes) => bytes.length + 1
  | .lit _ => 1
  | .nil => 1
  | .ptr d => uptoBulk d + 1
  | .slice elems spare => uptoBulkAll elems + uptoBulkAll spare + 1
  | .agg parts => uptoBulkAll parts + 1
  | .iface _ d => uptoBulk d + 1
  | .map entries => uptoBulkEntries entries + 1
  | .held _ => 1
def uptoBulkAll {H : Type} : List (DataW H) → Nat
  | [] => 0
  | d :: r => uptoBulk d + uptoBulkAll r
def uptoBulkEntries {H : Type} : List (Lit × DataW H) → Nat
  | [] => 0
  | x :: r => uptoBulkEntry x + uptoBulkEntries r
def uptoBulkEntry {H : Type} : Lit × DataW H → Nat
  | (.string bytes, d) => bytes.length + uptoBulk d + 1
  | (_, d) => uptoBulk d + 1
 end
def uptoSmall : (H : Type) → List (DataW H) → Bool := fun _ ds => decide (uptoBulkAll ds ≤ 1048576)
def OpenSpec.upto (s : _root_.Go.ChangeSpec) : _root_.Go.OpenSpec := { _root_.Go.OpenSpec.ofChange s with cond := some uptoSmall }

/-- 'bombardelaw42.BeatPartials', WHERE WHAT IT READS IS OF BULK AT MOST 1048576: true; the input reads as it did. -/
def beatPartialsUptoRow : OpenClaim := { program := "ytendjepcjmfmfaagreatdoor", sum := "55348abec616092f94fa5961610be86b35f724a35c1ef99de4ef3e04cd4c56c8", func := "bombarde/bombardelaw42.BeatPartials", spec := "beatPartials", inPlace := ["internal/abi.NoEscape", "internal/bytealg.MakeNoZero", "internal/bytealg.abigen_runtime_cmpstring"], unfollowed := true, recurses := true, named := ["internal/strconv.uint64pow10", "math/bits.deBruijn32tab", "math/bits.deBruijn64tab"], apart := false, laid := [("math/bits.deBruijn32tab", laid_math_bits_deBruijn32tab), ("math/bits.deBruijn64tab", laid_math_bits_deBruijn64tab), ("internal/strconv.uint64pow10", laid_internal_strconv_uint64pow10)], narrowed := true }
def BeatPartialsUptoSaid : Prop := beatPartialsUptoRow.holds Tryz.pinned (OpenSpec.upto beatPartialsSpec)

/-- 'bombardelaw42.BeatRatios', WHERE WHAT IT READS IS OF BULK AT MOST 1048576: true; the input reads as it did. -/
def beatRatiosUptoRow : OpenClaim := { program := "ytendjepcjmfmfaagreatdoor", sum := "55348abec616092f94fa5961610be86b35f724a35c1ef99de4ef3e04cd4c56c8", func := "bombarde/bombardelaw42.BeatRatios", spec := "beatRatios", inPlace := ["internal/abi.NoEscape", "internal/bytealg.MakeNoZero", "internal/bytealg.abigen_runtime_cmpstring"], unfollowed := true, recurses := true, named := ["internal/strconv.uint64pow10", "math/bits.deBruijn32tab", "math/bits.deBruijn64tab"], apart := false, laid := [("math/bits.deBruijn32tab", laid_math_bits_deBruijn32tab), ("math/bits.deBruijn64tab", laid_math_bits_deBruijn64tab), ("internal/strconv.uint64pow10", laid_internal_strconv_uint64pow10)], narrowed := true }
def BeatRatiosUptoSaid : Prop := beatRatiosUptoRow.holds Tryz.pinned (OpenSpec.upto beatRatiosSpec)

/-- 'bombardelaw42.BeatFrequencies', WHERE WHAT IT READS IS OF BULK AT MOST 1048576: true; the input reads as it did. -/
def beatFrequenciesUptoRow : OpenClaim := { program := "ytendjepcjmfmfaagreatdoor", sum := "55348abec616092f94fa5961610be86b35f724a35c1ef99de4ef3e04cd4c56c8", func := "bombarde/bombardelaw42.BeatFrequencies", spec := "beatFrequencies", inPlace := ["internal/abi.NoEscape", "internal/bytealg.MakeNoZero", "internal/bytealg.abigen_runtime_cmpstring"], unfollowed := true, recurses := true, named := ["internal/strconv.uint64pow10", "math/bits.deBruijn32tab", "math/bits.deBruijn64tab"], apart := false, laid := [("math/bits.deBruijn32tab", laid_math_bits_deBruijn32tab), ("math/bits.deBruijn64tab", laid_math_bits_deBruijn64tab), ("internal/strconv.uint64pow10", laid_internal_strconv_uint64pow10)], narrowed := true }
def BeatFrequenciesUptoSaid : Prop := beatFrequenciesUptoRow.holds Tryz.pinned (OpenSpec.upto beatFrequenciesSpec)

/-- 'bombardelaw42.BeatBounds', WHERE WHAT IT READS IS OF BULK AT MOST 1048576: true; the input reads as it did. -/
def beatBoundsUptoRow : OpenClaim := { program := "ytendjepcjmfmfaagreatdoor", sum := "55348abec616092f94fa5961610be86b35f724a35c1ef99de4ef3e04cd4c56c8", func := "bombarde/bombardelaw42.BeatBounds", spec := "beatBounds", inPlace := ["internal/abi.NoEscape", "internal/bytealg.MakeNoZero", "internal/bytealg.abigen_runtime_cmpstring"], unfollowed := true, recurses := true, named := ["internal/strconv.uint64pow10", "math/bits.deBruijn32tab", "math/bits.deBruijn64tab"], apart := false, laid := [("math/bits.deBruijn32tab", laid_math_bits_deBruijn32tab), ("math/bits.deBruijn64tab", laid_math_bits_deBruijn64tab), ("internal/strconv.uint64pow10", laid_internal_strconv_uint64pow10)], narrowed := true }
def BeatBoundsUptoSaid : Prop := beatBoundsUptoRow.holds Tryz.pinned (OpenSpec.upto beatBoundsSpec)

/-- 'bombardelaw42.BeatCompares', WHERE WHAT IT READS IS OF BULK AT MOST 1048576: true; the input reads as it did. -/
def beatComparesUptoRow : OpenClaim := { program := "ytendjepcjmfmfaagreatdoor", sum := "55348abec616092f94fa5961610be86b35f724a35c1ef99de4ef3e04cd4c56c8", func := "bombarde/bombardelaw42.BeatCompares", spec := "beatCompares", inPlace := ["internal/abi.NoEscape", "internal/bytealg.MakeNoZero", "internal/bytealg.abigen_runtime_cmpstring"], unfollowed := true, recurses := true, named := ["internal/strconv.uint64pow10", "math/bits.deBruijn32tab", "math/bits.deBruijn64tab"], apart := false, laid := [("math/bits.deBruijn32tab", laid_math_bits_deBruijn32tab), ("math/bits.deBruijn64tab", laid_math_bits_deBruijn64tab), ("internal/strconv.uint64pow10", laid_internal_strconv_uint64pow10)], narrowed := true }
def BeatComparesUptoSaid : Prop := beatComparesUptoRow.holds Tryz.pinned (OpenSpec.upto beatComparesSpec)

/-- 'bombardelaw42.BeatEqual', WHERE WHAT IT READS IS OF BULK AT MOST 1048576: true; the input reads as it did. -/
def beatEqualUptoRow : OpenClaim := { program := "ytendjepcjmfmfaagreatdoor", sum := "55348abec616092f94fa5961610be86b35f724a35c1ef99de4ef3e04cd4c56c8", func := "bombarde/bombardelaw42.BeatEqual", spec := "beatEqual", inPlace := ["internal/abi.NoEscape", "internal/bytealg.MakeNoZero", "internal/bytealg.abigen_runtime_cmpstring"], unfollowed := true, recurses := true, named := ["internal/strconv.uint64pow10", "math/bits.deBruijn32tab", "math/bits.deBruijn64tab"], apart := false, laid := [("math/bits.deBruijn32tab", laid_math_bits_deBruijn32tab), ("math/bits.deBruijn64tab", laid_math_bits_deBruijn64tab), ("internal/strconv.uint64pow10", laid_internal_strconv_uint64pow10)], narrowed := true }
def BeatEqualUptoSaid : Prop := beatEqualUptoRow.holds Tryz.pinned (OpenSpec.upto beatEqualSpec)

/-- 'bombardelaw42.BeatOrders', WHERE WHAT IT READS IS OF BULK AT MOST 1048576: true; the input reads as it did. -/
def beatOrdersUptoRow : OpenClaim := { program := "ytendjepcjmfmfaagreatdoor", sum := "55348abec616092f94fa5961610be86b35f724a35c1ef99de4ef3e04cd4c56c8", func := "bombarde/bombardelaw42.BeatOrders", spec := "beatOrders", inPlace := ["internal/abi.NoEscape", "internal/bytealg.MakeNoZero", "internal/bytealg.abigen_runtime_cmpstring"], unfollowed := true, recurses := true, named := ["internal/strconv.uint64pow10", "math/bits.deBruijn32tab", "math/bits.deBruijn64tab"], apart := false, laid := [("math/bits.deBruijn32tab", laid_math_bits_deBruijn32tab), ("math/bits.deBruijn64tab", laid_math_bits_deBruijn64tab), ("internal/strconv.uint64pow10", laid_internal_strconv_uint64pow10)], narrowed := true }
def BeatOrdersUptoSaid : Prop := beatOrdersUptoRow.holds Tryz.pinned (OpenSpec.upto beatOrdersSpec)

/-- 'bombardelaw42.BeatErrors', WHERE WHAT IT READS IS OF BULK AT MOST 1048576: true; the input reads as it did. -/
def beatErrorsUptoRow : OpenClaim := { program := "ytendjepcjmfmfaagreatdoor", sum := "55348abec616092f94fa5961610be86b35f724a35c1ef99de4ef3e04cd4c56c8", func := "bombarde/bombardelaw42.BeatErrors", spec := "beatErrors", inPlace := ["internal/abi.NoEscape", "internal/bytealg.MakeNoZero", "internal/bytealg.abigen_runtime_cmpstring"], unfollowed := true, recurses := true, named := ["internal/strconv.uint64pow10", "math/bits.deBruijn32tab", "math/bits.deBruijn64tab"], apart := false, laid := [("math/bits.deBruijn32tab", laid_math_bits_deBruijn32tab), ("math/bits.deBruijn64tab", laid_math_bits_deBruijn64tab), ("internal/strconv.uint64pow10", laid_internal_strconv_uint64pow10)], narrowed := true }
def BeatErrorsUptoSaid : Prop := beatErrorsUptoRow.holds Tryz.pinned (OpenSpec.upto beatErrorsSpec)

end Rows
end Go.Proofs.YtendjepcjmfmfaaGreatDoor
