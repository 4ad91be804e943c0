/-
  NARROWER THAN 'FOR EVERY INPUT', by the rows' own cells (each row's printed sentence says how): ImplicantLeast: laid · ImplicantApart: laid · ImplicantLimits: laid · ImplicantRows: laid · ImplicantPrimes: laid · ImplicantVerifies: laid · ImplicantChecks: laid · ImplicantTables: laid · ImplicantSums: laid.
  DERIVED. THE GIVEN ROWS OF THIS SEAT. 9 by the template 'for every input the law returns true; each argument reads behind the call as it read before'; 0 by the template 'total and deterministic' (their statements: YtaegjpancbmppaaGreatDoorTotals.lean).
  GIVEN WITH THE SEED: the statements are not yours to turn. If you find one false, say at which input.
  Laid BY PROGRAM, IN A SANDBOX (cutbox-rows.mjs): the forced cells as the released guide's own fill.sh prints them over the translation 3e5bb6163bbf41b4… (all of the seat's roots in one cut). By AI agents, Wed Nov 11 2026. No macro, syntax, notation, axiom, sorry.
-/
import Derived.Test.YtaegjpancbmppaaGreatDoorChecked
import GoSem.Claim
import GoSem.ClaimJoined
import GoSem.ClaimMapViews
import Derived.JoinedTies
import Derived.KernelRfl
namespace Go.Proofs.YtaegjpancbmppaaGreatDoor
/- THE CELL 'sum', in the pinned program and in every row, IS THE sha256 OF THE DUMP (.gsa) THAT YtaegjpancbmppaaGreatDoorProg.lean LOADS. Nothing in Lean hashes anything: it is a label: what it is worth is what the hold of that sum in a sandbox is worth. -/
noncomputable def Tryz.pinned : Pinned := { name := "ytaegjpancbmppaagreatdoor", sum := "3e5bb6163bbf41b4b6b89e7377ef0e78146281b4b8659c7e742bea0dffefb160", checked := Tryz.checked }
namespace Rows
def none {H : Type} : Left H := { results := [], args := [] }

/- WHAT THE LISTED PACKAGE-LEVEL VARIABLES READ AS WHEN THE CALL BEGINS. Each datum BY PROGRAM (the guide's laid-datum.mjs) off the statement by which the dump's own 'gosem.cut.vars' lays the variable. In a bare row this is a premise. The card (YtaegjpancbmppaaGreatDoorCards.lean) ties it to the program's text. -/
def laid_math_bits_deBruijn32tab {H : Type} : DataW H := .agg [.lit (.int .u8 0), .lit (.int .u8 1), .lit (.int .u8 28), .lit (.int .u8 2), .lit (.int .u8 29), .lit (.int .u8 14), .lit (.int .u8 24), .lit (.int .u8 3), .lit (.int .u8 30), .lit (.int .u8 22), .lit (.int .u8 20), .lit (.int .u8 15), .lit (.int .u8 25), .lit (.int .u8 17), .lit (.int .u8 4), .lit (.int .u8 8), .lit (.int .u8 31), .lit (.int .u8 27), .lit (.int .u8 13), .lit (.int .u8 23), .lit (.int .u8 21), .lit (.int .u8 19), .lit (.int .u8 16), .lit (.int .u8 7), .lit (.int .u8 26), .lit (.int .u8 12), .lit (.int .u8 18), .lit (.int .u8 6), .lit (.int .u8 11), .lit (.int .u8 5), .lit (.int .u8 10), .lit (.int .u8 9)]
def laid_math_bits_deBruijn64tab {H : Type} : DataW H := .agg [.lit (.int .u8 0), .lit (.int .u8 1), .lit (.int .u8 56), .lit (.int .u8 2), .lit (.int .u8 57), .lit (.int .u8 49), .lit (.int .u8 28), .lit (.int .u8 3), .lit (.int .u8 61), .lit (.int .u8 58), .lit (.int .u8 42), .lit (.int .u8 50), .lit (.int .u8 38), .lit (.int .u8 29), .lit (.int .u8 17), .lit (.int .u8 4), .lit (.int .u8 62), .lit (.int .u8 47), .lit (.int .u8 59), .lit (.int .u8 36), .lit (.int .u8 45), .lit (.int .u8 43), .lit (.int .u8 51), .lit (.int .u8 22), .lit (.int .u8 53), .lit (.int .u8 39), .lit (.int .u8 33), .lit (.int .u8 30), .lit (.int .u8 24), .lit (.int .u8 18), .lit (.int .u8 12), .lit (.int .u8 5), .lit (.int .u8 63), .lit (.int .u8 55), .lit (.int .u8 48), .lit (.int .u8 27), .lit (.int .u8 60), .lit (.int .u8 41), .lit (.int .u8 37), .lit (.int .u8 16), .lit (.int .u8 46), .lit (.int .u8 35), .lit (.int .u8 44), .lit (.int .u8 21), .lit (.int .u8 52), .lit (.int .u8 32), .lit (.int .u8 23), .lit (.int .u8 11), .lit (.int .u8 54), .lit (.int .u8 26), .lit (.int .u8 40), .lit (.int .u8 15), .lit (.int .u8 34), .lit (.int .u8 20), .lit (.int .u8 31), .lit (.int .u8 10), .lit (.int .u8 25), .lit (.int .u8 14), .lit (.int .u8 19), .lit (.int .u8 9), .lit (.int .u8 13), .lit (.int .u8 8), .lit (.int .u8 7), .lit (.int .u8 6)]
def laid_internal_strconv_uint64pow10 {H : Type} : DataW H := .agg [.lit (.int .u64 1), .lit (.int .u64 10), .lit (.int .u64 100), .lit (.int .u64 1000), .lit (.int .u64 10000), .lit (.int .u64 100000), .lit (.int .u64 1000000), .lit (.int .u64 10000000), .lit (.int .u64 100000000), .lit (.int .u64 1000000000), .lit (.int .u64 10000000000), .lit (.int .u64 100000000000), .lit (.int .u64 1000000000000), .lit (.int .u64 10000000000000), .lit (.int .u64 100000000000000), .lit (.int .u64 1000000000000000), .lit (.int .u64 10000000000000000), .lit (.int .u64 100000000000000000), .lit (.int .u64 1000000000000000000), .lit (.int .u64 10000000000000000000)]

/-- 'bombardelaw12.ImplicantLeast': WHATEVER THE INPUT: true; the input reads as it did. -/
def implicantLeastSpec : ChangeSpec := { name := "implicantLeast", fn := fun _ => fun
  | [d1, d2, d3] => { results := [.lit (.bool true)], args := [d1, d2, d3] }
  | _ => none }
def implicantLeastRow : OpenClaim := { program := "ytaegjpancbmppaagreatdoor", sum := "3e5bb6163bbf41b4b6b89e7377ef0e78146281b4b8659c7e742bea0dffefb160", func := "bombarde/bombardelaw12.ImplicantLeast", spec := "implicantLeast", inPlace := ["internal/abi.NoEscape"], unfollowed := true, recurses := true, named := ["internal/strconv.uint64pow10", "math/bits.deBruijn32tab", "math/bits.deBruijn64tab"], plainKeys := false, apart := false, laid := [("math/bits.deBruijn32tab", laid_math_bits_deBruijn32tab), ("math/bits.deBruijn64tab", laid_math_bits_deBruijn64tab), ("internal/strconv.uint64pow10", laid_internal_strconv_uint64pow10)] }
def ImplicantLeastSaid : Prop := implicantLeastRow.holds Tryz.pinned (OpenSpec.ofChange implicantLeastSpec)

/-- ITS FALSE NEIGHBOUR: 'it returns false'. Refute it at one input. -/
def implicantLeastWrong : ChangeSpec := { name := "implicantLeast", fn := fun _ => fun
  | [d1, d2, d3] => { results := [.lit (.bool false)], args := [d1, d2, d3] }
  | _ => none }
def ImplicantLeastWrongFalsely : Prop := implicantLeastRow.holds Tryz.pinned (OpenSpec.ofChange implicantLeastWrong)

/-- 'bombardelaw12.ImplicantApart': WHATEVER THE INPUT: true; the input reads as it did. -/
def implicantApartSpec : ChangeSpec := { name := "implicantApart", fn := fun _ => fun
  | [d1, d2, d3] => { results := [.lit (.bool true)], args := [d1, d2, d3] }
  | _ => none }
def implicantApartRow : OpenClaim := { program := "ytaegjpancbmppaagreatdoor", sum := "3e5bb6163bbf41b4b6b89e7377ef0e78146281b4b8659c7e742bea0dffefb160", func := "bombarde/bombardelaw12.ImplicantApart", spec := "implicantApart", inPlace := ["internal/abi.NoEscape"], unfollowed := true, recurses := true, named := ["internal/strconv.uint64pow10", "math/bits.deBruijn32tab", "math/bits.deBruijn64tab"], plainKeys := false, apart := false, laid := [("math/bits.deBruijn32tab", laid_math_bits_deBruijn32tab), ("math/bits.deBruijn64tab", laid_math_bits_deBruijn64tab), ("internal/strconv.uint64pow10", laid_internal_strconv_uint64pow10)] }
def ImplicantApartSaid : Prop := implicantApartRow.holds Tryz.pinned (OpenSpec.ofChange implicantApartSpec)

/-- ITS FALSE NEIGHBOUR: 'it returns false'. Refute it at one input. -/
def implicantApartWrong : ChangeSpec := { name := "implicantApart", fn := fun _ => fun
  | [d1, d2, d3] => { results := [.lit (.bool false)], args := [d1, d2, d3] }
  | _ => none }
def ImplicantApartWrongFalsely : Prop := implicantApartRow.holds Tryz.pinned (OpenSpec.ofChange implicantApartWrong)

/-- 'bombardelaw12.ImplicantLimits': WHATEVER THE INPUT: true; the input reads as it did. -/
def implicantLimitsSpec : ChangeSpec := { name := "implicantLimits", fn := fun _ => fun
  | [d] => { results := [.lit (.bool true)], args := [d] }
  | _ => none }
def implicantLimitsRow : OpenClaim := { program := "ytaegjpancbmppaagreatdoor", sum := "3e5bb6163bbf41b4b6b89e7377ef0e78146281b4b8659c7e742bea0dffefb160", func := "bombarde/bombardelaw12.ImplicantLimits", spec := "implicantLimits", inPlace := ["internal/abi.NoEscape"], unfollowed := true, recurses := true, named := ["internal/strconv.uint64pow10", "math/bits.deBruijn32tab", "math/bits.deBruijn64tab"], plainKeys := false, apart := false, laid := [("math/bits.deBruijn32tab", laid_math_bits_deBruijn32tab), ("math/bits.deBruijn64tab", laid_math_bits_deBruijn64tab), ("internal/strconv.uint64pow10", laid_internal_strconv_uint64pow10)] }
def ImplicantLimitsSaid : Prop := implicantLimitsRow.holds Tryz.pinned (OpenSpec.ofChange implicantLimitsSpec)

/-- ITS FALSE NEIGHBOUR: 'it returns false'. Refute it at one input. -/
def implicantLimitsWrong : ChangeSpec := { name := "implicantLimits", fn := fun _ => fun
  | [d] => { results := [.lit (.bool false)], args := [d] }
  | _ => none }
def ImplicantLimitsWrongFalsely : Prop := implicantLimitsRow.holds Tryz.pinned (OpenSpec.ofChange implicantLimitsWrong)

/-- 'bombardelaw12.ImplicantRows': WHATEVER THE INPUT: true; the input reads as it did. -/
def implicantRowsSpec : ChangeSpec := { name := "implicantRows", fn := fun _ => fun
  | [d1, d2] => { results := [.lit (.bool true)], args := [d1, d2] }
  | _ => none }
def implicantRowsRow : OpenClaim := { program := "ytaegjpancbmppaagreatdoor", sum := "3e5bb6163bbf41b4b6b89e7377ef0e78146281b4b8659c7e742bea0dffefb160", func := "bombarde/bombardelaw12.ImplicantRows", spec := "implicantRows", inPlace := ["internal/abi.NoEscape"], unfollowed := true, recurses := true, named := ["internal/strconv.uint64pow10", "math/bits.deBruijn32tab", "math/bits.deBruijn64tab"], plainKeys := false, apart := false, laid := [("math/bits.deBruijn32tab", laid_math_bits_deBruijn32tab), ("math/bits.deBruijn64tab", laid_math_bits_deBruijn64tab), ("internal/strconv.uint64pow10", laid_internal_strconv_uint64pow10)] }
def ImplicantRowsSaid : Prop := implicantRowsRow.holds Tryz.pinned (OpenSpec.ofChange implicantRowsSpec)

/-- ITS FALSE NEIGHBOUR: 'it returns false'. Refute it at one input. -/
def implicantRowsWrong : ChangeSpec := { name := "implicantRows", fn := fun _ => fun
  | [d1, d2] => { results := [.lit (.bool false)], args := [d1, d2] }
  | _ => none }
def ImplicantRowsWrongFalsely : Prop := implicantRowsRow.holds Tryz.pinned (OpenSpec.ofChange implicantRowsWrong)

/-- 'bombardelaw12.ImplicantPrimes': WHATEVER THE INPUT: true; the input reads as it did. -/
def implicantPrimesSpec : ChangeSpec := { name := "implicantPrimes", fn := fun _ => fun
  | [d1, d2, d3] => { results := [.lit (.bool true)], args := [d1, d2, d3] }
  | _ => none }
def implicantPrimesRow : OpenClaim := { program := "ytaegjpancbmppaagreatdoor", sum := "3e5bb6163bbf41b4b6b89e7377ef0e78146281b4b8659c7e742bea0dffefb160", func := "bombarde/bombardelaw12.ImplicantPrimes", spec := "implicantPrimes", inPlace := ["internal/abi.NoEscape"], unfollowed := true, recurses := true, named := ["internal/strconv.uint64pow10", "math/bits.deBruijn32tab", "math/bits.deBruijn64tab"], plainKeys := false, apart := false, laid := [("math/bits.deBruijn32tab", laid_math_bits_deBruijn32tab), ("math/bits.deBruijn64tab", laid_math_bits_deBruijn64tab), ("internal/strconv.uint64pow10", laid_internal_strconv_uint64pow10)] }
def ImplicantPrimesSaid : Prop := implicantPrimesRow.holds Tryz.pinned (OpenSpec.ofChange implicantPrimesSpec)

/-- ITS FALSE NEIGHBOUR: 'it returns false'. Refute it at one input. -/
def implicantPrimesWrong : ChangeSpec := { name := "implicantPrimes", fn := fun _ => fun
  | [d1, d2, d3] => { results := [.lit (.bool false)], args := [d1, d2, d3] }
  | _ => none }
def ImplicantPrimesWrongFalsely : Prop := implicantPrimesRow.holds Tryz.pinned (OpenSpec.ofChange implicantPrimesWrong)

/-- 'bombardelaw12.ImplicantVerifies': WHATEVER THE INPUT: true; the input reads as it did. -/
def implicantVerifiesSpec : ChangeSpec := { name := "implicantVerifies", fn := fun _ => fun
  | [d1, d2, d3] => { results := [.lit (.bool true)], args := [d1, d2, d3] }
  | _ => none }
def implicantVerifiesRow : OpenClaim := { program := "ytaegjpancbmppaagreatdoor", sum := "3e5bb6163bbf41b4b6b89e7377ef0e78146281b4b8659c7e742bea0dffefb160", func := "bombarde/bombardelaw12.ImplicantVerifies", spec := "implicantVerifies", inPlace := ["internal/abi.NoEscape"], unfollowed := true, recurses := true, named := ["internal/strconv.uint64pow10", "math/bits.deBruijn32tab", "math/bits.deBruijn64tab"], plainKeys := false, apart := false, laid := [("math/bits.deBruijn32tab", laid_math_bits_deBruijn32tab), ("math/bits.deBruijn64tab", laid_math_bits_deBruijn64tab), ("internal/strconv.uint64pow10", laid_internal_strconv_uint64pow10)] }
def ImplicantVerifiesSaid : Prop := implicantVerifiesRow.holds Tryz.pinned (OpenSpec.ofChange implicantVerifiesSpec)

/-- ITS FALSE NEIGHBOUR: 'it returns false'. Refute it at one input. -/
def implicantVerifiesWrong : ChangeSpec := { name := "implicantVerifies", fn := fun _ => fun
  | [d1, d2, d3] => { results := [.lit (.bool false)], args := [d1, d2, d3] }
  | _ => none }
def ImplicantVerifiesWrongFalsely : Prop := implicantVerifiesRow.holds Tryz.pinned (OpenSpec.ofChange implicantVerifiesWrong)

/-- 'bombardelaw12.ImplicantChecks': WHATEVER THE INPUT: true; the input reads as it did. -/
def implicantChecksSpec : ChangeSpec := { name := "implicantChecks", fn := fun _ => fun
  | [d] => { results := [.lit (.bool true)], args := [d] }
  | _ => none }
def implicantChecksRow : OpenClaim := { program := "ytaegjpancbmppaagreatdoor", sum := "3e5bb6163bbf41b4b6b89e7377ef0e78146281b4b8659c7e742bea0dffefb160", func := "bombarde/bombardelaw12.ImplicantChecks", spec := "implicantChecks", inPlace := ["internal/abi.NoEscape"], unfollowed := true, recurses := true, named := ["internal/strconv.uint64pow10", "math/bits.deBruijn32tab", "math/bits.deBruijn64tab"], plainKeys := false, apart := false, laid := [("math/bits.deBruijn32tab", laid_math_bits_deBruijn32tab), ("math/bits.deBruijn64tab", laid_math_bits_deBruijn64tab), ("internal/strconv.uint64pow10", laid_internal_strconv_uint64pow10)] }
def ImplicantChecksSaid : Prop := implicantChecksRow.holds Tryz.pinned (OpenSpec.ofChange implicantChecksSpec)

/-- ITS FALSE NEIGHBOUR: 'it returns false'. Refute it at one input. -/
def implicantChecksWrong : ChangeSpec := { name := "implicantChecks", fn := fun _ => fun
  | [d] => { results := [.lit (.bool false)], args := [d] }
  | _ => none }
def ImplicantChecksWrongFalsely : Prop := implicantChecksRow.holds Tryz.pinned (OpenSpec.ofChange implicantChecksWrong)

/-- 'bombardelaw12.ImplicantTables': WHATEVER THE INPUT: true; the input reads as it did. -/
def implicantTablesSpec : ChangeSpec := { name := "implicantTables", fn := fun _ => fun
  | [d1, d2] => { results := [.lit (.bool true)], args := [d1, d2] }
  | _ => none }
def implicantTablesRow : OpenClaim := { program := "ytaegjpancbmppaagreatdoor", sum := "3e5bb6163bbf41b4b6b89e7377ef0e78146281b4b8659c7e742bea0dffefb160", func := "bombarde/bombardelaw12.ImplicantTables", spec := "implicantTables", inPlace := ["internal/abi.NoEscape"], unfollowed := true, recurses := true, named := ["internal/strconv.uint64pow10", "math/bits.deBruijn32tab", "math/bits.deBruijn64tab"], plainKeys := false, apart := false, laid := [("math/bits.deBruijn32tab", laid_math_bits_deBruijn32tab), ("math/bits.deBruijn64tab", laid_math_bits_deBruijn64tab), ("internal/strconv.uint64pow10", laid_internal_strconv_uint64pow10)] }
def ImplicantTablesSaid : Prop := implicantTablesRow.holds Tryz.pinned (OpenSpec.ofChange implicantTablesSpec)

/-- ITS FALSE NEIGHBOUR: 'it returns false'. Refute it at one input. -/
def implicantTablesWrong : ChangeSpec := { name := "implicantTables", fn := fun _ => fun
  | [d1, d2] => { results := [.lit (.bool false)], args := [d1, d2] }
  | _ => none }
def ImplicantTablesWrongFalsely : Prop := implicantTablesRow.holds Tryz.pinned (OpenSpec.ofChange implicantTablesWrong)

/-- 'bombardelaw12.ImplicantSums': WHATEVER THE INPUT: true; the input reads as it did. -/
def implicantSumsSpec : ChangeSpec := { name := "implicantSums", fn := fun _ => fun
  | [d1, d2, d3] => { results := [.lit (.bool true)], args := [d1, d2, d3] }
  | _ => none }
def implicantSumsRow : OpenClaim := { program := "ytaegjpancbmppaagreatdoor", sum := "3e5bb6163bbf41b4b6b89e7377ef0e78146281b4b8659c7e742bea0dffefb160", func := "bombarde/bombardelaw12.ImplicantSums", spec := "implicantSums", inPlace := ["internal/abi.NoEscape"], unfollowed := true, recurses := true, named := ["internal/strconv.uint64pow10", "math/bits.deBruijn32tab", "math/bits.deBruijn64tab"], plainKeys := false, apart := false, laid := [("math/bits.deBruijn32tab", laid_math_bits_deBruijn32tab), ("math/bits.deBruijn64tab", laid_math_bits_deBruijn64tab), ("internal/strconv.uint64pow10", laid_internal_strconv_uint64pow10)] }
def ImplicantSumsSaid : Prop := implicantSumsRow.holds Tryz.pinned (OpenSpec.ofChange implicantSumsSpec)

/-- ITS FALSE NEIGHBOUR: 'it returns false'. Refute it at one input. -/
def implicantSumsWrong : ChangeSpec := { name := "implicantSums", fn := fun _ => fun
  | [d1, d2, d3] => { results := [.lit (.bool false)], args := [d1, d2, d3] }
  | _ => none }
def ImplicantSumsWrongFalsely : Prop := implicantSumsRow.holds Tryz.pinned (OpenSpec.ofChange implicantSumsWrong)

/- THE SECOND FORM. 'bulk': how many values and letters a reading holds, each counted each time it is reached (what is shared counts as often as it is met; a slice's spare places count too). A statement '..UptoSaid' is the law's where the arguments, and the package variables that the reading takes, are together of bulk at most 1048576: NARROWER than '..Said'. Prove '..Said' where nothing that the law and all that it calls make is longer than what came in: it says more and counts as full. Else prove '..UptoSaid'. A law counts once. -/
mutual
def uptoBulk {H : Type} : DataW H → Nat
  | .lit (.string bytes) => bytes.length + 1
  | .lit _ => 1
  | .nil => 1
  | .ptr d => uptoBulk d + 1
  | .slice elems spare => uptoBulkAll elems + uptoBulkAll spare + 1
  | .agg parts => uptoBulkAll parts + 1
  | .iface _ d => uptoBulk d + 1
  | .map entries => uptoBulkEntries entries + 1
  | .held _ => 1
def uptoBulkAll {H : Type} : List (DataW H) → Nat
  | [] => 0
  | d :: r => uptoBulk d + uptoBulkAll r
def uptoBulkEntries {H : Type} : List (Lit × DataW H) → Nat
  | [] => 0
  | x :: r => uptoBulkEntry x + uptoBulkEntries r
def uptoBulkEntry {H : Type} : Lit × DataW H → Nat
  | (.string bytes, d) => bytes.length + uptoBulk d + 1
  | (_, d) => uptoBulk d + 1
 end
def uptoSmall : (H : Type) → List (DataW H) → Bool := fun _ ds => decide (uptoBulkAll ds ≤ 1048576)
def OpenSpec.upto (s : _root_.Go.ChangeSpec) : _root_.Go.OpenSpec := { _root_.Go.OpenSpec.ofChange s with cond := some uptoSmall }

/-- 'bombardelaw12.ImplicantLeast', WHERE WHAT IT READS IS OF BULK AT MOST 1048576: true; the input reads as it did. -/
def implicantLeastUptoRow : OpenClaim := { program := "ytaegjpancbmppaagreatdoor", sum := "3e5bb6163bbf41b4b6b89e7377ef0e78146281b4b8659c7e742bea0dffefb160", func := "bombarde/bombardelaw12.ImplicantLeast", spec := "implicantLeast", inPlace := ["internal/abi.NoEscape"], unfollowed := true, recurses := true, named := ["internal/strconv.uint64pow10", "math/bits.deBruijn32tab", "math/bits.deBruijn64tab"], plainKeys := false, apart := false, laid := [("math/bits.deBruijn32tab", laid_math_bits_deBruijn32tab), ("math/bits.deBruijn64tab", laid_math_bits_deBruijn64tab), ("internal/strconv.uint64pow10", laid_internal_strconv_uint64pow10)], narrowed := true }
def ImplicantLeastUptoSaid : Prop := implicantLeastUptoRow.holds Tryz.pinned (OpenSpec.upto implicantLeastSpec)

/-- 'bombardelaw12.ImplicantApart', WHERE WHAT IT READS IS OF BULK AT MOST 1048576: true; the input reads as it did. -/
def implicantApartUptoRow : OpenClaim := { program := "ytaegjpancbmppaagreatdoor", sum := "3e5bb6163bbf41b4b6b89e7377ef0e78146281b4b8659c7e742bea0dffefb160", func := "bombarde/bombardelaw12.ImplicantApart", spec := "implicantApart", inPlace := ["internal/abi.NoEscape"], unfollowed := true, recurses := true, named := ["internal/strconv.uint64pow10", "math/bits.deBruijn32tab", "math/bits.deBruijn64tab"], plainKeys := false, apart := false, laid := [("math/bits.deBruijn32tab", laid_math_bits_deBruijn32tab), ("math/bits.deBruijn64tab", laid_math_bits_deBruijn64tab), ("internal/strconv.uint64pow10", laid_internal_strconv_uint64pow10)], narrowed := true }
def ImplicantApartUptoSaid : Prop := implicantApartUptoRow.holds Tryz.pinned (OpenSpec.upto implicantApartSpec)

/-- 'bombardelaw12.ImplicantLimits', WHERE WHAT IT READS IS OF BULK AT MOST 1048576: true; the input reads as it did. -/
def implicantLimitsUptoRow : OpenClaim := { program := "ytaegjpancbmppaagreatdoor", sum := "3e5bb6163bbf41b4b6b89e7377ef0e78146281b4b8659c7e742bea0dffefb160", func := "bombarde/bombardelaw12.ImplicantLimits", spec := "implicantLimits", inPlace := ["internal/abi.NoEscape"], unfollowed := true, recurses := true, named := ["internal/strconv.uint64pow10", "math/bits.deBruijn32tab", "math/bits.deBruijn64tab"], plainKeys := false, apart := false, laid := [("math/bits.deBruijn32tab", laid_math_bits_deBruijn32tab), ("math/bits.deBruijn64tab", laid_math_bits_deBruijn64tab), ("internal/strconv.uint64pow10", laid_internal_strconv_uint64pow10)], narrowed := true }
def ImplicantLimitsUptoSaid : Prop := implicantLimitsUptoRow.holds Tryz.pinned (OpenSpec.upto implicantLimitsSpec)

/-- 'bombardelaw12.ImplicantRows', WHERE WHAT IT READS IS OF BULK AT MOST 1048576: true; the input reads as it did. -/
def implicantRowsUptoRow : OpenClaim := { program := "ytaegjpancbmppaagreatdoor", sum := "3e5bb6163bbf41b4b6b89e7377ef0e78146281b4b8659c7e742bea0dffefb160", func := "bombarde/bombardelaw12.ImplicantRows", spec := "implicantRows", inPlace := ["internal/abi.NoEscape"], unfollowed := true, recurses := true, named := ["internal/strconv.uint64pow10", "math/bits.deBruijn32tab", "math/bits.deBruijn64tab"], plainKeys := false, apart := false, laid := [("math/bits.deBruijn32tab", laid_math_bits_deBruijn32tab), ("math/bits.deBruijn64tab", laid_math_bits_deBruijn64tab), ("internal/strconv.uint64pow10", laid_internal_strconv_uint64pow10)], narrowed := true }
def ImplicantRowsUptoSaid : Prop := implicantRowsUptoRow.holds Tryz.pinned (OpenSpec.upto implicantRowsSpec)

/-- 'bombardelaw12.ImplicantPrimes', WHERE WHAT IT READS IS OF BULK AT MOST 1048576: true; the input reads as it did. -/
def implicantPrimesUptoRow : OpenClaim := { program := "ytaegjpancbmppaagreatdoor", sum := "3e5bb6163bbf41b4b6b89e7377ef0e78146281b4b8659c7e742bea0dffefb160", func := "bombarde/bombardelaw12.ImplicantPrimes", spec := "implicantPrimes", inPlace := ["internal/abi.NoEscape"], unfollowed := true, recurses := true, named := ["internal/strconv.uint64pow10", "math/bits.deBruijn32tab", "math/bits.deBruijn64tab"], plainKeys := false, apart := false, laid := [("math/bits.deBruijn32tab", laid_math_bits_deBruijn32tab), ("math/bits.deBruijn64tab", laid_math_bits_deBruijn64tab), ("internal/strconv.uint64pow10", laid_internal_strconv_uint64pow10)], narrowed := true }
def ImplicantPrimesUptoSaid : Prop := implicantPrimesUptoRow.holds Tryz.pinned (OpenSpec.upto implicantPrimesSpec)

/-- 'bombardelaw12.ImplicantVerifies', WHERE WHAT IT READS IS OF BULK AT MOST 1048576: true; the input reads as it did. -/
def implicantVerifiesUptoRow : OpenClaim := { program := "ytaegjpancbmppaagreatdoor", sum := "3e5bb6163bbf41b4b6b89e7377ef0e78146281b4b8659c7e742bea0dffefb160", func := "bombarde/bombardelaw12.ImplicantVerifies", spec := "implicantVerifies", inPlace := ["internal/abi.NoEscape"], unfollowed := true, recurses := true, named := ["internal/strconv.uint64pow10", "math/bits.deBruijn32tab", "math/bits.deBruijn64tab"], plainKeys := false, apart := false, laid := [("math/bits.deBruijn32tab", laid_math_bits_deBruijn32tab), ("math/bits.deBruijn64tab", laid_math_bits_deBruijn64tab), ("internal/strconv.uint64pow10", laid_internal_strconv_uint64pow10)], narrowed := true }
def ImplicantVerifiesUptoSaid : Prop := implicantVerifiesUptoRow.holds Tryz.pinned (OpenSpec.upto implicantVerifiesSpec)

/-- 'bombardelaw12.ImplicantChecks', WHERE WHAT IT READS IS OF BULK AT MOST 1048576: true; the input reads as it did. -/
def implicantChecksUptoRow : OpenClaim := { program := "ytaegjpancbmppaagreatdoor", sum := "3e5bb6163bbf41b4b6b89e7377ef0e78146281b4b8659c7e742bea0dffefb160", func := "bombarde/bombardelaw12.ImplicantChecks", spec := "implicantChecks", inPlace := ["internal/abi.NoEscape"], unfollowed := true, recurses := true, named := ["internal/strconv.uint64pow10", "math/bits.deBruijn32tab", "math/bits.deBruijn64tab"], plainKeys := false, apart := false, laid := [("math/bits.deBruijn32tab", laid_math_bits_deBruijn32tab), ("math/bits.deBruijn64tab", laid_math_bits_deBruijn64tab), ("internal/strconv.uint64pow10", laid_internal_strconv_uint64pow10)], narrowed := true }
def ImplicantChecksUptoSaid : Prop := implicantChecksUptoRow.holds Tryz.pinned (OpenSpec.upto implicantChecksSpec)

/-- 'bombardelaw12.ImplicantTables', WHERE WHAT IT READS IS OF BULK AT MOST 1048576: true; the input reads as it did. -/
def implicantTablesUptoRow : OpenClaim := { program := "ytaegjpancbmppaagreatdoor", sum := "3e5bb6163bbf41b4b6b89e7377ef0e78146281b4b8659c7e742bea0dffefb160", func := "bombarde/bombardelaw12.ImplicantTables", spec := "implicantTables", inPlace := ["internal/abi.NoEscape"], unfollowed := true, recurses := true, named := ["internal/strconv.uint64pow10", "math/bits.deBruijn32tab", "math/bits.deBruijn64tab"], plainKeys := false, apart := false, laid := [("math/bits.deBruijn32tab", laid_math_bits_deBruijn32tab), ("math/bits.deBruijn64tab", laid_math_bits_deBruijn64tab), ("internal/strconv.uint64pow10", laid_internal_strconv_uint64pow10)], narrowed := true }
def ImplicantTablesUptoSaid : Prop := implicantTablesUptoRow.holds Tryz.pinned (OpenSpec.upto implicantTablesSpec)

/-- 'bombardelaw12.ImplicantSums', WHERE WHAT IT READS IS OF BULK AT MOST 1048576: true; the input reads as it did. -/
def implicantSumsUptoRow : OpenClaim := { program := "ytaegjpancbmppaagreatdoor", sum := "3e5bb6163bbf41b4b6b89e7377ef0e78146281b4b8659c7e742bea0dffefb160", func := "bombarde/bombardelaw12.ImplicantSums", spec := "implicantSums", inPlace := ["internal/abi.NoEscape"], unfollowed := true, recurses := true, named := ["internal/strconv.uint64pow10", "math/bits.deBruijn32tab", "math/bits.deBruijn64tab"], plainKeys := false, apart := false, laid := [("math/bits.deBruijn32tab", laid_math_bits_deBruijn32tab), ("math/bits.deBruijn64tab", laid_math_bits_deBruijn64tab), ("internal/strconv.uint64pow10", laid_internal_strconv_uint64pow10)], narrowed := true }
def ImplicantSumsUptoSaid : Prop := implicantSumsUptoRow.holds Tryz.pinned (OpenSpec.upto implicantSumsSpec)

end Rows
end Go.Proofs.YtaegjpancbmppaaGreatDoor
