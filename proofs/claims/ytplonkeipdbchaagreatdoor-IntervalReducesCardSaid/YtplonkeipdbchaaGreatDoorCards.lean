/-
  DERIVED. GIVEN WITH THE SEED: THE CARDS: each row of YtplonkeipdbchaaGreatDoorRows.lean that lists a variable, with what it lists TIED to the program's text (the seventh form; the later family's looks); each row that meets fmt, with fmt's text TOLD by the authors' own Lean function (tested against real Go, not proved from fmt's source: count such statements apart). THE CARD IS WHAT COUNTS. Prove the row's statement (the work); the ties are given (YtplonkeipdbchaaGreatDoorTie.lean); close each card by the builder's one call (the guide's Derived/Test/ToyasCard.lean, 'card_holds'). Laid BY PROGRAM, IN A SANDBOX (cutbox-door.mjs). By AI agents, Wed Nov 11 2026. No macro, syntax, notation, axiom, sorry.
-/
import Derived.Test.YtplonkeipdbchaaGreatDoorRows
import GoSem.ClaimSeven
namespace Go.Proofs.YtplonkeipdbchaaGreatDoor
namespace Rows

/-- THE TIED CARD OF 'bombardelaw05.IntervalCents'. -/
def intervalCentsCard : Claim7 := { stood := { row := intervalCentsRow, standIns := [], harness := (true, "4dc0526189a84cc76cfdef9946fa968d69109367e18771dd644da7ccf16a1801"), looks := true }, kinds := [], alts := [], laidByText := true, laidKinds := [.data, .data, .data, .sentinel, .sentinel], laidTests := true, laidLooks := .later }
def IntervalCentsCardSaid : Prop := Claim7.holds Tryz.pinned (.plain (OpenSpec.ofChange intervalCentsSpec)) intervalCentsCard

/-- THE TIED CARD OF 'bombardelaw05.IntervalCompares'. -/
def intervalComparesCard : Claim7 := { stood := { row := intervalComparesRow, standIns := [], harness := (true, "4dc0526189a84cc76cfdef9946fa968d69109367e18771dd644da7ccf16a1801"), looks := true }, kinds := [], alts := [], laidByText := true, laidKinds := [.data, .data, .data, .sentinel, .sentinel], laidTests := true, laidLooks := .later }
def IntervalComparesCardSaid : Prop := Claim7.holds Tryz.pinned (.plain (OpenSpec.ofChange intervalComparesSpec)) intervalComparesCard

/-- THE TIED CARD OF 'bombardelaw05.IntervalReduces'. -/
def intervalReducesCard : Claim7 := { stood := { row := intervalReducesRow, standIns := [], harness := (true, "4dc0526189a84cc76cfdef9946fa968d69109367e18771dd644da7ccf16a1801"), looks := true }, kinds := [], alts := [], laidByText := true, laidKinds := [.data, .data, .data, .sentinel, .sentinel], laidTests := true, laidLooks := .later }
def IntervalReducesCardSaid : Prop := Claim7.holds Tryz.pinned (.plain (OpenSpec.ofChange intervalReducesSpec)) intervalReducesCard

/-- THE SECOND FORM's CARD OF 'bombardelaw05.IntervalCents'. -/
def intervalCentsUptoCard : Claim7 := { stood := { row := intervalCentsUptoRow, standIns := [], harness := (true, "4dc0526189a84cc76cfdef9946fa968d69109367e18771dd644da7ccf16a1801"), looks := true }, kinds := [], alts := [], laidByText := true, laidKinds := [.data, .data, .data, .sentinel, .sentinel], laidTests := true, laidLooks := .later }
def IntervalCentsUptoCardSaid : Prop := Claim7.holds Tryz.pinned (.plain (OpenSpec.upto intervalCentsSpec)) intervalCentsUptoCard

/-- THE SECOND FORM's CARD OF 'bombardelaw05.IntervalCompares'. -/
def intervalComparesUptoCard : Claim7 := { stood := { row := intervalComparesUptoRow, standIns := [], harness := (true, "4dc0526189a84cc76cfdef9946fa968d69109367e18771dd644da7ccf16a1801"), looks := true }, kinds := [], alts := [], laidByText := true, laidKinds := [.data, .data, .data, .sentinel, .sentinel], laidTests := true, laidLooks := .later }
def IntervalComparesUptoCardSaid : Prop := Claim7.holds Tryz.pinned (.plain (OpenSpec.upto intervalComparesSpec)) intervalComparesUptoCard

/-- THE SECOND FORM's CARD OF 'bombardelaw05.IntervalReduces'. -/
def intervalReducesUptoCard : Claim7 := { stood := { row := intervalReducesUptoRow, standIns := [], harness := (true, "4dc0526189a84cc76cfdef9946fa968d69109367e18771dd644da7ccf16a1801"), looks := true }, kinds := [], alts := [], laidByText := true, laidKinds := [.data, .data, .data, .sentinel, .sentinel], laidTests := true, laidLooks := .later }
def IntervalReducesUptoCardSaid : Prop := Claim7.holds Tryz.pinned (.plain (OpenSpec.upto intervalReducesSpec)) intervalReducesUptoCard
end Rows
end Go.Proofs.YtplonkeipdbchaaGreatDoor
