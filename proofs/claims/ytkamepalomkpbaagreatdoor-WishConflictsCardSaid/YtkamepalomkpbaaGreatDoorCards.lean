/-
  DERIVED. GIVEN WITH THE SEED: THE CARDS: each row of YtkamepalomkpbaaGreatDoorRows.lean that lists a variable, with what it lists TIED to the program's text (the seventh form; the later family's looks); each row that meets fmt, with fmt's text TOLD by the authors' own Lean function (tested against real Go, not proved from fmt's source: count such statements apart). THE CARD IS WHAT COUNTS. Prove the row's statement (the work); the ties are given (YtkamepalomkpbaaGreatDoorTie.lean); close each card by the builder's one call (the guide's Derived/Test/ToyasCard.lean, 'card_holds'). Laid BY PROGRAM, IN A SANDBOX (cutbox-door.mjs). By AI agents, Wed Nov 11 2026. No macro, syntax, notation, axiom, sorry.
-/
import Derived.Test.YtkamepalomkpbaaGreatDoorRows
import GoSem.ClaimSeven
namespace Go.Proofs.YtkamepalomkpbaaGreatDoor
namespace Rows

/-- THE TIED CARD OF 'bombardelaw37.WishPermits'. -/
def wishPermitsCard : Claim7 := { stood := { row := wishPermitsRow, standIns := [], harness := (true, "d50817df4301e79a6b2330d4d8a3a825076f3118c4b4a9872be089820286b127"), looks := true }, kinds := [], alts := [], laidByText := true, laidKinds := [.data, .data, .data, .sentinel, .sentinel], laidTests := true, laidLooks := .later }
def WishPermitsCardSaid : Prop := Claim7.holds Tryz.pinned (.plain (OpenSpec.ofChange wishPermitsSpec)) wishPermitsCard

/-- THE TIED CARD OF 'bombardelaw37.WishHeights'. -/
def wishHeightsCard : Claim7 := { stood := { row := wishHeightsRow, standIns := [], harness := (true, "d50817df4301e79a6b2330d4d8a3a825076f3118c4b4a9872be089820286b127"), looks := true }, kinds := [], alts := [], laidByText := true, laidKinds := [.data, .data, .data, .sentinel, .sentinel], laidTests := true, laidLooks := .later }
def WishHeightsCardSaid : Prop := Claim7.holds Tryz.pinned (.plain (OpenSpec.ofChange wishHeightsSpec)) wishHeightsCard

/-- THE TIED CARD OF 'bombardelaw37.WishConflicts'. -/
def wishConflictsCard : Claim7 := { stood := { row := wishConflictsRow, standIns := [], harness := (true, "d50817df4301e79a6b2330d4d8a3a825076f3118c4b4a9872be089820286b127"), looks := true }, kinds := [], alts := [], laidByText := true, laidKinds := [.data, .data, .data, .sentinel, .sentinel], laidTests := true, laidLooks := .later }
def WishConflictsCardSaid : Prop := Claim7.holds Tryz.pinned (.plain (OpenSpec.ofChange wishConflictsSpec)) wishConflictsCard

/-- THE TIED CARD OF 'bombardelaw37.WishPlans'. -/
def wishPlansCard : Claim7 := { stood := { row := wishPlansRow, standIns := [], harness := (true, "d50817df4301e79a6b2330d4d8a3a825076f3118c4b4a9872be089820286b127"), looks := true }, kinds := [], alts := [], laidByText := true, laidKinds := [.data, .data, .data, .sentinel, .sentinel], laidTests := true, laidLooks := .later }
def WishPlansCardSaid : Prop := Claim7.holds Tryz.pinned (.plain (OpenSpec.ofChange wishPlansSpec)) wishPlansCard

/-- THE SECOND FORM's CARD OF 'bombardelaw37.WishPermits'. -/
def wishPermitsUptoCard : Claim7 := { stood := { row := wishPermitsUptoRow, standIns := [], harness := (true, "d50817df4301e79a6b2330d4d8a3a825076f3118c4b4a9872be089820286b127"), looks := true }, kinds := [], alts := [], laidByText := true, laidKinds := [.data, .data, .data, .sentinel, .sentinel], laidTests := true, laidLooks := .later }
def WishPermitsUptoCardSaid : Prop := Claim7.holds Tryz.pinned (.plain (OpenSpec.upto wishPermitsSpec)) wishPermitsUptoCard

/-- THE SECOND FORM's CARD OF 'bombardelaw37.WishHeights'. -/
def wishHeightsUptoCard : Claim7 := { stood := { row := wishHeightsUptoRow, standIns := [], harness := (true, "d50817df4301e79a6b2330d4d8a3a825076f3118c4b4a9872be089820286b127"), looks := true }, kinds := [], alts := [], laidByText := true, laidKinds := [.data, .data, .data, .sentinel, .sentinel], laidTests := true, laidLooks := .later }
def WishHeightsUptoCardSaid : Prop := Claim7.holds Tryz.pinned (.plain (OpenSpec.upto wishHeightsSpec)) wishHeightsUptoCard

/-- THE SECOND FORM's CARD OF 'bombardelaw37.WishConflicts'. -/
def wishConflictsUptoCard : Claim7 := { stood := { row := wishConflictsUptoRow, standIns := [], harness := (true, "d50817df4301e79a6b2330d4d8a3a825076f3118c4b4a9872be089820286b127"), looks := true }, kinds := [], alts := [], laidByText := true, laidKinds := [.data, .data, .data, .sentinel, .sentinel], laidTests := true, laidLooks := .later }
def WishConflictsUptoCardSaid : Prop := Claim7.holds Tryz.pinned (.plain (OpenSpec.upto wishConflictsSpec)) wishConflictsUptoCard

/-- THE SECOND FORM's CARD OF 'bombardelaw37.WishPlans'. -/
def wishPlansUptoCard : Claim7 := { stood := { row := wishPlansUptoRow, standIns := [], harness := (true, "d50817df4301e79a6b2330d4d8a3a825076f3118c4b4a9872be089820286b127"), looks := true }, kinds := [], alts := [], laidByText := true, laidKinds := [.data, .data, .data, .sentinel, .sentinel], laidTests := true, laidLooks := .later }
def WishPlansUptoCardSaid : Prop := Claim7.holds Tryz.pinned (.plain (OpenSpec.upto wishPlansSpec)) wishPlansUptoCard
end Rows
end Go.Proofs.YtkamepalomkpbaaGreatDoor
