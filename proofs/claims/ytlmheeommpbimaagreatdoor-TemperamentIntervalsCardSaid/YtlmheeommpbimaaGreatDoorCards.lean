/-
  DERIVED. GIVEN WITH THE SEED: THE CARDS: each row of YtlmheeommpbimaaGreatDoorRows.lean that lists a variable, with what it lists TIED to the program's text (the seventh form; the later family's looks); each row that meets fmt, with fmt's text TOLD by the authors' own Lean function (tested against real Go, not proved from fmt's source: count such statements apart). THE CARD IS WHAT COUNTS. Prove the row's statement (the work); the ties are given (YtlmheeommpbimaaGreatDoorTie.lean); close each card by the builder's one call (the guide's Derived/Test/ToyasCard.lean, 'card_holds'). Laid BY PROGRAM, IN A SANDBOX (cutbox-door.mjs). By AI agents, Wed Nov 11 2026. No macro, syntax, notation, axiom, sorry.
-/
import Derived.Test.YtlmheeommpbimaaGreatDoorRows
import GoSem.ClaimSeven
namespace Go.Proofs.YtlmheeommpbimaaGreatDoor
namespace Rows

/-- THE TIED CARD OF 'bombardelaw41.TemperamentRests'. -/
def temperamentRestsCard : Claim7 := { stood := { row := temperamentRestsRow, standIns := [], harness := (true, "3a81b1504c9c55dd616959bbc93529e30716aeabc4d37a29deda7f75c16fbb03"), looks := true }, kinds := [], alts := [], laidByText := true, laidKinds := [.data, .data, .data], laidTests := true, laidLooks := .later }
def TemperamentRestsCardSaid : Prop := Claim7.holds Tryz.pinned (.plain (OpenSpec.ofChange temperamentRestsSpec)) temperamentRestsCard

/-- THE TIED CARD OF 'bombardelaw41.TemperamentEqual'. -/
def temperamentEqualCard : Claim7 := { stood := { row := temperamentEqualRow, standIns := [], harness := (true, "3a81b1504c9c55dd616959bbc93529e30716aeabc4d37a29deda7f75c16fbb03"), looks := true }, kinds := [], alts := [], laidByText := true, laidKinds := [.data, .data, .data], laidTests := true, laidLooks := .later }
def TemperamentEqualCardSaid : Prop := Claim7.holds Tryz.pinned (.plain (OpenSpec.ofChange temperamentEqualSpec)) temperamentEqualCard

/-- THE TIED CARD OF 'bombardelaw41.TemperamentNamed'. -/
def temperamentNamedCard : Claim7 := { stood := { row := temperamentNamedRow, standIns := [], harness := (true, "3a81b1504c9c55dd616959bbc93529e30716aeabc4d37a29deda7f75c16fbb03"), looks := true }, kinds := [], alts := [], laidByText := true, laidKinds := [.data, .data, .data], laidTests := true, laidLooks := .later }
def TemperamentNamedCardSaid : Prop := Claim7.holds Tryz.pinned (.plain (OpenSpec.ofChange temperamentNamedSpec)) temperamentNamedCard

/-- THE TIED CARD OF 'bombardelaw41.TemperamentChecks'. -/
def temperamentChecksCard : Claim7 := { stood := { row := temperamentChecksRow, standIns := [], harness := (true, "3a81b1504c9c55dd616959bbc93529e30716aeabc4d37a29deda7f75c16fbb03"), looks := true }, kinds := [], alts := [], laidByText := true, laidKinds := [.data, .data, .data], laidTests := true, laidLooks := .later }
def TemperamentChecksCardSaid : Prop := Claim7.holds Tryz.pinned (.plain (OpenSpec.ofChange temperamentChecksSpec)) temperamentChecksCard

/-- THE TIED CARD OF 'bombardelaw41.TemperamentNotes'. -/
def temperamentNotesCard : Claim7 := { stood := { row := temperamentNotesRow, standIns := [], harness := (true, "3a81b1504c9c55dd616959bbc93529e30716aeabc4d37a29deda7f75c16fbb03"), looks := true }, kinds := [], alts := [], laidByText := true, laidKinds := [.data, .data, .data, .sentinel, .sentinel], laidTests := true, laidLooks := .later }
def TemperamentNotesCardSaid : Prop := Claim7.holds Tryz.pinned (.plain (OpenSpec.ofChange temperamentNotesSpec)) temperamentNotesCard

/-- THE TIED CARD OF 'bombardelaw41.TemperamentSame'. -/
def temperamentSameCard : Claim7 := { stood := { row := temperamentSameRow, standIns := [], harness := (true, "3a81b1504c9c55dd616959bbc93529e30716aeabc4d37a29deda7f75c16fbb03"), looks := true }, kinds := [], alts := [], laidByText := true, laidKinds := [.data, .data, .data, .sentinel, .sentinel], laidTests := true, laidLooks := .later }
def TemperamentSameCardSaid : Prop := Claim7.holds Tryz.pinned (.plain (OpenSpec.ofChange temperamentSameSpec)) temperamentSameCard

/-- THE TIED CARD OF 'bombardelaw41.TemperamentIntervals'. -/
def temperamentIntervalsCard : Claim7 := { stood := { row := temperamentIntervalsRow, standIns := [], harness := (true, "3a81b1504c9c55dd616959bbc93529e30716aeabc4d37a29deda7f75c16fbb03"), looks := true }, kinds := [], alts := [], laidByText := true, laidKinds := [.data, .data, .data, .sentinel, .sentinel], laidTests := true, laidLooks := .later }
def TemperamentIntervalsCardSaid : Prop := Claim7.holds Tryz.pinned (.plain (OpenSpec.ofChange temperamentIntervalsSpec)) temperamentIntervalsCard

/-- THE SECOND FORM's CARD OF 'bombardelaw41.TemperamentRests'. -/
def temperamentRestsUptoCard : Claim7 := { stood := { row := temperamentRestsUptoRow, standIns := [], harness := (true, "3a81b1504c9c55dd616959bbc93529e30716aeabc4d37a29deda7f75c16fbb03"), looks := true }, kinds := [], alts := [], laidByText := true, laidKinds := [.data, .data, .data], laidTests := true, laidLooks := .later }
def TemperamentRestsUptoCardSaid : Prop := Claim7.holds Tryz.pinned (.plain (OpenSpec.upto temperamentRestsSpec)) temperamentRestsUptoCard

/-- THE SECOND FORM's CARD OF 'bombardelaw41.TemperamentEqual'. -/
def temperamentEqualUptoCard : Claim7 := { stood := { row := temperamentEqualUptoRow, standIns := [], harness := (true, "3a81b1504c9c55dd616959bbc93529e30716aeabc4d37a29deda7f75c16fbb03"), looks := true }, kinds := [], alts := [], laidByText := true, laidKinds := [.data, .data, .data], laidTests := true, laidLooks := .later }
def TemperamentEqualUptoCardSaid : Prop := Claim7.holds Tryz.pinned (.plain (OpenSpec.upto temperamentEqualSpec)) temperamentEqualUptoCard

/-- THE SECOND FORM's CARD OF 'bombardelaw41.TemperamentNamed'. -/
def temperamentNamedUptoCard : Claim7 := { stood := { row := temperamentNamedUptoRow, standIns := [], harness := (true, "3a81b1504c9c55dd616959bbc93529e30716aeabc4d37a29deda7f75c16fbb03"), looks := true }, kinds := [], alts := [], laidByText := true, laidKinds := [.data, .data, .data], laidTests := true, laidLooks := .later }
def TemperamentNamedUptoCardSaid : Prop := Claim7.holds Tryz.pinned (.plain (OpenSpec.upto temperamentNamedSpec)) temperamentNamedUptoCard

/-- THE SECOND FORM's CARD OF 'bombardelaw41.TemperamentChecks'. -/
def temperamentChecksUptoCard : Claim7 := { stood := { row := temperamentChecksUptoRow, standIns := [], harness := (true, "3a81b1504c9c55dd616959bbc93529e30716aeabc4d37a29deda7f75c16fbb03"), looks := true }, kinds := [], alts := [], laidByText := true, laidKinds := [.data, .data, .data], laidTests := true, laidLooks := .later }
def TemperamentChecksUptoCardSaid : Prop := Claim7.holds Tryz.pinned (.plain (OpenSpec.upto temperamentChecksSpec)) temperamentChecksUptoCard

/-- THE SECOND FORM's CARD OF 'bombardelaw41.TemperamentNotes'. -/
def temperamentNotesUptoCard : Claim7 := { stood := { row := temperamentNotesUptoRow, standIns := [], harness := (true, "3a81b1504c9c55dd616959bbc93529e30716aeabc4d37a29deda7f75c16fbb03"), looks := true }, kinds := [], alts := [], laidByText := true, laidKinds := [.data, .data, .data, .sentinel, .sentinel], laidTests := true, laidLooks := .later }
def TemperamentNotesUptoCardSaid : Prop := Claim7.holds Tryz.pinned (.plain (OpenSpec.upto temperamentNotesSpec)) temperamentNotesUptoCard

/-- THE SECOND FORM's CARD OF 'bombardelaw41.TemperamentSame'. -/
def temperamentSameUptoCard : Claim7 := { stood := { row := temperamentSameUptoRow, standIns := [], harness := (true, "3a81b1504c9c55dd616959bbc93529e30716aeabc4d37a29deda7f75c16fbb03"), looks := true }, kinds := [], alts := [], laidByText := true, laidKinds := [.data, .data, .data, .sentinel, .sentinel], laidTests := true, laidLooks := .later }
def TemperamentSameUptoCardSaid : Prop := Claim7.holds Tryz.pinned (.plain (OpenSpec.upto temperamentSameSpec)) temperamentSameUptoCard

/-- THE SECOND FORM's CARD OF 'bombardelaw41.TemperamentIntervals'. -/
def temperamentIntervalsUptoCard : Claim7 := { stood := { row := temperamentIntervalsUptoRow, standIns := [], harness := (true, "3a81b1504c9c55dd616959bbc93529e30716aeabc4d37a29deda7f75c16fbb03"), looks := true }, kinds := [], alts := [], laidByText := true, laidKinds := [.data, .data, .data, .sentinel, .sentinel], laidTests := true, laidLooks := .later }
def TemperamentIntervalsUptoCardSaid : Prop := Claim7.holds Tryz.pinned (.plain (OpenSpec.upto temperamentIntervalsSpec)) temperamentIntervalsUptoCard
end Rows
end Go.Proofs.YtlmheeommpbimaaGreatDoor
