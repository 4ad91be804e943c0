/-
  DERIVED. GIVEN WITH THE SEED: THE CARDS: each row of YtendjepcjmfmfaaGreatDoorRows.lean that lists a variable, with what it lists TIED to the program's text (the seventh form; the later family's looks); each row that meets fmt, with fmt's text TOLD by the authors' own Lean function (tested against real Go, not proved from fmt's source: count such statements apart). THE CARD IS WHAT COUNTS. Prove the row's statement (the work); the ties are given (YtendjepcjmfmfaaGreatDoorTie.lean); close each card by the builder's one call (the guide's Derived/Test/ToyasCard.lean, 'card_holds'). Laid BY PROGRAM, IN A SANDBOX (cutbox-door.mjs). By AI agents, Wed Nov 11 2026. No macro, syntax, notation, axiom, sorry.
-/
import Derived.Test.YtendjepcjmfmfaaGreatDoorRows
import GoSem.ClaimSeven
namespace Go.Proofs.YtendjepcjmfmfaaGreatDoor
namespace Rows

/-- THE TIED CARD OF 'bombardelaw42.BeatPartials'. -/
def beatPartialsCard : Claim7 := { stood := { row := beatPartialsRow, standIns := [], harness := (true, "926fc2ab661f039162938f19a47c0af912a764bd6dfd632659d388252cea7a9e"), looks := false }, kinds := [], alts := [], laidByText := true, laidKinds := [.data, .data, .data], laidTests := true, laidLooks := .later }
def BeatPartialsCardSaid : Prop := Claim7.holds Tryz.pinned (.plain (OpenSpec.ofChange beatPartialsSpec)) beatPartialsCard

/-- THE TIED CARD OF 'bombardelaw42.BeatRatios'. -/
def beatRatiosCard : Claim7 := { stood := { row := beatRatiosRow, standIns := [], harness := (true, "926fc2ab661f039162938f19a47c0af912a764bd6dfd632659d388252cea7a9e"), looks := false }, kinds := [], alts := [], laidByText := true, laidKinds := [.data, .data, .data], laidTests := true, laidLooks := .later }
def BeatRatiosCardSaid : Prop := Claim7.holds Tryz.pinned (.plain (OpenSpec.ofChange beatRatiosSpec)) beatRatiosCard

/-- THE TIED CARD OF 'bombardelaw42.BeatFrequencies'. -/
def beatFrequenciesCard : Claim7 := { stood := { row := beatFrequenciesRow, standIns := [], harness := (true, "926fc2ab661f039162938f19a47c0af912a764bd6dfd632659d388252cea7a9e"), looks := false }, kinds := [], alts := [], laidByText := true, laidKinds := [.data, .data, .data], laidTests := true, laidLooks := .later }
def BeatFrequenciesCardSaid : Prop := Claim7.holds Tryz.pinned (.plain (OpenSpec.ofChange beatFrequenciesSpec)) beatFrequenciesCard

/-- THE TIED CARD OF 'bombardelaw42.BeatBounds'. -/
def beatBoundsCard : Claim7 := { stood := { row := beatBoundsRow, standIns := [], harness := (true, "926fc2ab661f039162938f19a47c0af912a764bd6dfd632659d388252cea7a9e"), looks := false }, kinds := [], alts := [], laidByText := true, laidKinds := [.data, .data, .data], laidTests := true, laidLooks := .later }
def BeatBoundsCardSaid : Prop := Claim7.holds Tryz.pinned (.plain (OpenSpec.ofChange beatBoundsSpec)) beatBoundsCard

/-- THE TIED CARD OF 'bombardelaw42.BeatCompares'. -/
def beatComparesCard : Claim7 := { stood := { row := beatComparesRow, standIns := [], harness := (true, "926fc2ab661f039162938f19a47c0af912a764bd6dfd632659d388252cea7a9e"), looks := false }, kinds := [], alts := [], laidByText := true, laidKinds := [.data, .data, .data], laidTests := true, laidLooks := .later }
def BeatComparesCardSaid : Prop := Claim7.holds Tryz.pinned (.plain (OpenSpec.ofChange beatComparesSpec)) beatComparesCard

/-- THE TIED CARD OF 'bombardelaw42.BeatEqual'. -/
def beatEqualCard : Claim7 := { stood := { row := beatEqualRow, standIns := [], harness := (true, "926fc2ab661f039162938f19a47c0af912a764bd6dfd632659d388252cea7a9e"), looks := false }, kinds := [], alts := [], laidByText := true, laidKinds := [.data, .data, .data], laidTests := true, laidLooks := .later }
def BeatEqualCardSaid : Prop := Claim7.holds Tryz.pinned (.plain (OpenSpec.ofChange beatEqualSpec)) beatEqualCard

/-- THE TIED CARD OF 'bombardelaw42.BeatOrders'. -/
def beatOrdersCard : Claim7 := { stood := { row := beatOrdersRow, standIns := [], harness := (true, "926fc2ab661f039162938f19a47c0af912a764bd6dfd632659d388252cea7a9e"), looks := false }, kinds := [], alts := [], laidByText := true, laidKinds := [.data, .data, .data], laidTests := true, laidLooks := .later }
def BeatOrdersCardSaid : Prop := Claim7.holds Tryz.pinned (.plain (OpenSpec.ofChange beatOrdersSpec)) beatOrdersCard

/-- THE TIED CARD OF 'bombardelaw42.BeatErrors'. -/
def beatErrorsCard : Claim7 := { stood := { row := beatErrorsRow, standIns := [], harness := (true, "926fc2ab661f039162938f19a47c0af912a764bd6dfd632659d388252cea7a9e"), looks := false }, kinds := [], alts := [], laidByText := true, laidKinds := [.data, .data, .data], laidTests := true, laidLooks := .later }
def BeatErrorsCardSaid : Prop := Claim7.holds Tryz.pinned (.plain (OpenSpec.ofChange beatErrorsSpec)) beatErrorsCard

/-- THE SECOND FORM's CARD OF 'bombardelaw42.BeatPartials'. -/
def beatPartialsUptoCard : Claim7 := { stood := { row := beatPartialsUptoRow, standIns := [], harness := (true, "926fc2ab661f039162938f19a47c0af912a764bd6dfd632659d388252cea7a9e"), looks := false }, kinds := [], alts := [], laidByText := true, laidKinds := [.data, .data, .data], laidTests := true, laidLooks := .later }
def BeatPartialsUptoCardSaid : Prop := Claim7.holds Tryz.pinned (.plain (OpenSpec.upto beatPartialsSpec)) beatPartialsUptoCard

/-- THE SECOND FORM's CARD OF 'bombardelaw42.BeatRatios'. -/
def beatRatiosUptoCard : Claim7 := { stood := { row := beatRatiosUptoRow, standIns := [], harness := (true, "926fc2ab661f039162938f19a47c0af912a764bd6dfd632659d388252cea7a9e"), looks := false }, kinds := [], alts := [], laidByText := true, laidKinds := [.data, .data, .data], laidTests := true, laidLooks := .later }
def BeatRatiosUptoCardSaid : Prop := Claim7.holds Tryz.pinned (.plain (OpenSpec.upto beatRatiosSpec)) beatRatiosUptoCard

/-- THE SECOND FORM's CARD OF 'bombardelaw42.BeatFrequencies'. -/
def beatFrequenciesUptoCard : Claim7 := { stood := { row := beatFrequenciesUptoRow, standIns := [], harness := (true, "926fc2ab661f039162938f19a47c0af912a764bd6dfd632659d388252cea7a9e"), looks := false }, kinds := [], alts := [], laidByText := true, laidKinds := [.data, .data, .data], laidTests := true, laidLooks := .later }
def BeatFrequenciesUptoCardSaid : Prop := Claim7.holds Tryz.pinned (.plain (OpenSpec.upto beatFrequenciesSpec)) beatFrequenciesUptoCard

/-- THE SECOND FORM's CARD OF 'bombardelaw42.BeatBounds'. -/
def beatBoundsUptoCard : Claim7 := { stood := { row := beatBoundsUptoRow, standIns := [], harness := (true, "926fc2ab661f039162938f19a47c0af912a764bd6dfd632659d388252cea7a9e"), looks := false }, kinds := [], alts := [], laidByText := true, laidKinds := [.data, .data, .data], laidTests := true, laidLooks := .later }
def BeatBoundsUptoCardSaid : Prop := Claim7.holds Tryz.pinned (.plain (OpenSpec.upto beatBoundsSpec)) beatBoundsUptoCard

/-- THE SECOND FORM's CARD OF 'bombardelaw42.BeatCompares'. -/
def beatComparesUptoCard : Claim7 := { stood := { row := beatComparesUptoRow, standIns := [], harness := (true, "926fc2ab661f039162938f19a47c0af912a764bd6dfd632659d388252cea7a9e"), looks := false }, kinds := [], alts := [], laidByText := true, laidKinds := [.data, .data, .data], laidTests := true, laidLooks := .later }
def BeatComparesUptoCardSaid : Prop := Claim7.holds Tryz.pinned (.plain (OpenSpec.upto beatComparesSpec)) beatComparesUptoCard

/-- THE SECOND FORM's CARD OF 'bombardelaw42.BeatEqual'. -/
def beatEqualUptoCard : Claim7 := { stood := { row := beatEqualUptoRow, standIns := [], harness := (true, "926fc2ab661f039162938f19a47c0af912a764bd6dfd632659d388252cea7a9e"), looks := false }, kinds := [], alts := [], laidByText := true, laidKinds := [.data, .data, .data], laidTests := true, laidLooks := .later }
def BeatEqualUptoCardSaid : Prop := Claim7.holds Tryz.pinned (.plain (OpenSpec.upto beatEqualSpec)) beatEqualUptoCard

/-- THE SECOND FORM's CARD OF 'bombardelaw42.BeatOrders'. -/
def beatOrdersUptoCard : Claim7 := { stood := { row := beatOrdersUptoRow, standIns := [], harness := (true, "926fc2ab661f039162938f19a47c0af912a764bd6dfd632659d388252cea7a9e"), looks := false }, kinds := [], alts := [], laidByText := true, laidKinds := [.data, .data, .data], laidTests := true, laidLooks := .later }
def BeatOrdersUptoCardSaid : Prop := Claim7.holds Tryz.pinned (.plain (OpenSpec.upto beatOrdersSpec)) beatOrdersUptoCard

/-- THE SECOND FORM's CARD OF 'bombardelaw42.BeatErrors'. -/
def beatErrorsUptoCard : Claim7 := { stood := { row := beatErrorsUptoRow, standIns := [], harness := (true, "926fc2ab661f039162938f19a47c0af912a764bd6dfd632659d388252cea7a9e"), looks := false }, kinds := [], alts := [], laidByText := true, laidKinds := [.data, .data, .data], laidTests := true, laidLooks := .later }
def BeatErrorsUptoCardSaid : Prop := Claim7.holds Tryz.pinned (.plain (OpenSpec.upto beatErrorsSpec)) beatErrorsUptoCard
end Rows
end Go.Proofs.YtendjepcjmfmfaaGreatDoor
