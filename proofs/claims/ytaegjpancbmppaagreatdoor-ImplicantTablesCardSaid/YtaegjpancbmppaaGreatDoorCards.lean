/-
  DERIVED. GIVEN WITH THE SEED: THE CARDS: each row of YtaegjpancbmppaaGreatDoorRows.lean that lists a variable, with what it lists TIED to the program's text (the seventh form; the later family's looks); each row that meets fmt, with fmt's text TOLD by the authors' own Lean function (tested against real Go, not proved from fmt's source: count such statements apart). THE CARD IS WHAT COUNTS. Prove the row's statement (the work); the ties are given (YtaegjpancbmppaaGreatDoorTie.lean); close each card by the builder's one call (the guide's Derived/Test/ToyasCard.lean, 'card_holds'). Laid BY PROGRAM, IN A SANDBOX (cutbox-door.mjs). By AI agents, Wed Nov 11 2026. No macro, syntax, notation, axiom, sorry.
-/
import Derived.Test.YtaegjpancbmppaaGreatDoorRows
import GoSem.ClaimSeven
namespace Go.Proofs.YtaegjpancbmppaaGreatDoor
namespace Rows

/-- THE TIED CARD OF 'bombardelaw12.ImplicantLeast'. -/
def implicantLeastCard : Claim7 := { stood := { row := implicantLeastRow, standIns := [], harness := (true, "1c4533cc2189037f359d8b996309368d5cb7d9e7aaf98c242b7688feaf9e7890"), looks := false }, kinds := [], alts := [], laidByText := true, laidKinds := [.data, .data, .data], laidTests := true, laidLooks := .later }
def ImplicantLeastCardSaid : Prop := Claim7.holds Tryz.pinned (.plain (OpenSpec.ofChange implicantLeastSpec)) implicantLeastCard

/-- THE TIED CARD OF 'bombardelaw12.ImplicantApart'. -/
def implicantApartCard : Claim7 := { stood := { row := implicantApartRow, standIns := [], harness := (true, "1c4533cc2189037f359d8b996309368d5cb7d9e7aaf98c242b7688feaf9e7890"), looks := false }, kinds := [], alts := [], laidByText := true, laidKinds := [.data, .data, .data], laidTests := true, laidLooks := .later }
def ImplicantApartCardSaid : Prop := Claim7.holds Tryz.pinned (.plain (OpenSpec.ofChange implicantApartSpec)) implicantApartCard

/-- THE TIED CARD OF 'bombardelaw12.ImplicantLimits'. -/
def implicantLimitsCard : Claim7 := { stood := { row := implicantLimitsRow, standIns := [], harness := (true, "1c4533cc2189037f359d8b996309368d5cb7d9e7aaf98c242b7688feaf9e7890"), looks := false }, kinds := [], alts := [], laidByText := true, laidKinds := [.data, .data, .data], laidTests := true, laidLooks := .later }
def ImplicantLimitsCardSaid : Prop := Claim7.holds Tryz.pinned (.plain (OpenSpec.ofChange implicantLimitsSpec)) implicantLimitsCard

/-- THE TIED CARD OF 'bombardelaw12.ImplicantRows'. -/
def implicantRowsCard : Claim7 := { stood := { row := implicantRowsRow, standIns := [], harness := (true, "1c4533cc2189037f359d8b996309368d5cb7d9e7aaf98c242b7688feaf9e7890"), looks := false }, kinds := [], alts := [], laidByText := true, laidKinds := [.data, .data, .data], laidTests := true, laidLooks := .later }
def ImplicantRowsCardSaid : Prop := Claim7.holds Tryz.pinned (.plain (OpenSpec.ofChange implicantRowsSpec)) implicantRowsCard

/-- THE TIED CARD OF 'bombardelaw12.ImplicantPrimes'. -/
def implicantPrimesCard : Claim7 := { stood := { row := implicantPrimesRow, standIns := [], harness := (true, "1c4533cc2189037f359d8b996309368d5cb7d9e7aaf98c242b7688feaf9e7890"), looks := false }, kinds := [], alts := [], laidByText := true, laidKinds := [.data, .data, .data], laidTests := true, laidLooks := .later }
def ImplicantPrimesCardSaid : Prop := Claim7.holds Tryz.pinned (.plain (OpenSpec.ofChange implicantPrimesSpec)) implicantPrimesCard

/-- THE TIED CARD OF 'bombardelaw12.ImplicantVerifies'. -/
def implicantVerifiesCard : Claim7 := { stood := { row := implicantVerifiesRow, standIns := [], harness := (true, "1c4533cc2189037f359d8b996309368d5cb7d9e7aaf98c242b7688feaf9e7890"), looks := false }, kinds := [], alts := [], laidByText := true, laidKinds := [.data, .data, .data], laidTests := true, laidLooks := .later }
def ImplicantVerifiesCardSaid : Prop := Claim7.holds Tryz.pinned (.plain (OpenSpec.ofChange implicantVerifiesSpec)) implicantVerifiesCard

/-- THE TIED CARD OF 'bombardelaw12.ImplicantChecks'. -/
def implicantChecksCard : Claim7 := { stood := { row := implicantChecksRow, standIns := [], harness := (true, "1c4533cc2189037f359d8b996309368d5cb7d9e7aaf98c242b7688feaf9e7890"), looks := false }, kinds := [], alts := [], laidByText := true, laidKinds := [.data, .data, .data], laidTests := true, laidLooks := .later }
def ImplicantChecksCardSaid : Prop := Claim7.holds Tryz.pinned (.plain (OpenSpec.ofChange implicantChecksSpec)) implicantChecksCard

/-- THE TIED CARD OF 'bombardelaw12.ImplicantTables'. -/
def implicantTablesCard : Claim7 := { stood := { row := implicantTablesRow, standIns := [], harness := (true, "1c4533cc2189037f359d8b996309368d5cb7d9e7aaf98c242b7688feaf9e7890"), looks := false }, kinds := [], alts := [], laidByText := true, laidKinds := [.data, .data, .data], laidTests := true, laidLooks := .later }
def ImplicantTablesCardSaid : Prop := Claim7.holds Tryz.pinned (.plain (OpenSpec.ofChange implicantTablesSpec)) implicantTablesCard

/-- THE TIED CARD OF 'bombardelaw12.ImplicantSums'. -/
def implicantSumsCard : Claim7 := { stood := { row := implicantSumsRow, standIns := [], harness := (true, "1c4533cc2189037f359d8b996309368d5cb7d9e7aaf98c242b7688feaf9e7890"), looks := false }, kinds := [], alts := [], laidByText := true, laidKinds := [.data, .data, .data], laidTests := true, laidLooks := .later }
def ImplicantSumsCardSaid : Prop := Claim7.holds Tryz.pinned (.plain (OpenSpec.ofChange implicantSumsSpec)) implicantSumsCard

/-- THE SECOND FORM's CARD OF 'bombardelaw12.ImplicantLeast'. -/
def implicantLeastUptoCard : Claim7 := { stood := { row := implicantLeastUptoRow, standIns := [], harness := (true, "1c4533cc2189037f359d8b996309368d5cb7d9e7aaf98c242b7688feaf9e7890"), looks := false }, kinds := [], alts := [], laidByText := true, laidKinds := [.data, .data, .data], laidTests := true, laidLooks := .later }
def ImplicantLeastUptoCardSaid : Prop := Claim7.holds Tryz.pinned (.plain (OpenSpec.upto implicantLeastSpec)) implicantLeastUptoCard

/-- THE SECOND FORM's CARD OF 'bombardelaw12.ImplicantApart'. -/
def implicantApartUptoCard : Claim7 := { stood := { row := implicantApartUptoRow, standIns := [], harness := (true, "1c4533cc2189037f359d8b996309368d5cb7d9e7aaf98c242b7688feaf9e7890"), looks := false }, kinds := [], alts := [], laidByText := true, laidKinds := [.data, .data, .data], laidTests := true, laidLooks := .later }
def ImplicantApartUptoCardSaid : Prop := Claim7.holds Tryz.pinned (.plain (OpenSpec.upto implicantApartSpec)) implicantApartUptoCard

/-- THE SECOND FORM's CARD OF 'bombardelaw12.ImplicantLimits'. -/
def implicantLimitsUptoCard : Claim7 := { stood := { row := implicantLimitsUptoRow, standIns := [], harness := (true, "1c4533cc2189037f359d8b996309368d5cb7d9e7aaf98c242b7688feaf9e7890"), looks := false }, kinds := [], alts := [], laidByText := true, laidKinds := [.data, .data, .data], laidTests := true, laidLooks := .later }
def ImplicantLimitsUptoCardSaid : Prop := Claim7.holds Tryz.pinned (.plain (OpenSpec.upto implicantLimitsSpec)) implicantLimitsUptoCard

/-- THE SECOND FORM's CARD OF 'bombardelaw12.ImplicantRows'. -/
def implicantRowsUptoCard : Claim7 := { stood := { row := implicantRowsUptoRow, standIns := [], harness := (true, "1c4533cc2189037f359d8b996309368d5cb7d9e7aaf98c242b7688feaf9e7890"), looks := false }, kinds := [], alts := [], laidByText := true, laidKinds := [.data, .data, .data], laidTests := true, laidLooks := .later }
def ImplicantRowsUptoCardSaid : Prop := Claim7.holds Tryz.pinned (.plain (OpenSpec.upto implicantRowsSpec)) implicantRowsUptoCard

/-- THE SECOND FORM's CARD OF 'bombardelaw12.ImplicantPrimes'. -/
def implicantPrimesUptoCard : Claim7 := { stood := { row := implicantPrimesUptoRow, standIns := [], harness := (true, "1c4533cc2189037f359d8b996309368d5cb7d9e7aaf98c242b7688feaf9e7890"), looks := false }, kinds := [], alts := [], laidByText := true, laidKinds := [.data, .data, .data], laidTests := true, laidLooks := .later }
def ImplicantPrimesUptoCardSaid : Prop := Claim7.holds Tryz.pinned (.plain (OpenSpec.upto implicantPrimesSpec)) implicantPrimesUptoCard

/-- THE SECOND FORM's CARD OF 'bombardelaw12.ImplicantVerifies'. -/
def implicantVerifiesUptoCard : Claim7 := { stood := { row := implicantVerifiesUptoRow, standIns := [], harness := (true, "1c4533cc2189037f359d8b996309368d5cb7d9e7aaf98c242b7688feaf9e7890"), looks := false }, kinds := [], alts := [], laidByText := true, laidKinds := [.data, .data, .data], laidTests := true, laidLooks := .later }
def ImplicantVerifiesUptoCardSaid : Prop := Claim7.holds Tryz.pinned (.plain (OpenSpec.upto implicantVerifiesSpec)) implicantVerifiesUptoCard

/-- THE SECOND FORM's CARD OF 'bombardelaw12.ImplicantChecks'. -/
def implicantChecksUptoCard : Claim7 := { stood := { row := implicantChecksUptoRow, standIns := [], harness := (true, "1c4533cc2189037f359d8b996309368d5cb7d9e7aaf98c242b7688feaf9e7890"), looks := false }, kinds := [], alts := [], laidByText := true, laidKinds := [.data, .data, .data], laidTests := true, laidLooks := .later }
def ImplicantChecksUptoCardSaid : Prop := Claim7.holds Tryz.pinned (.plain (OpenSpec.upto implicantChecksSpec)) implicantChecksUptoCard

/-- THE SECOND FORM's CARD OF 'bombardelaw12.ImplicantTables'. -/
def implicantTablesUptoCard : Claim7 := { stood := { row := implicantTablesUptoRow, standIns := [], harness := (true, "1c4533cc2189037f359d8b996309368d5cb7d9e7aaf98c242b7688feaf9e7890"), looks := false }, kinds := [], alts := [], laidByText := true, laidKinds := [.data, .data, .data], laidTests := true, laidLooks := .later }
def ImplicantTablesUptoCardSaid : Prop := Claim7.holds Tryz.pinned (.plain (OpenSpec.upto implicantTablesSpec)) implicantTablesUptoCard

/-- THE SECOND FORM's CARD OF 'bombardelaw12.ImplicantSums'. -/
def implicantSumsUptoCard : Claim7 := { stood := { row := implicantSumsUptoRow, standIns := [], harness := (true, "1c4533cc2189037f359d8b996309368d5cb7d9e7aaf98c242b7688feaf9e7890"), looks := false }, kinds := [], alts := [], laidByText := true, laidKinds := [.data, .data, .data], laidTests := true, laidLooks := .later }
def ImplicantSumsUptoCardSaid : Prop := Claim7.holds Tryz.pinned (.plain (OpenSpec.upto implicantSumsSpec)) implicantSumsUptoCard
end Rows
end Go.Proofs.YtaegjpancbmppaaGreatDoor
