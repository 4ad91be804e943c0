/-
  DERIVED. GIVEN WITH THE SEED: THE CARDS: each row of YtkamepalomkpbaaDoorRows.lean that lists a variable, with what it lists TIED to the program's text (the seventh form; the later family's looks); each row that meets fmt, with fmt's text TOLD by the authors' own Lean function (tested against real Go, not proved from fmt's source: count such statements apart). THE CARD IS WHAT COUNTS. Prove the row's statement (the work); the ties are given (YtkamepalomkpbaaDoorTie.lean); close each card by the builder's one call (the guide's Derived/Test/ToyasCard.lean, 'card_holds'). Laid BY PROGRAM, IN A SANDBOX (cutbox-door.mjs). By AI agents, Wed Nov 11 2026. No macro, syntax, notation, axiom, sorry.
-/
import Derived.Test.YtkamepalomkpbaaDoorRows
import GoSem.ClaimSeven
namespace Go.Proofs.YtkamepalomkpbaaDoor
namespace Rows

/-- THE TIED CARD OF 'bombardelaw37.WishParts'. -/
def wishPartsCard : Claim7 := { stood := { row := wishPartsRow, standIns := [], harness := (true, "bec06c6c33eb0c8718071ce8b5d34d0f7e19a5988588506866305fdf2fdc25e6"), looks := false }, kinds := [], alts := [], laidByText := true, laidKinds := [.data, .data, .data], laidTests := true, laidLooks := .later }
def WishPartsCardSaid : Prop := Claim7.holds Tryd.pinned (.plain (OpenSpec.ofChange wishPartsSpec)) wishPartsCard

/-- THE TIED CARD OF 'bombardelaw37.WishAlone'. -/
def wishAloneCard : Claim7 := { stood := { row := wishAloneRow, standIns := [], harness := (true, "bec06c6c33eb0c8718071ce8b5d34d0f7e19a5988588506866305fdf2fdc25e6"), looks := false }, kinds := [], alts := [], laidByText := true, laidKinds := [.data, .data, .data], laidTests := true, laidLooks := .later }
def WishAloneCardSaid : Prop := Claim7.holds Tryd.pinned (.plain (OpenSpec.ofChange wishAloneSpec)) wishAloneCard

/-- THE TIED CARD OF 'bombardelaw37.WishChecks'. -/
def wishChecksCard : Claim7 := { stood := { row := wishChecksRow, standIns := [], harness := (true, "bec06c6c33eb0c8718071ce8b5d34d0f7e19a5988588506866305fdf2fdc25e6"), looks := false }, kinds := [], alts := [], laidByText := true, laidKinds := [.data, .data, .data], laidTests := true, laidLooks := .later }
def WishChecksCardSaid : Prop := Claim7.holds Tryd.pinned (.plain (OpenSpec.ofChange wishChecksSpec)) wishChecksCard

/-- THE SECOND FORM's CARD OF 'bombardelaw37.WishParts'. -/
def wishPartsUptoCard : Claim7 := { stood := { row := wishPartsUptoRow, standIns := [], harness := (true, "bec06c6c33eb0c8718071ce8b5d34d0f7e19a5988588506866305fdf2fdc25e6"), looks := false }, kinds := [], alts := [], laidByText := true, laidKinds := [.data, .data, .data], laidTests := true, laidLooks := .later }
def WishPartsUptoCardSaid : Prop := Claim7.holds Tryd.pinned (.plain (OpenSpec.upto wishPartsSpec)) wishPartsUptoCard

/-- THE SECOND FORM's CARD OF 'bombardelaw37.WishAlone'. -/
def wishAloneUptoCard : Claim7 := { stood := { row := wishAloneUptoRow, standIns := [], harness := (true, "bec06c6c33eb0c8718071ce8b5d34d0f7e19a5988588506866305fdf2fdc25e6"), looks := false }, kinds := [], alts := [], laidByText := true, laidKinds := [.data, .data, .data], laidTests := true, laidLooks := .later }
def WishAloneUptoCardSaid : Prop := Claim7.holds Tryd.pinned (.plain (OpenSpec.upto wishAloneSpec)) wishAloneUptoCard

/-- THE SECOND FORM's CARD OF 'bombardelaw37.WishChecks'. -/
def wishChecksUptoCard : Claim7 := { stood := { row := wishChecksUptoRow, standIns := [], harness := (true, "bec06c6c33eb0c8718071ce8b5d34d0f7e19a5988588506866305fdf2fdc25e6"), looks := false }, kinds := [], alts := [], laidByText := true, laidKinds := [.data, .data, .data], laidTests := true, laidLooks := .later }
def WishChecksUptoCardSaid : Prop := Claim7.holds Tryd.pinned (.plain (OpenSpec.upto wishChecksSpec)) wishChecksUptoCard
end Rows
end Go.Proofs.YtkamepalomkpbaaDoor
