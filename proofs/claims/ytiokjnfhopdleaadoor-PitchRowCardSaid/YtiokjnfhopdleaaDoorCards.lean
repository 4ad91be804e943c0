/-
  DERIVED. GIVEN WITH THE SEED: THE CARDS: each row of YtiokjnfhopdleaaDoorRows.lean that lists a variable, with what it lists TIED to the program's text (the seventh form; the later family's looks); each row that meets fmt, with fmt's text TOLD by the authors' own Lean function (tested against real Go, not proved from fmt's source: count such statements apart). THE CARD IS WHAT COUNTS. Prove the row's statement (the work); the ties are given (YtiokjnfhopdleaaDoorTie.lean); close each card by the builder's one call (the guide's Derived/Test/ToyasCard.lean, 'card_holds'). Laid BY PROGRAM, IN A SANDBOX (cutbox-door.mjs). By AI agents, Wed Nov 11 2026. No macro, syntax, notation, axiom, sorry.
-/
import Derived.Test.YtiokjnfhopdleaaDoorRows
import GoSem.ClaimSeven
namespace Go.Proofs.YtiokjnfhopdleaaDoor
namespace Rows

/-- THE TIED CARD OF 'bombardelaw13.PitchClasses'. -/
def pitchClassesCard : Claim7 := { stood := { row := pitchClassesRow, standIns := [], harness := (true, "67d77ec3498b0c59790203b4a57becd9bf0d639ebd592f8670671dd24177fc32"), looks := false }, kinds := [], alts := [], laidByText := true, laidKinds := [.data, .data, .data], laidTests := true, laidLooks := .later }
def PitchClassesCardSaid : Prop := Claim7.holds Tryd.pinned (.plain (OpenSpec.ofChange pitchClassesSpec)) pitchClassesCard

/-- THE TIED CARD OF 'bombardelaw13.PitchRow'. -/
def pitchRowCard : Claim7 := { stood := { row := pitchRowRow, standIns := [], harness := (true, "67d77ec3498b0c59790203b4a57becd9bf0d639ebd592f8670671dd24177fc32"), looks := false }, kinds := [], alts := [], laidByText := true, laidKinds := [.data, .data, .data], laidTests := true, laidLooks := .later }
def PitchRowCardSaid : Prop := Claim7.holds Tryd.pinned (.plain (OpenSpec.ofChange pitchRowSpec)) pitchRowCard

/-- THE TIED CARD OF 'bombardelaw13.PitchTurns'. -/
def pitchTurnsCard : Claim7 := { stood := { row := pitchTurnsRow, standIns := [], harness := (true, "67d77ec3498b0c59790203b4a57becd9bf0d639ebd592f8670671dd24177fc32"), looks := false }, kinds := [], alts := [], laidByText := true, laidKinds := [.data, .data, .data], laidTests := true, laidLooks := .later }
def PitchTurnsCardSaid : Prop := Claim7.holds Tryd.pinned (.plain (OpenSpec.ofChange pitchTurnsSpec)) pitchTurnsCard

/-- THE TIED CARD OF 'bombardelaw13.PitchChecks'. -/
def pitchChecksCard : Claim7 := { stood := { row := pitchChecksRow, standIns := [], harness := (true, "67d77ec3498b0c59790203b4a57becd9bf0d639ebd592f8670671dd24177fc32"), looks := false }, kinds := [], alts := [], laidByText := true, laidKinds := [.data, .data, .data], laidTests := true, laidLooks := .later }
def PitchChecksCardSaid : Prop := Claim7.holds Tryd.pinned (.plain (OpenSpec.ofChange pitchChecksSpec)) pitchChecksCard

/-- THE SECOND FORM's CARD OF 'bombardelaw13.PitchClasses'. -/
def pitchClassesUptoCard : Claim7 := { stood := { row := pitchClassesUptoRow, standIns := [], harness := (true, "67d77ec3498b0c59790203b4a57becd9bf0d639ebd592f8670671dd24177fc32"), looks := false }, kinds := [], alts := [], laidByText := true, laidKinds := [.data, .data, .data], laidTests := true, laidLooks := .later }
def PitchClassesUptoCardSaid : Prop := Claim7.holds Tryd.pinned (.plain (OpenSpec.upto pitchClassesSpec)) pitchClassesUptoCard

/-- THE SECOND FORM's CARD OF 'bombardelaw13.PitchRow'. -/
def pitchRowUptoCard : Claim7 := { stood := { row := pitchRowUptoRow, standIns := [], harness := (true, "67d77ec3498b0c59790203b4a57becd9bf0d639ebd592f8670671dd24177fc32"), looks := false }, kinds := [], alts := [], laidByText := true, laidKinds := [.data, .data, .data], laidTests := true, laidLooks := .later }
def PitchRowUptoCardSaid : Prop := Claim7.holds Tryd.pinned (.plain (OpenSpec.upto pitchRowSpec)) pitchRowUptoCard

/-- THE SECOND FORM's CARD OF 'bombardelaw13.PitchTurns'. -/
def pitchTurnsUptoCard : Claim7 := { stood := { row := pitchTurnsUptoRow, standIns := [], harness := (true, "67d77ec3498b0c59790203b4a57becd9bf0d639ebd592f8670671dd24177fc32"), looks := false }, kinds := [], alts := [], laidByText := true, laidKinds := [.data, .data, .data], laidTests := true, laidLooks := .later }
def PitchTurnsUptoCardSaid : Prop := Claim7.holds Tryd.pinned (.plain (OpenSpec.upto pitchTurnsSpec)) pitchTurnsUptoCard

/-- THE SECOND FORM's CARD OF 'bombardelaw13.PitchChecks'. -/
def pitchChecksUptoCard : Claim7 := { stood := { row := pitchChecksUptoRow, standIns := [], harness := (true, "67d77ec3498b0c59790203b4a57becd9bf0d639ebd592f8670671dd24177fc32"), looks := false }, kinds := [], alts := [], laidByText := true, laidKinds := [.data, .data, .data], laidTests := true, laidLooks := .later }
def PitchChecksUptoCardSaid : Prop := Claim7.holds Tryd.pinned (.plain (OpenSpec.upto pitchChecksSpec)) pitchChecksUptoCard
end Rows
end Go.Proofs.YtiokjnfhopdleaaDoor
