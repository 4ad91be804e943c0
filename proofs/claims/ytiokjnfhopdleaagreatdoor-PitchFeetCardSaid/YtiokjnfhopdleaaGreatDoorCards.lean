/-
  DERIVED. GIVEN WITH THE SEED: THE CARDS: each row of YtiokjnfhopdleaaGreatDoorRows.lean that lists a variable, with what it lists TIED to the program's text (the seventh form; the later family's looks); each row that meets fmt, with fmt's text TOLD by the authors' own Lean function (tested against real Go, not proved from fmt's source: count such statements apart). THE CARD IS WHAT COUNTS. Prove the row's statement (the work); the ties are given (YtiokjnfhopdleaaGreatDoorTie.lean); close each card by the builder's one call (the guide's Derived/Test/ToyasCard.lean, 'card_holds'). Laid BY PROGRAM, IN A SANDBOX (cutbox-door.mjs). By AI agents, Wed Nov 11 2026. No macro, syntax, notation, axiom, sorry.
-/
import Derived.Test.YtiokjnfhopdleaaGreatDoorRows
import GoSem.ClaimSeven
namespace Go.Proofs.YtiokjnfhopdleaaGreatDoor
namespace Rows

/-- THE TIED CARD OF 'bombardelaw13.PitchSounds'. -/
def pitchSoundsCard : Claim7 := { stood := { row := pitchSoundsRow, standIns := [], harness := (true, "f0f970a62aceb953333781a01cec491330bdc1a8c0f0dd2f4ec2c68520567507"), looks := true }, kinds := [], alts := [], laidByText := true, laidKinds := [.data, .data, .data, .sentinel, .sentinel], laidTests := true, laidLooks := .later }
def PitchSoundsCardSaid : Prop := Claim7.holds Tryz.pinned (.plain (OpenSpec.ofChange pitchSoundsSpec)) pitchSoundsCard

/-- THE TIED CARD OF 'bombardelaw13.PitchShifts'. -/
def pitchShiftsCard : Claim7 := { stood := { row := pitchShiftsRow, standIns := [], harness := (true, "f0f970a62aceb953333781a01cec491330bdc1a8c0f0dd2f4ec2c68520567507"), looks := true }, kinds := [], alts := [], laidByText := true, laidKinds := [.data, .data, .data, .sentinel, .sentinel], laidTests := true, laidLooks := .later }
def PitchShiftsCardSaid : Prop := Claim7.holds Tryz.pinned (.plain (OpenSpec.ofChange pitchShiftsSpec)) pitchShiftsCard

/-- THE TIED CARD OF 'bombardelaw13.PitchFeet'. -/
def pitchFeetCard : Claim7 := { stood := { row := pitchFeetRow, standIns := [], harness := (true, "f0f970a62aceb953333781a01cec491330bdc1a8c0f0dd2f4ec2c68520567507"), looks := true }, kinds := [], alts := [], laidByText := true, laidKinds := [.data, .data, .data, .sentinel, .sentinel], laidTests := true, laidLooks := .later }
def PitchFeetCardSaid : Prop := Claim7.holds Tryz.pinned (.plain (OpenSpec.ofChange pitchFeetSpec)) pitchFeetCard

/-- THE SECOND FORM's CARD OF 'bombardelaw13.PitchSounds'. -/
def pitchSoundsUptoCard : Claim7 := { stood := { row := pitchSoundsUptoRow, standIns := [], harness := (true, "f0f970a62aceb953333781a01cec491330bdc1a8c0f0dd2f4ec2c68520567507"), looks := true }, kinds := [], alts := [], laidByText := true, laidKinds := [.data, .data, .data, .sentinel, .sentinel], laidTests := true, laidLooks := .later }
def PitchSoundsUptoCardSaid : Prop := Claim7.holds Tryz.pinned (.plain (OpenSpec.upto pitchSoundsSpec)) pitchSoundsUptoCard

/-- THE SECOND FORM's CARD OF 'bombardelaw13.PitchShifts'. -/
def pitchShiftsUptoCard : Claim7 := { stood := { row := pitchShiftsUptoRow, standIns := [], harness := (true, "f0f970a62aceb953333781a01cec491330bdc1a8c0f0dd2f4ec2c68520567507"), looks := true }, kinds := [], alts := [], laidByText := true, laidKinds := [.data, .data, .data, .sentinel, .sentinel], laidTests := true, laidLooks := .later }
def PitchShiftsUptoCardSaid : Prop := Claim7.holds Tryz.pinned (.plain (OpenSpec.upto pitchShiftsSpec)) pitchShiftsUptoCard

/-- THE SECOND FORM's CARD OF 'bombardelaw13.PitchFeet'. -/
def pitchFeetUptoCard : Claim7 := { stood := { row := pitchFeetUptoRow, standIns := [], harness := (true, "f0f970a62aceb953333781a01cec491330bdc1a8c0f0dd2f4ec2c68520567507"), looks := true }, kinds := [], alts := [], laidByText := true, laidKinds := [.data, .data, .data, .sentinel, .sentinel], laidTests := true, laidLooks := .later }
def PitchFeetUptoCardSaid : Prop := Claim7.holds Tryz.pinned (.plain (OpenSpec.upto pitchFeetSpec)) pitchFeetUptoCard
end Rows
end Go.Proofs.YtiokjnfhopdleaaGreatDoor
