/-
  DERIVED. GIVEN WITH THE SEED: THE CARDS: each row of YtplonkeipdbchaaDoorRows.lean that lists a variable, with what it lists TIED to the program's text (the seventh form; the later family's looks); each row that meets fmt, with fmt's text TOLD by the authors' own Lean function (tested against real Go, not proved from fmt's source: count such statements apart). THE CARD IS WHAT COUNTS. Prove the row's statement (the work); the ties are given (YtplonkeipdbchaaDoorTie.lean); close each card by the builder's one call (the guide's Derived/Test/ToyasCard.lean, 'card_holds'). Laid BY PROGRAM, IN A SANDBOX (cutbox-door.mjs). By AI agents, Wed Nov 11 2026. No macro, syntax, notation, axiom, sorry.
-/
import Derived.Test.YtplonkeipdbchaaDoorRows
import GoSem.ClaimSeven
namespace Go.Proofs.YtplonkeipdbchaaDoor
namespace Rows

/-- THE TIED CARD OF 'bombardelaw05.IntervalMakes'. -/
def intervalMakesCard : Claim7 := { stood := { row := intervalMakesRow, standIns := [], harness := (true, "0276f8f678895f8c408f5d2ed1a940484eb3b2c90cb08e851708715541f47404"), looks := false }, kinds := [], alts := [], laidByText := true, laidKinds := [.data, .data, .data], laidTests := true, laidLooks := .later }
def IntervalMakesCardSaid : Prop := Claim7.holds Tryd.pinned (.plain (OpenSpec.ofChange intervalMakesSpec)) intervalMakesCard

/-- THE TIED CARD OF 'bombardelaw05.IntervalScales'. -/
def intervalScalesCard : Claim7 := { stood := { row := intervalScalesRow, standIns := [], harness := (true, "0276f8f678895f8c408f5d2ed1a940484eb3b2c90cb08e851708715541f47404"), looks := false }, kinds := [], alts := [], laidByText := true, laidKinds := [.data, .data, .data], laidTests := true, laidLooks := .later }
def IntervalScalesCardSaid : Prop := Claim7.holds Tryd.pinned (.plain (OpenSpec.ofChange intervalScalesSpec)) intervalScalesCard

/-- THE TIED CARD OF 'bombardelaw05.IntervalAdds'. -/
def intervalAddsCard : Claim7 := { stood := { row := intervalAddsRow, standIns := [], harness := (true, "0276f8f678895f8c408f5d2ed1a940484eb3b2c90cb08e851708715541f47404"), looks := false }, kinds := [], alts := [], laidByText := true, laidKinds := [.data, .data, .data], laidTests := true, laidLooks := .later }
def IntervalAddsCardSaid : Prop := Claim7.holds Tryd.pinned (.plain (OpenSpec.ofChange intervalAddsSpec)) intervalAddsCard

/-- THE TIED CARD OF 'bombardelaw05.IntervalParts'. -/
def intervalPartsCard : Claim7 := { stood := { row := intervalPartsRow, standIns := [], harness := (true, "0276f8f678895f8c408f5d2ed1a940484eb3b2c90cb08e851708715541f47404"), looks := false }, kinds := [], alts := [], laidByText := true, laidKinds := [.data, .data, .data], laidTests := true, laidLooks := .later }
def IntervalPartsCardSaid : Prop := Claim7.holds Tryd.pinned (.plain (OpenSpec.ofChange intervalPartsSpec)) intervalPartsCard

/-- THE TIED CARD OF 'bombardelaw05.IntervalGroup'. -/
def intervalGroupCard : Claim7 := { stood := { row := intervalGroupRow, standIns := [], harness := (true, "0276f8f678895f8c408f5d2ed1a940484eb3b2c90cb08e851708715541f47404"), looks := false }, kinds := [], alts := [], laidByText := true, laidKinds := [.data, .data, .data], laidTests := true, laidLooks := .later }
def IntervalGroupCardSaid : Prop := Claim7.holds Tryd.pinned (.plain (OpenSpec.ofChange intervalGroupSpec)) intervalGroupCard

/-- THE TIED CARD OF 'bombardelaw05.IntervalChecks'. -/
def intervalChecksCard : Claim7 := { stood := { row := intervalChecksRow, standIns := [], harness := (true, "0276f8f678895f8c408f5d2ed1a940484eb3b2c90cb08e851708715541f47404"), looks := false }, kinds := [], alts := [], laidByText := true, laidKinds := [.data, .data, .data], laidTests := true, laidLooks := .later }
def IntervalChecksCardSaid : Prop := Claim7.holds Tryd.pinned (.plain (OpenSpec.ofChange intervalChecksSpec)) intervalChecksCard

/-- THE SECOND FORM's CARD OF 'bombardelaw05.IntervalMakes'. -/
def intervalMakesUptoCard : Claim7 := { stood := { row := intervalMakesUptoRow, standIns := [], harness := (true, "0276f8f678895f8c408f5d2ed1a940484eb3b2c90cb08e851708715541f47404"), looks := false }, kinds := [], alts := [], laidByText := true, laidKinds := [.data, .data, .data], laidTests := true, laidLooks := .later }
def IntervalMakesUptoCardSaid : Prop := Claim7.holds Tryd.pinned (.plain (OpenSpec.upto intervalMakesSpec)) intervalMakesUptoCard

/-- THE SECOND FORM's CARD OF 'bombardelaw05.IntervalScales'. -/
def intervalScalesUptoCard : Claim7 := { stood := { row := intervalScalesUptoRow, standIns := [], harness := (true, "0276f8f678895f8c408f5d2ed1a940484eb3b2c90cb08e851708715541f47404"), looks := false }, kinds := [], alts := [], laidByText := true, laidKinds := [.data, .data, .data], laidTests := true, laidLooks := .later }
def IntervalScalesUptoCardSaid : Prop := Claim7.holds Tryd.pinned (.plain (OpenSpec.upto intervalScalesSpec)) intervalScalesUptoCard

/-- THE SECOND FORM's CARD OF 'bombardelaw05.IntervalAdds'. -/
def intervalAddsUptoCard : Claim7 := { stood := { row := intervalAddsUptoRow, standIns := [], harness := (true, "0276f8f678895f8c408f5d2ed1a940484eb3b2c90cb08e851708715541f47404"), looks := false }, kinds := [], alts := [], laidByText := true, laidKinds := [.data, .data, .data], laidTests := true, laidLooks := .later }
def IntervalAddsUptoCardSaid : Prop := Claim7.holds Tryd.pinned (.plain (OpenSpec.upto intervalAddsSpec)) intervalAddsUptoCard

/-- THE SECOND FORM's CARD OF 'bombardelaw05.IntervalParts'. -/
def intervalPartsUptoCard : Claim7 := { stood := { row := intervalPartsUptoRow, standIns := [], harness := (true, "0276f8f678895f8c408f5d2ed1a940484eb3b2c90cb08e851708715541f47404"), looks := false }, kinds := [], alts := [], laidByText := true, laidKinds := [.data, .data, .data], laidTests := true, laidLooks := .later }
def IntervalPartsUptoCardSaid : Prop := Claim7.holds Tryd.pinned (.plain (OpenSpec.upto intervalPartsSpec)) intervalPartsUptoCard

/-- THE SECOND FORM's CARD OF 'bombardelaw05.IntervalGroup'. -/
def intervalGroupUptoCard : Claim7 := { stood := { row := intervalGroupUptoRow, standIns := [], harness := (true, "0276f8f678895f8c408f5d2ed1a940484eb3b2c90cb08e851708715541f47404"), looks := false }, kinds := [], alts := [], laidByText := true, laidKinds := [.data, .data, .data], laidTests := true, laidLooks := .later }
def IntervalGroupUptoCardSaid : Prop := Claim7.holds Tryd.pinned (.plain (OpenSpec.upto intervalGroupSpec)) intervalGroupUptoCard

/-- THE SECOND FORM's CARD OF 'bombardelaw05.IntervalChecks'. -/
def intervalChecksUptoCard : Claim7 := { stood := { row := intervalChecksUptoRow, standIns := [], harness := (true, "0276f8f678895f8c408f5d2ed1a940484eb3b2c90cb08e851708715541f47404"), looks := false }, kinds := [], alts := [], laidByText := true, laidKinds := [.data, .data, .data], laidTests := true, laidLooks := .later }
def IntervalChecksUptoCardSaid : Prop := Claim7.holds Tryd.pinned (.plain (OpenSpec.upto intervalChecksSpec)) intervalChecksUptoCard
end Rows
end Go.Proofs.YtplonkeipdbchaaDoor
