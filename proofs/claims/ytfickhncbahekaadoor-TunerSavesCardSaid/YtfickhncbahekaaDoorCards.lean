/-
  DERIVED. GIVEN WITH THE SEED: THE CARDS: each row of YtfickhncbahekaaDoorRows.lean that lists a variable, with what it lists TIED to the program's text (the seventh form; the later family's looks); each row that meets fmt, with fmt's text TOLD by the authors' own Lean function (tested against real Go, not proved from fmt's source: count such statements apart). THE CARD IS WHAT COUNTS. Prove the row's statement (the work); the ties are given (YtfickhncbahekaaDoorTie.lean); close each card by the builder's one call (the guide's Derived/Test/ToyasCard.lean, 'card_holds'). Laid BY PROGRAM, IN A SANDBOX (cutbox-door.mjs). By AI agents, Wed Nov 11 2026. No macro, syntax, notation, axiom, sorry.
-/
import Derived.Test.YtfickhncbahekaaDoorRows
import GoSem.ClaimSeven
namespace Go.Proofs.YtfickhncbahekaaDoor
namespace Rows

/-- THE TIED CARD OF 'bombardelaw43.TunerLimits'. -/
def tunerLimitsCard : Claim7 := { stood := { row := tunerLimitsRow, standIns := [], harness := (true, "9172e041fa3cabe0223d1f979daaddfe973097af419d66809cb93f53be5a3232"), looks := false }, kinds := [], alts := [], laidByText := true, laidKinds := [.data], laidTests := true, laidLooks := .later }
def TunerLimitsCardSaid : Prop := Claim7.holds Tryd.pinned (.plain (OpenSpec.ofChange tunerLimitsSpec)) tunerLimitsCard

/-- THE TIED CARD OF 'bombardelaw43.TunerPlans'. -/
def tunerPlansCard : Claim7 := { stood := { row := tunerPlansRow, standIns := [], harness := (true, "9172e041fa3cabe0223d1f979daaddfe973097af419d66809cb93f53be5a3232"), looks := false }, kinds := [], alts := [], laidByText := true, laidKinds := [.data], laidTests := true, laidLooks := .later }
def TunerPlansCardSaid : Prop := Claim7.holds Tryd.pinned (.plain (OpenSpec.ofChange tunerPlansSpec)) tunerPlansCard

/-- THE TIED CARD OF 'bombardelaw43.TunerTasks'. -/
def tunerTasksCard : Claim7 := { stood := { row := tunerTasksRow, standIns := [], harness := (true, "9172e041fa3cabe0223d1f979daaddfe973097af419d66809cb93f53be5a3232"), looks := false }, kinds := [], alts := [], laidByText := true, laidKinds := [.data], laidTests := true, laidLooks := .later }
def TunerTasksCardSaid : Prop := Claim7.holds Tryd.pinned (.plain (OpenSpec.ofChange tunerTasksSpec)) tunerTasksCard

/-- THE TIED CARD OF 'bombardelaw43.TunerChains'. -/
def tunerChainsCard : Claim7 := { stood := { row := tunerChainsRow, standIns := [], harness := (true, "9172e041fa3cabe0223d1f979daaddfe973097af419d66809cb93f53be5a3232"), looks := false }, kinds := [], alts := [], laidByText := true, laidKinds := [.data], laidTests := true, laidLooks := .later }
def TunerChainsCardSaid : Prop := Claim7.holds Tryd.pinned (.plain (OpenSpec.ofChange tunerChainsSpec)) tunerChainsCard

/-- THE TIED CARD OF 'bombardelaw43.TunerSaves'. -/
def tunerSavesCard : Claim7 := { stood := { row := tunerSavesRow, standIns := [], harness := (true, "9172e041fa3cabe0223d1f979daaddfe973097af419d66809cb93f53be5a3232"), looks := false }, kinds := [], alts := [], laidByText := true, laidKinds := [.data], laidTests := true, laidLooks := .later }
def TunerSavesCardSaid : Prop := Claim7.holds Tryd.pinned (.plain (OpenSpec.ofChange tunerSavesSpec)) tunerSavesCard

/-- THE TIED CARD OF 'bombardelaw43.TunerDrifts'. -/
def tunerDriftsCard : Claim7 := { stood := { row := tunerDriftsRow, standIns := [], harness := (true, "9172e041fa3cabe0223d1f979daaddfe973097af419d66809cb93f53be5a3232"), looks := false }, kinds := [], alts := [], laidByText := true, laidKinds := [.data], laidTests := true, laidLooks := .later }
def TunerDriftsCardSaid : Prop := Claim7.holds Tryd.pinned (.plain (OpenSpec.ofChange tunerDriftsSpec)) tunerDriftsCard

/-- THE TIED CARD OF 'bombardelaw43.TunerChecks'. -/
def tunerChecksCard : Claim7 := { stood := { row := tunerChecksRow, standIns := [], harness := (true, "9172e041fa3cabe0223d1f979daaddfe973097af419d66809cb93f53be5a3232"), looks := false }, kinds := [], alts := [], laidByText := true, laidKinds := [.data], laidTests := true, laidLooks := .later }
def TunerChecksCardSaid : Prop := Claim7.holds Tryd.pinned (.plain (OpenSpec.ofChange tunerChecksSpec)) tunerChecksCard

/-- THE SECOND FORM's CARD OF 'bombardelaw43.TunerLimits'. -/
def tunerLimitsUptoCard : Claim7 := { stood := { row := tunerLimitsUptoRow, standIns := [], harness := (true, "9172e041fa3cabe0223d1f979daaddfe973097af419d66809cb93f53be5a3232"), looks := false }, kinds := [], alts := [], laidByText := true, laidKinds := [.data], laidTests := true, laidLooks := .later }
def TunerLimitsUptoCardSaid : Prop := Claim7.holds Tryd.pinned (.plain (OpenSpec.upto tunerLimitsSpec)) tunerLimitsUptoCard

/-- THE SECOND FORM's CARD OF 'bombardelaw43.TunerPlans'. -/
def tunerPlansUptoCard : Claim7 := { stood := { row := tunerPlansUptoRow, standIns := [], harness := (true, "9172e041fa3cabe0223d1f979daaddfe973097af419d66809cb93f53be5a3232"), looks := false }, kinds := [], alts := [], laidByText := true, laidKinds := [.data], laidTests := true, laidLooks := .later }
def TunerPlansUptoCardSaid : Prop := Claim7.holds Tryd.pinned (.plain (OpenSpec.upto tunerPlansSpec)) tunerPlansUptoCard

/-- THE SECOND FORM's CARD OF 'bombardelaw43.TunerTasks'. -/
def tunerTasksUptoCard : Claim7 := { stood := { row := tunerTasksUptoRow, standIns := [], harness := (true, "9172e041fa3cabe0223d1f979daaddfe973097af419d66809cb93f53be5a3232"), looks := false }, kinds := [], alts := [], laidByText := true, laidKinds := [.data], laidTests := true, laidLooks := .later }
def TunerTasksUptoCardSaid : Prop := Claim7.holds Tryd.pinned (.plain (OpenSpec.upto tunerTasksSpec)) tunerTasksUptoCard

/-- THE SECOND FORM's CARD OF 'bombardelaw43.TunerChains'. -/
def tunerChainsUptoCard : Claim7 := { stood := { row := tunerChainsUptoRow, standIns := [], harness := (true, "9172e041fa3cabe0223d1f979daaddfe973097af419d66809cb93f53be5a3232"), looks := false }, kinds := [], alts := [], laidByText := true, laidKinds := [.data], laidTests := true, laidLooks := .later }
def TunerChainsUptoCardSaid : Prop := Claim7.holds Tryd.pinned (.plain (OpenSpec.upto tunerChainsSpec)) tunerChainsUptoCard

/-- THE SECOND FORM's CARD OF 'bombardelaw43.TunerSaves'. -/
def tunerSavesUptoCard : Claim7 := { stood := { row := tunerSavesUptoRow, standIns := [], harness := (true, "9172e041fa3cabe0223d1f979daaddfe973097af419d66809cb93f53be5a3232"), looks := false }, kinds := [], alts := [], laidByText := true, laidKinds := [.data], laidTests := true, laidLooks := .later }
def TunerSavesUptoCardSaid : Prop := Claim7.holds Tryd.pinned (.plain (OpenSpec.upto tunerSavesSpec)) tunerSavesUptoCard

/-- THE SECOND FORM's CARD OF 'bombardelaw43.TunerDrifts'. -/
def tunerDriftsUptoCard : Claim7 := { stood := { row := tunerDriftsUptoRow, standIns := [], harness := (true, "9172e041fa3cabe0223d1f979daaddfe973097af419d66809cb93f53be5a3232"), looks := false }, kinds := [], alts := [], laidByText := true, laidKinds := [.data], laidTests := true, laidLooks := .later }
def TunerDriftsUptoCardSaid : Prop := Claim7.holds Tryd.pinned (.plain (OpenSpec.upto tunerDriftsSpec)) tunerDriftsUptoCard

/-- THE SECOND FORM's CARD OF 'bombardelaw43.TunerChecks'. -/
def tunerChecksUptoCard : Claim7 := { stood := { row := tunerChecksUptoRow, standIns := [], harness := (true, "9172e041fa3cabe0223d1f979daaddfe973097af419d66809cb93f53be5a3232"), looks := false }, kinds := [], alts := [], laidByText := true, laidKinds := [.data], laidTests := true, laidLooks := .later }
def TunerChecksUptoCardSaid : Prop := Claim7.holds Tryd.pinned (.plain (OpenSpec.upto tunerChecksSpec)) tunerChecksUptoCard
end Rows
end Go.Proofs.YtfickhncbahekaaDoor
