/-
  DERIVED. GIVEN WITH THE SEED: THE CARDS: each row of YtfhddeghmlnobaaDoorRows.lean that lists a variable, with what it lists TIED to the program's text (the seventh form; the later family's looks); each row that meets fmt, with fmt's text TOLD by the authors' own Lean function (tested against real Go, not proved from fmt's source: count such statements apart). THE CARD IS WHAT COUNTS. Prove the row's statement (the work); the ties are given (YtfhddeghmlnobaaDoorTie.lean); close each card by the builder's one call (the guide's Derived/Test/ToyasCard.lean, 'card_holds'). Laid BY PROGRAM, IN A SANDBOX (cutbox-door.mjs). By AI agents, Wed Nov 11 2026. No macro, syntax, notation, axiom, sorry.
-/
import Derived.Test.YtfhddeghmlnobaaDoorRows
import GoSem.ClaimSeven
namespace Go.Proofs.YtfhddeghmlnobaaDoor
namespace Rows

/-- THE TIED CARD OF 'conduitlaw3.PairBack'. -/
def pairBackCard : Claim7 := { stood := { row := pairBackRow, standIns := [], harness := (true, "07f497940293c246501184b35db2881aecd1bf7deedba69f84c8a55ced8083d9"), looks := true }, kinds := [], alts := [], laidByText := true, laidKinds := [.handle], laidTests := true, laidLooks := .later }
def PairBackCardSaid : Prop := Claim7.holds Tryd.pinned (.plain (OpenSpec.ofChange pairBackSpec)) pairBackCard

/-- THE TIED CARD OF 'conduitlaw3.PairLengths'. -/
def pairLengthsCard : Claim7 := { stood := { row := pairLengthsRow, standIns := [], harness := (true, "07f497940293c246501184b35db2881aecd1bf7deedba69f84c8a55ced8083d9"), looks := true }, kinds := [], alts := [], laidByText := true, laidKinds := [.handle], laidTests := true, laidLooks := .later }
def PairLengthsCardSaid : Prop := Claim7.holds Tryd.pinned (.plain (OpenSpec.ofChange pairLengthsSpec)) pairLengthsCard

/-- THE TIED CARD OF 'conduitlaw3.PairLong'. -/
def pairLongCard : Claim7 := { stood := { row := pairLongRow, standIns := [], harness := (true, "07f497940293c246501184b35db2881aecd1bf7deedba69f84c8a55ced8083d9"), looks := true }, kinds := [], alts := [], laidByText := true, laidKinds := [.handle], laidTests := true, laidLooks := .later }
def PairLongCardSaid : Prop := Claim7.holds Tryd.pinned (.plain (OpenSpec.ofChange pairLongSpec)) pairLongCard

/-- THE TIED CARD OF 'conduitlaw3.PairMany'. -/
def pairManyCard : Claim7 := { stood := { row := pairManyRow, standIns := [], harness := (true, "07f497940293c246501184b35db2881aecd1bf7deedba69f84c8a55ced8083d9"), looks := true }, kinds := [], alts := [], laidByText := true, laidKinds := [.handle], laidTests := true, laidLooks := .later }
def PairManyCardSaid : Prop := Claim7.holds Tryd.pinned (.plain (OpenSpec.ofChange pairManySpec)) pairManyCard

/-- THE TIED CARD OF 'conduitlaw5.CutterTells'. -/
def cutterTellsCard : Claim7 := { stood := { row := cutterTellsRow, standIns := [], harness := (true, "07f497940293c246501184b35db2881aecd1bf7deedba69f84c8a55ced8083d9"), looks := true }, kinds := [], alts := [], laidByText := true, laidKinds := [.handle], laidTests := true, laidLooks := .later }
def CutterTellsCardSaid : Prop := Claim7.holds Tryd.pinned (.plain (OpenSpec.ofChange cutterTellsSpec)) cutterTellsCard

/-- THE TIED CARD OF 'conduitlaw5.CutterCuts'. -/
def cutterCutsCard : Claim7 := { stood := { row := cutterCutsRow, standIns := [], harness := (true, "07f497940293c246501184b35db2881aecd1bf7deedba69f84c8a55ced8083d9"), looks := true }, kinds := [], alts := [], laidByText := true, laidKinds := [.handle], laidTests := true, laidLooks := .later }
def CutterCutsCardSaid : Prop := Claim7.holds Tryd.pinned (.plain (OpenSpec.ofChange cutterCutsSpec)) cutterCutsCard

/-- THE TIED CARD OF 'conduitlaw5.CutterStops'. -/
def cutterStopsCard : Claim7 := { stood := { row := cutterStopsRow, standIns := [], harness := (true, "07f497940293c246501184b35db2881aecd1bf7deedba69f84c8a55ced8083d9"), looks := true }, kinds := [], alts := [], laidByText := true, laidKinds := [.handle], laidTests := true, laidLooks := .later }
def CutterStopsCardSaid : Prop := Claim7.holds Tryd.pinned (.plain (OpenSpec.ofChange cutterStopsSpec)) cutterStopsCard

/-- THE TIED CARD OF 'conduitlaw5.CutterLimits'. -/
def cutterLimitsCard : Claim7 := { stood := { row := cutterLimitsRow, standIns := [], harness := (true, "07f497940293c246501184b35db2881aecd1bf7deedba69f84c8a55ced8083d9"), looks := true }, kinds := [], alts := [], laidByText := true, laidKinds := [.handle], laidTests := true, laidLooks := .later }
def CutterLimitsCardSaid : Prop := Claim7.holds Tryd.pinned (.plain (OpenSpec.ofChange cutterLimitsSpec)) cutterLimitsCard

/-- THE TIED CARD OF 'conduitlaw2.RecordTells'. -/
def recordTellsCard : Claim7 := { stood := { row := recordTellsRow, standIns := [], harness := (true, "07f497940293c246501184b35db2881aecd1bf7deedba69f84c8a55ced8083d9"), looks := true }, kinds := [], alts := [], laidByText := true, laidKinds := [.handle], laidTests := true, laidLooks := .later }
def RecordTellsCardSaid : Prop := Claim7.holds Tryd.pinned (.plain (OpenSpec.ofChange recordTellsSpec)) recordTellsCard

/-- THE TIED CARD OF 'conduitlaw4.KindTells'. -/
def kindTellsCard : Claim7 := { stood := { row := kindTellsRow, standIns := [], harness := (true, "07f497940293c246501184b35db2881aecd1bf7deedba69f84c8a55ced8083d9"), looks := true }, kinds := [], alts := [], laidByText := true, laidKinds := [.handle], laidTests := true, laidLooks := .later }
def KindTellsCardSaid : Prop := Claim7.holds Tryd.pinned (.plain (OpenSpec.ofChange kindTellsSpec)) kindTellsCard

/-- THE SECOND FORM's CARD OF 'conduitlaw3.PairBack'. -/
def pairBackUptoCard : Claim7 := { stood := { row := pairBackUptoRow, standIns := [], harness := (true, "07f497940293c246501184b35db2881aecd1bf7deedba69f84c8a55ced8083d9"), looks := true }, kinds := [], alts := [], laidByText := true, laidKinds := [.handle], laidTests := true, laidLooks := .later }
def PairBackUptoCardSaid : Prop := Claim7.holds Tryd.pinned (.plain (OpenSpec.upto pairBackSpec)) pairBackUptoCard

/-- THE SECOND FORM's CARD OF 'conduitlaw3.PairLengths'. -/
def pairLengthsUptoCard : Claim7 := { stood := { row := pairLengthsUptoRow, standIns := [], harness := (true, "07f497940293c246501184b35db2881aecd1bf7deedba69f84c8a55ced8083d9"), looks := true }, kinds := [], alts := [], laidByText := true, laidKinds := [.handle], laidTests := true, laidLooks := .later }
def PairLengthsUptoCardSaid : Prop := Claim7.holds Tryd.pinned (.plain (OpenSpec.upto pairLengthsSpec)) pairLengthsUptoCard

/-- THE SECOND FORM's CARD OF 'conduitlaw3.PairLong'. -/
def pairLongUptoCard : Claim7 := { stood := { row := pairLongUptoRow, standIns := [], harness := (true, "07f497940293c246501184b35db2881aecd1bf7deedba69f84c8a55ced8083d9"), looks := true }, kinds := [], alts := [], laidByText := true, laidKinds := [.handle], laidTests := true, laidLooks := .later }
def PairLongUptoCardSaid : Prop := Claim7.holds Tryd.pinned (.plain (OpenSpec.upto pairLongSpec)) pairLongUptoCard

/-- THE SECOND FORM's CARD OF 'conduitlaw3.PairMany'. -/
def pairManyUptoCard : Claim7 := { stood := { row := pairManyUptoRow, standIns := [], harness := (true, "07f497940293c246501184b35db2881aecd1bf7deedba69f84c8a55ced8083d9"), looks := true }, kinds := [], alts := [], laidByText := true, laidKinds := [.handle], laidTests := true, laidLooks := .later }
def PairManyUptoCardSaid : Prop := Claim7.holds Tryd.pinned (.plain (OpenSpec.upto pairManySpec)) pairManyUptoCard

/-- THE SECOND FORM's CARD OF 'conduitlaw5.CutterTells'. -/
def cutterTellsUptoCard : Claim7 := { stood := { row := cutterTellsUptoRow, standIns := [], harness := (true, "07f497940293c246501184b35db2881aecd1bf7deedba69f84c8a55ced8083d9"), looks := true }, kinds := [], alts := [], laidByText := true, laidKinds := [.handle], laidTests := true, laidLooks := .later }
def CutterTellsUptoCardSaid : Prop := Claim7.holds Tryd.pinned (.plain (OpenSpec.upto cutterTellsSpec)) cutterTellsUptoCard

/-- THE SECOND FORM's CARD OF 'conduitlaw5.CutterCuts'. -/
def cutterCutsUptoCard : Claim7 := { stood := { row := cutterCutsUptoRow, standIns := [], harness := (true, "07f497940293c246501184b35db2881aecd1bf7deedba69f84c8a55ced8083d9"), looks := true }, kinds := [], alts := [], laidByText := true, laidKinds := [.handle], laidTests := true, laidLooks := .later }
def CutterCutsUptoCardSaid : Prop := Claim7.holds Tryd.pinned (.plain (OpenSpec.upto cutterCutsSpec)) cutterCutsUptoCard

/-- THE SECOND FORM's CARD OF 'conduitlaw5.CutterStops'. -/
def cutterStopsUptoCard : Claim7 := { stood := { row := cutterStopsUptoRow, standIns := [], harness := (true, "07f497940293c246501184b35db2881aecd1bf7deedba69f84c8a55ced8083d9"), looks := true }, kinds := [], alts := [], laidByText := true, laidKinds := [.handle], laidTests := true, laidLooks := .later }
def CutterStopsUptoCardSaid : Prop := Claim7.holds Tryd.pinned (.plain (OpenSpec.upto cutterStopsSpec)) cutterStopsUptoCard

/-- THE SECOND FORM's CARD OF 'conduitlaw5.CutterLimits'. -/
def cutterLimitsUptoCard : Claim7 := { stood := { row := cutterLimitsUptoRow, standIns := [], harness := (true, "07f497940293c246501184b35db2881aecd1bf7deedba69f84c8a55ced8083d9"), looks := true }, kinds := [], alts := [], laidByText := true, laidKinds := [.handle], laidTests := true, laidLooks := .later }
def CutterLimitsUptoCardSaid : Prop := Claim7.holds Tryd.pinned (.plain (OpenSpec.upto cutterLimitsSpec)) cutterLimitsUptoCard

/-- THE SECOND FORM's CARD OF 'conduitlaw2.RecordTells'. -/
def recordTellsUptoCard : Claim7 := { stood := { row := recordTellsUptoRow, standIns := [], harness := (true, "07f497940293c246501184b35db2881aecd1bf7deedba69f84c8a55ced8083d9"), looks := true }, kinds := [], alts := [], laidByText := true, laidKinds := [.handle], laidTests := true, laidLooks := .later }
def RecordTellsUptoCardSaid : Prop := Claim7.holds Tryd.pinned (.plain (OpenSpec.upto recordTellsSpec)) recordTellsUptoCard

/-- THE SECOND FORM's CARD OF 'conduitlaw4.KindTells'. -/
def kindTellsUptoCard : Claim7 := { stood := { row := kindTellsUptoRow, standIns := [], harness := (true, "07f497940293c246501184b35db2881aecd1bf7deedba69f84c8a55ced8083d9"), looks := true }, kinds := [], alts := [], laidByText := true, laidKinds := [.handle], laidTests := true, laidLooks := .later }
def KindTellsUptoCardSaid : Prop := Claim7.holds Tryd.pinned (.plain (OpenSpec.upto kindTellsSpec)) kindTellsUptoCard
end Rows
end Go.Proofs.YtfhddeghmlnobaaDoor
