/-
  DERIVED. GIVEN WITH THE SEED: THE CARDS: each row of YtbhdoechhfgpeaaRRRDoorRows.lean that lists a variable, with what it lists TIED to the program's text (the seventh form; the later family's looks); each row that meets fmt, with fmt's text TOLD by the authors' own Lean function (tested against real Go, not proved from fmt's source: count such statements apart). THE CARD IS WHAT COUNTS. Prove the row's statement (the work); the ties are given (YtbhdoechhfgpeaaRRRDoorTie.lean); close each card by the builder's one call (the guide's Derived/Test/ToyasCard.lean, 'card_holds'). Laid BY PROGRAM, IN A SANDBOX (cutbox-door.mjs). By AI agents, Wed Nov 11 2026. No macro, syntax, notation, axiom, sorry.
-/
import Derived.Test.YtbhdoechhfgpeaaRRRDoorRows
import GoSem.ClaimSeven
namespace Go.Proofs.YtbhdoechhfgpeaaRRRDoor
namespace Rows

/-- THE TIED CARD OF 'conduitlaw5.CutterCuts'. -/
def cutterCutsCard : Claim7 := { stood := { row := cutterCutsRow, standIns := [], harness := (true, "c827fcda416cfe7b90d6a3566139ae012674c26cd66f739e6fa89b09d7309dc9"), looks := true }, kinds := [], alts := [], laidByText := true, laidKinds := [.handle], laidTests := true, laidLooks := .later }
def CutterCutsCardSaid : Prop := Claim7.holds Tryd.pinned (.plain (OpenSpec.ofChange cutterCutsSpec)) cutterCutsCard

/-- THE TIED CARD OF 'conduitlaw26.JudgeMixes'. -/
def judgeMixesCard : Claim7 := { stood := { row := judgeMixesRow, standIns := [], harness := (true, "c827fcda416cfe7b90d6a3566139ae012674c26cd66f739e6fa89b09d7309dc9"), looks := true }, kinds := [], alts := [], laidByText := true, laidKinds := [.handle], laidTests := true, laidLooks := .later }
def JudgeMixesCardSaid : Prop := Claim7.holds Tryd.pinned (.plain (OpenSpec.ofChange judgeMixesSpec)) judgeMixesCard

/-- THE TIED CARD OF 'conduitlaw26.JudgeOrders'. -/
def judgeOrdersCard : Claim7 := { stood := { row := judgeOrdersRow, standIns := [], harness := (true, "c827fcda416cfe7b90d6a3566139ae012674c26cd66f739e6fa89b09d7309dc9"), looks := true }, kinds := [], alts := [], laidByText := true, laidKinds := [.handle], laidTests := true, laidLooks := .later }
def JudgeOrdersCardSaid : Prop := Claim7.holds Tryd.pinned (.plain (OpenSpec.ofChange judgeOrdersSpec)) judgeOrdersCard

/-- THE TIED CARD OF 'conduitlaw26.JudgeCuts'. -/
def judgeCutsCard : Claim7 := { stood := { row := judgeCutsRow, standIns := [], harness := (true, "c827fcda416cfe7b90d6a3566139ae012674c26cd66f739e6fa89b09d7309dc9"), looks := true }, kinds := [], alts := [], laidByText := true, laidKinds := [.handle], laidTests := true, laidLooks := .later }
def JudgeCutsCardSaid : Prop := Claim7.holds Tryd.pinned (.plain (OpenSpec.ofChange judgeCutsSpec)) judgeCutsCard

/-- THE SECOND FORM's CARD OF 'conduitlaw5.CutterCuts'. -/
def cutterCutsUptoCard : Claim7 := { stood := { row := cutterCutsUptoRow, standIns := [], harness := (true, "c827fcda416cfe7b90d6a3566139ae012674c26cd66f739e6fa89b09d7309dc9"), looks := true }, kinds := [], alts := [], laidByText := true, laidKinds := [.handle], laidTests := true, laidLooks := .later }
def CutterCutsUptoCardSaid : Prop := Claim7.holds Tryd.pinned (.plain (OpenSpec.upto cutterCutsSpec)) cutterCutsUptoCard

/-- THE SECOND FORM's CARD OF 'conduitlaw26.JudgeMixes'. -/
def judgeMixesUptoCard : Claim7 := { stood := { row := judgeMixesUptoRow, standIns := [], harness := (true, "c827fcda416cfe7b90d6a3566139ae012674c26cd66f739e6fa89b09d7309dc9"), looks := true }, kinds := [], alts := [], laidByText := true, laidKinds := [.handle], laidTests := true, laidLooks := .later }
def JudgeMixesUptoCardSaid : Prop := Claim7.holds Tryd.pinned (.plain (OpenSpec.upto judgeMixesSpec)) judgeMixesUptoCard

/-- THE SECOND FORM's CARD OF 'conduitlaw26.JudgeOrders'. -/
def judgeOrdersUptoCard : Claim7 := { stood := { row := judgeOrdersUptoRow, standIns := [], harness := (true, "c827fcda416cfe7b90d6a3566139ae012674c26cd66f739e6fa89b09d7309dc9"), looks := true }, kinds := [], alts := [], laidByText := true, laidKinds := [.handle], laidTests := true, laidLooks := .later }
def JudgeOrdersUptoCardSaid : Prop := Claim7.holds Tryd.pinned (.plain (OpenSpec.upto judgeOrdersSpec)) judgeOrdersUptoCard

/-- THE SECOND FORM's CARD OF 'conduitlaw26.JudgeCuts'. -/
def judgeCutsUptoCard : Claim7 := { stood := { row := judgeCutsUptoRow, standIns := [], harness := (true, "c827fcda416cfe7b90d6a3566139ae012674c26cd66f739e6fa89b09d7309dc9"), looks := true }, kinds := [], alts := [], laidByText := true, laidKinds := [.handle], laidTests := true, laidLooks := .later }
def JudgeCutsUptoCardSaid : Prop := Claim7.holds Tryd.pinned (.plain (OpenSpec.upto judgeCutsSpec)) judgeCutsUptoCard
end Rows
end Go.Proofs.YtbhdoechhfgpeaaRRRDoor
