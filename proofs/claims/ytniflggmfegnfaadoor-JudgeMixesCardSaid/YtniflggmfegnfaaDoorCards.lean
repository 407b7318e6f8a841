/-
  DERIVED. GIVEN WITH THE SEED: THE CARDS: each row of YtniflggmfegnfaaDoorRows.lean that lists a variable, with what it lists TIED to the program's text (the seventh form; the later family's looks); each row that meets fmt, with fmt's text TOLD by the authors' own Lean function (tested against real Go, not proved from fmt's source: count such statements apart). THE CARD IS WHAT COUNTS. Prove the row's statement (the work); the ties are given (YtniflggmfegnfaaDoorTie.lean); close each card by the builder's one call (the guide's Derived/Test/ToyasCard.lean, 'card_holds'). Laid BY PROGRAM, IN A SANDBOX (cutbox-door.mjs). By AI agents, Wed Nov 11 2026. No macro, syntax, notation, axiom, sorry.
-/
import Derived.Test.YtniflggmfegnfaaDoorRows
import GoSem.ClaimSeven
namespace Go.Proofs.YtniflggmfegnfaaDoor
namespace Rows

/-- THE TIED CARD OF 'conduitlaw26.JudgeMixes'. -/
def judgeMixesCard : Claim7 := { stood := { row := judgeMixesRow, standIns := [], harness := (true, "d008e9b4476d0d5f8f3f778a8f782ce3929b209e30490ec941db1455b2c167cf"), looks := true }, kinds := [], alts := [], laidByText := true, laidKinds := [.handle], laidTests := true, laidLooks := .later }
def JudgeMixesCardSaid : Prop := Claim7.holds Tryd.pinned (.plain (OpenSpec.ofChange judgeMixesSpec)) judgeMixesCard

/-- THE SECOND FORM's CARD OF 'conduitlaw26.JudgeMixes'. -/
def judgeMixesUptoCard : Claim7 := { stood := { row := judgeMixesUptoRow, standIns := [], harness := (true, "d008e9b4476d0d5f8f3f778a8f782ce3929b209e30490ec941db1455b2c167cf"), looks := true }, kinds := [], alts := [], laidByText := true, laidKinds := [.handle], laidTests := true, laidLooks := .later }
def JudgeMixesUptoCardSaid : Prop := Claim7.holds Tryd.pinned (.plain (OpenSpec.upto judgeMixesSpec)) judgeMixesUptoCard
end Rows
end Go.Proofs.YtniflggmfegnfaaDoor
