/- What the reference's cutter computes: the same; Feed, dead or not. Conditions: the box of a cutter; for the package's, the errors' variable. -/
import Derived.Test.YtniflggmfegnfaaDoorCutFeed
import Derived.Test.YtniflggmfegnfaaDoorCutLaws
import Derived.Test.YtniflggmfegnfaaDoorReadRef
namespace Go.Proofs.YtniflggmfegnfaaDoor
open Go.RowKit

theorem cfeed_any (b : Nat) (s chunk : Bs) (most : Int) (d : Bool) (w : World) (hb : w.heap[b]? = some (cutObj s most d)) (hg : w.cell? ⟨0, 0, none⟩ = some errTypeV) (hne : 0 ≠ b) (hl : s.length + chunk.length ≤ 1000000) :
    Calls Tryd.prog 24 #[.pointer (some ⟨b, 0, none⟩), .string (bs chunk)] w fun e w' => ∃ v, e = .returned (.tuple #[v, errV (cutFeed most d s chunk).2.1]) ∧ w'.ownsRow w.heap.size 33 4 v (cutFeed most d s chunk).1.length (recCells (cutFeed most d s chunk).1) ∧
      w'.heap[b]? = some (cutObj (cutFeed most d s chunk).2.2.1 most (cutFeed most d s chunk).2.2.2) ∧ Only b w w' := by
  cases d
  · exact cfeed_live b s chunk most w hb hg hne hl
  · refine (cfeed_dead b s chunk most w hb).mono ?_
    rintro e w' ⟨rfl, rfl⟩
    exact ⟨_, rfl, ⟨rfl, .inl ⟨rfl, rfl⟩⟩, hb, Rg.Step.refl _ _⟩

def rwaitLen (b : Nat) (w : World) : Nat := match w.cell? ⟨b, 1, none⟩ with | some (.string c) => c.size | _ => 0
end Go.Proofs.YtniflggmfegnfaaDoor
