/- errors.As at an error number and a box of a number: the box holds it behind the call. Condition: errors.errorType holds error's type. -/
import Derived.Test.YtniflggmfegnfaaDoorAs
namespace Go.Proofs.YtniflggmfegnfaaDoor
open Go.RowKit

theorem as_box (n k : Int) (b : Nat) (w : World) (hg : w.cell? ⟨0, 0, none⟩ = some errTypeV) (hb : w.heap[b]? = some (.cells #[.int .i64 k] 46)) :
    Calls Tryd.prog 27 #[eV n, .iface 76 (.pointer (some ⟨b, 0, none⟩))] w fun e w' => e = .returned (.bool true) ∧ w'.heap[b]? = some (.cells #[.int .i64 n] 46) ∧
      (∀ B, B ≤ b → B ≤ w.heap.size → Below B w w') ∧ (∀ i o, i ≠ b → w.heap[i]? = some o → w'.heap[i]? = some o) := by
  refine (as_hit n ⟨b, 0, none⟩ (.int .i64 k) w hg (box_cells hb 0) (box_free hb 0)).mono ?_
  rintro e w' ⟨rfl, rfl⟩
  have hal : ∀ (w : World) (x : Obj) (i : Nat) (o : Obj), w.heap[i]? = some o → (w.alloc x).heap[i]? = some o := fun w x i o h => by rw [heap_alloc_old w x (box_lt h)]; exact h
  have z := box_lt hb
  refine ⟨rfl, set_box (hal _ _ _ _ (hal _ _ _ _ (hal _ _ _ _ (hal _ _ _ _ hb)))) _, ?_, ?_⟩
  · intro B h0 h1
    exact (((((Below.refl B w).alloc h1 _).alloc (by simp; omega) _).alloc (by simp; omega) _).alloc (by simp; omega) _).setCell h0 _
  · intro i o hne h
    exact set_other (hal _ _ _ _ (hal _ _ _ _ (hal _ _ _ _ (hal _ _ _ _ h)))) hne _
end Go.Proofs.YtniflggmfegnfaaDoor
