/- What record.Read computes: the record in front of bytes, what is behind, or what is wrong. Condition: the text is no longer than an int tells. -/
import Derived.Test.YtihfibelklhkbaaRec
import Derived.Test.YtihfibelklhkbaaPlainRec
namespace Go.Proofs.Ytihfibelklhkbaa
open Go.RowKit

/-- The error of a code; 0: none. -/
def errV (c : Int) : Value := if c = 0 then .nilIface else eV c
theorem errV_zero : errV 0 = .nilIface := rfl
theorem errV_num {c : Int} (h : c ≠ 0) : errV c = eV c := if_neg h

/-- What is known of the world behind record.whole, in Read. -/
theorem read_world {w w1 : World} (hb : Below (w.alloc (.cells #[.int .i64 0, .int .i64 0, .string (bs []), .int .i64 0] 96)).heap.size (w.alloc (.cells #[.int .i64 0, .int .i64 0, .string (bs []), .int .i64 0] 96)) w1) :
    w1.cell? ⟨w.heap.size, 0, none⟩ = some (.int .i64 0) ∧ w1.cell? ⟨w.heap.size, 1, none⟩ = some (.int .i64 0) ∧ w1.cell? ⟨w.heap.size, 2, none⟩ = some (.string (bs [])) ∧ w1.cell? ⟨w.heap.size, 3, none⟩ = some (.int .i64 0) ∧
    w1.frozen? ⟨w.heap.size, 0, none⟩ = false ∧ w1.frozen? ⟨w.heap.size, 1, none⟩ = false ∧ w1.frozen? ⟨w.heap.size, 2, none⟩ = false ∧ w1.frozen? ⟨w.heap.size, 3, none⟩ = false ∧ w.heap.size < w1.heap.size := by
  refine ⟨?_, ?_, ?_, ?_, frozen_after hb _, frozen_after hb _, frozen_after hb _, frozen_after hb _, size_after hb⟩ <;> (rw [cell_after hb]; rfl)

theorem below_store4 {w w1 : World} (h : Below w.heap.size w w1) (a b c d : Value) : Below w.heap.size w ((((w1.setCell ⟨w.heap.size, 0, none⟩ a).setCell ⟨w.heap.size, 1, none⟩ b).setCell ⟨w.heap.size, 2, none⟩ c).setCell ⟨w.heap.size, 3, none⟩ d) :=
  (((h.setCell (Nat.le_refl _) _).setCell (Nat.le_refl _) _).setCell (Nat.le_refl _) _).setCell (Nat.le_refl _) _

theorem wholeN_lo (s : Bs) : 8 ≤ wholeN s - at0 s 6 ∧ 0 ≤ at0 s 6 ∧ at0 s 6 < 256 ∧ wholeN s ≤ 66000 := by
  unfold wholeN
  have a4 := at0_lo s 4
  have b4 := at0_hi s 4
  have a5 := at0_lo s 5
  have b5 := at0_hi s 5
  have a6 := at0_lo s 6
  have b6 := at0_hi s 6
  omega

end Go.Proofs.Ytihfibelklhkbaa
