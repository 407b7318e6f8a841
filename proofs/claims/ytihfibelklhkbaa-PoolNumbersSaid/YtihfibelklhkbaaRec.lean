/- What record.go and the reference's records compute: padding, whether a record may be, its bytes, the record in front of bytes. Conditions: texts are no longer than an int tells. -/
import Derived.Test.YtihfibelklhkbaaErr
namespace Go.Proofs.Ytihfibelklhkbaa
open Go.RowKit

theorem ret_int {k : IntKind} {a b : Int} (h : a = b) : Ending.returned (.int k a) = .returned (.int k b) := by rw [h]
theorem ret_bool {a b : Bool} (h : a = b) : Ending.returned (.bool a) = .returned (.bool b) := by rw [h]
theorem ret_text {a b : Bs} (h : a = b) : Ending.returned (.string (bs a)) = .returned (.string (bs b)) := by rw [h]

theorem bool_is {b : Bool} {p : Prop} [Decidable p] (h : b = true ↔ p) : b = decide p := by
  rw [Bool.eq_iff_iff, decide_eq_true_iff]; exact h

/-! ### padding -/
theorem pad_any (n : Int) (w : World) :
    Calls Try.prog 55 #[.int .i64 n] w fun e w' => e = .returned (.int .i64 (padN n)) ∧ Below w.heap.size w w' := by
  go_enter Try.func55, Try.ntmps55
  go_wp2
  all_goals (go_ret; exact ⟨ret_int (by unfold padN; omega), Below.refl _ _⟩)

theorem row_two (n : Int) (w : World) : Rg.Row 5 1 2 ((two n).map bv) (.slice (some ⟨w.heap.size, 0, none⟩) 2 2) (fun k => k = w.heap.size) (w.alloc (.cells #[.int .u8 (n / 256 % 256), .int .u8 (n % 256)] 5)) :=
  Rg.row_bytes w 5 (two n) _ (by simp [two, bv, u8_cast]) (by simp [two, maxLen])

end Go.Proofs.Ytihfibelklhkbaa
