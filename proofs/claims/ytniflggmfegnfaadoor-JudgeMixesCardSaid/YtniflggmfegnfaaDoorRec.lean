/- What record.go and the reference's records compute: padding, whether a record may be, its bytes, the record in front of bytes. Conditions: texts are no longer than an int tells. -/
import Derived.Test.YtniflggmfegnfaaDoorErr
namespace Go.Proofs.YtniflggmfegnfaaDoor
open Go.RowKit

theorem ret_int {k : IntKind} {a b : Int} (h : a = b) : Ending.returned (.int k a) = .returned (.int k b) := by rw [h]
theorem ret_bool {a b : Bool} (h : a = b) : Ending.returned (.bool a) = .returned (.bool b) := by rw [h]
theorem ret_text {a b : Bs} (h : a = b) : Ending.returned (.string (bs a)) = .returned (.string (bs b)) := by rw [h]

theorem bool_is {b : Bool} {p : Prop} [Decidable p] (h : b = true ↔ p) : b = decide p := by
  rw [Bool.eq_iff_iff, decide_eq_true_iff]; exact h

/-! ### padding -/
theorem rpad_any (n : Int) (w : World) :
    Calls Tryd.prog 21 #[.int .i64 n] w fun e w' => e = .returned (.int .i64 (padN n)) ∧ Below w.heap.size w w' := by
  go_enter Tryd.func21, Tryd.ntmps21
  go_wp2
  all_goals (go_ret; exact ⟨ret_int (by unfold padN; omega), Below.refl _ _⟩)

/-! ### whether a record may be -/
set_option maxRecDepth 100000 in
set_option maxHeartbeats 1000000 in
theorem is_any (r : Rec) (w : World) (hc : r.c.length ≤ 9223372036854775807) :
    Calls Tryd.prog 31 #[r.v] w fun e w' => e = .returned (.bool (decide r.Is)) ∧ Below w.heap.size w w' := by
  obtain ⟨t, i, c, p⟩ := r
  simp only at hc
  go_enter Tryd.func31, Tryd.ntmps31
  go_wp2
  all_goals (go_ret; exact ⟨ret_bool (bool_is (by simp only [Bool.false_eq_true, false_iff, decide_eq_true_eq, Rec.Is]; omega)), below_alloc _ _⟩)

set_option maxRecDepth 100000 in
set_option maxHeartbeats 1000000 in
theorem ris_any (r : Rec) (w : World) (hc : r.c.length ≤ 9223372036854775807) :
    Calls Tryd.prog 16 #[r.v] w fun e w' => e = .returned (.bool (decide r.Is)) ∧ Below w.heap.size w w' := by
  obtain ⟨t, i, c, p⟩ := r
  simp only at hc
  go_enter Tryd.func16, Tryd.ntmps16
  go_wp2
  all_goals (go_ret; exact ⟨ret_bool (bool_is (by simp only [Bool.false_eq_true, false_iff, decide_eq_true_eq, Rec.Is]; omega)), below_alloc _ _⟩)

/-! ### two bytes of a number -/
theorem row_two (n : Int) (w : World) : Rg.Row 5 1 2 ((two n).map bv) (.slice (some ⟨w.heap.size, 0, none⟩) 2 2) (fun k => k = w.heap.size) (w.alloc (.cells #[.int .u8 (n / 256 % 256), .int .u8 (n % 256)] 5)) :=
  Rg.row_bytes w 5 (two n) _ (by simp [two, bv, u8_cast]) (by simp [two, maxLen])

theorem rtwo_any (n : Int) (w : World) (h0 : 0 ≤ n) (h1 : n ≤ 9223372036854775807) :
    Calls Tryd.prog 17 #[.int .i64 n] w fun e w' => e = .returned (.string (bs (two n))) ∧ Below w.heap.size w w' := by
  have hc := row_text (row_two n w)
  go_enter Tryd.func17, Tryd.ntmps17
  go_wp2
  go_ret
  exact ⟨rfl, below_alloc _ _⟩

/-- record.two gives a new row of two bytes. -/
theorem two_any (n : Int) (w : World) (h0 : 0 ≤ n) (h1 : n ≤ 9223372036854775807) :
    Calls Tryd.prog 32 #[.int .i64 n] w fun e w' => ∃ v, e = .returned v ∧ Rg.Row 5 1 2 ((two n).map bv) v (fun k => w.heap.size ≤ k ∧ k < w'.heap.size) w' ∧ Below w.heap.size w w' := by
  have hr := row_two n w
  go_enter Tryd.func32, Tryd.ntmps32
  go_wp2
  go_ret
  refine ⟨_, rfl, ⟨hr.1, fun k hk => ?_⟩, below_alloc _ _⟩
  have := hr.2 k hk
  subst this
  simp
end Go.Proofs.YtniflggmfegnfaaDoor
