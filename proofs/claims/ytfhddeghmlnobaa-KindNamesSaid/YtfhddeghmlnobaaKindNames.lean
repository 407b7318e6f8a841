/- conduitlaw4.KindNames answers true at every two numbers. No condition. -/
import Derived.Test.YtfhddeghmlnobaaKnown4
namespace Go.Proofs.Ytfhddeghmlnobaa
open Go.RowKit

theorem in_eleven {a : Int} (h : 1 ≤ a ∧ a ≤ 11) : a = 1 ∨ a = 2 ∨ a = 3 ∨ a = 4 ∨ a = 5 ∨ a = 6 ∨ a = 7 ∨ a = 8 ∨ a = 9 ∨ a = 10 ∨ a = 11 := by omega
theorem kindName_in {a : Int} (h : 1 ≤ a ∧ a ≤ 11) : (kindName a == [110, 111, 110, 101]) = false := by
  rcases in_eleven h with rfl | rfl | rfl | rfl | rfl | rfl | rfl | rfl | rfl | rfl | rfl <;> rfl
theorem kindName_out {a : Int} (h : ¬ (1 ≤ a ∧ a ≤ 11)) : kindName a = [110, 111, 110, 101] := by
  unfold kindName
  repeat rw [if_neg (by omega)]
theorem kindName_eq {a b : Int} (h : 1 ≤ a ∧ a ≤ 11) (k : 1 ≤ b ∧ b ≤ 11) : (kindName a == kindName b) = (a == b) := by
  rcases in_eleven h with rfl | rfl | rfl | rfl | rfl | rfl | rfl | rfl | rfl | rfl | rfl <;>
    rcases in_eleven k with rfl | rfl | rfl | rfl | rfl | rfl | rfl | rfl | rfl | rfl | rfl <;> rfl

set_option maxRecDepth 100000 in
set_option maxHeartbeats 4000000 in
theorem kn_said (a b : Int) (w : World) :
    Calls Try.prog 11 #[.int .i64 a, .int .i64 b] w fun e w' => e = .returned (.bool true) ∧ Below w.heap.size w w' := by
  have h1 := fun w => name_any a w
  have h2 := fun w => name_any b w
  have hnn : (([110, 111, 110, 101] : Bs) == [110, 111, 110, 101]) = true := rfl
  have main : ∀ x y : Bs, (∀ w, Calls Try.prog 35 #[.int .i64 a] w fun e w' => e = .returned (.string (bs x)) ∧ Below w.heap.size w w') →
      (∀ w, Calls Try.prog 35 #[.int .i64 b] w fun e w' => e = .returned (.string (bs y)) ∧ Below w.heap.size w w') →
      (x == [110, 111, 110, 101]) = !decide (1 ≤ a ∧ a ≤ 11) → (y == [110, 111, 110, 101]) = !decide (1 ≤ b ∧ b ≤ 11) → 
      (x == y) = (a == b || (!decide (1 ≤ a ∧ a ≤ 11) && !decide (1 ≤ b ∧ b ≤ 11))) →
      Calls Try.prog 11 #[.int .i64 a, .int .i64 b] w fun e w' => e = .returned (.bool true) ∧ Below w.heap.size w w' := by
    intro x y hx hy q1 q2 q3
    have HX := Lib.hid hx
    have HY := Lib.hid hy
    clear hx hy h1 h2
    go_enter Try.func11, Try.ntmps11
    go_wp2_with fail
    refine (known4 _).mono ?_
    rintro e w1 ⟨rfl, W1⟩
    go_wp2_with fail
    refine (HX.out _).mono ?_
    rintro e w2 ⟨rfl, hb⟩
    have W2 := below_later W1 hb
    clear hb W1
    go_wp2_with fail
    refine (HY.out _).mono ?_
    rintro e w3 ⟨rfl, hb⟩
    have W3 := below_later W2 hb
    clear hb W2
    by_cases ha : 1 ≤ a <;> by_cases ha' : a ≤ 11 <;> by_cases hb : 1 ≤ b <;> by_cases hb' : b ≤ 11 <;> by_cases hab : a = b
    all_goals
      simp [ha, ha', hb, hb', hab] at q1 q2 q3
      go_wp2_with fail
      all_goals (first | omega | (go_ret; exact ⟨ret_bool (by simp_all), W3⟩))
  by_cases ha : 1 ≤ a ∧ a ≤ 11 <;> by_cases hb : 1 ≤ b ∧ b ≤ 11
  · exact main _ _ h1 h2 (by rw [kindName_in ha, decide_eq_true ha]; rfl) (by rw [kindName_in hb, decide_eq_true hb]; rfl) (by rw [kindName_eq ha hb, decide_eq_true ha]; simp)
  · rw [kindName_out hb] at h2
    refine main _ _ h1 h2 (by rw [kindName_in ha, decide_eq_true ha]; rfl) (by rw [hnn, decide_eq_false hb]; rfl) (by rw [kindName_in ha, decide_eq_true ha]; simp; omega)
  · rw [kindName_out ha] at h1
    have := kindName_in hb
    refine main _ _ h1 h2 (by rw [hnn, decide_eq_false ha]; rfl) (by rw [kindName_in hb, decide_eq_true hb]; rfl) (by rw [decide_eq_true hb, Bool.beq_comm, kindName_in hb]; simp; omega)
  · rw [kindName_out ha] at h1
    rw [kindName_out hb] at h2
    exact main _ _ h1 h2 (by rw [hnn, decide_eq_false ha]; rfl) (by rw [hnn, decide_eq_false hb]; rfl) (by rw [hnn, decide_eq_false hb, decide_eq_false ha]; simp)
end Go.Proofs.Ytfhddeghmlnobaa
