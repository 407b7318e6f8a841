/- What the package kind computes: what begins, ends. Condition: a record's content is no longer than an int tells. -/
import Derived.Test.YtniflggmfegnfaaDoorKind
namespace Go.Proofs.YtniflggmfegnfaaDoor
open Go.RowKit

def beginR (i : Int) (keep : Bool) : Rec := eightR 1 i [0, 1, if keep then 1 else 0]
def endR (i a p : Int) : Rec := eightR 3 i [u8 (a / 16777216), u8 (a / 65536), u8 (a / 256), u8 a, u8 p]
def unknownR (t : Int) : Rec := eightR 11 0 [u8 t]
def mayC (r : Rec) (t : Int) : Int := if r.t = t ∧ r.c.length = 8 then 0 else 10

theorem may_form (r : Rec) (t : Int) (w : World) (hc : r.c.length ≤ 9223372036854775807) (h : ¬ (r.t = t ∧ r.c.length = 8)) :
    Calls Tryd.prog 50 #[r.v, .int .i64 t] w fun e w' => e = .returned (eV 10) ∧ Below w.heap.size w w' := by
  obtain ⟨rt, i, c, p⟩ := r
  simp only at h hc
  by_cases h1 : rt = t
  · subst h1
    have h2 : ¬ ((c.length : Int) = 8) := by intro e; exact h ⟨rfl, by omega⟩
    have q1 : (rt != rt) = false := by simp
    have q2 : ((c.length : Int) != 8) = true := by simpa using h2
    clear h h2
    go_enter Tryd.func50, Tryd.ntmps50
    go_wp2
    all_goals (go_ret; exact ⟨rfl, below_alloc _ _⟩)
  · have q1 : (rt != t) = true := by simpa using h1
    clear h
    go_enter Tryd.func50, Tryd.ntmps50
    go_wp2
    all_goals (go_ret; exact ⟨rfl, below_alloc _ _⟩)

set_option maxHeartbeats 1000000 in
theorem may_ok (i p t : Int) (c : Bs) (w : World) (h : c.length = 8) (h1 : 1 ≤ t) (h2 : t ≤ 255) :
    Calls Tryd.prog 50 #[.agg #[.int .i64 t, .int .i64 i, .string (bs c), .int .i64 p], .int .i64 t] w fun e w' => e = .returned .nilIface ∧ Below w.heap.size w w' := by
  have hI : (⟨t, 0, c, 0⟩ : Rec).Is := by unfold Rec.Is; simp only; omega
  have hS := fun w => is_any ⟨t, 0, c, 0⟩ w (by simp only; omega)
  rw [decide_eq_true hI] at hS
  have HS := Lib.hid hS
  clear hS hI
  have q1 : (t != t) = false := by simp
  have q2 : ((c.length : Int) != 8) = false := by simp; omega
  clear h h1 h2
  go_enter Tryd.func50, Tryd.ntmps50
  go_wp2_with fail
  refine (HS.out _).mono ?_
  rintro e w1 ⟨rfl, hb⟩
  have W := below_after hb
  clear hb
  go_wp2_with fail
  go_ret
  exact ⟨rfl, W⟩

/-- What ReadBegin reads in eight bytes. -/
def beginN (c : Bs) : Int := at0 c 0 * 256 + at0 c 1

theorem rb_form (r : Rec) (w : World) (hc : r.c.length ≤ 9223372036854775807) (h : ¬ (r.t = 1 ∧ r.c.length = 8)) :
    Calls Tryd.prog 39 #[r.v] w fun e w' => e = .returned (.tuple #[.int .i64 0, .bool false, eV 10]) ∧ Below w.heap.size w w' := by
  have hm := fun w => may_form r 1 w hc h
  have HM := Lib.hid hm
  obtain ⟨rt, i, c, p⟩ := r
  clear hm h hc
  go_enter Tryd.func39, Tryd.ntmps39
  go_wp2_with fail
  refine (HM.out _).mono ?_
  rintro e w1 ⟨rfl, hb⟩
  have W := below_after hb
  clear hb
  go_wp2_with fail
  refine (is_num 10 10 _).mono ?_
  rintro e w' ⟨rfl, rfl⟩
  go_wp2_with fail
  exact bodyPost_ret (v := .tuple #[.int .i64 0, .bool false, eV 10]) (by simp [results, Tryd.results39, go_sem]) rfl ⟨rfl, W⟩

set_option maxRecDepth 100000 in
set_option maxHeartbeats 2000000 in
theorem rb_ok (i p : Int) (c : Bs) (w : World) (h : c.length = 8) :
    Calls Tryd.prog 39 #[.agg #[.int .i64 1, .int .i64 i, .string (bs c), .int .i64 p]] w fun e w' => e = .returned (.tuple #[.int .i64 (beginN c), .bool (at0 c 2 % 2 == 1), .nilIface]) ∧ Below w.heap.size w w' := by
  have hm := fun w => may_ok i p 1 c w h (by decide) (by decide)
  have HM := Lib.hid hm
  clear hm
  have a0 := at0_lo c 0
  have b0 := at0_hi c 0
  have a1 := at0_lo c 1
  have b1 := at0_hi c 1
  have a2 := at0_lo c 2
  have b2 := at0_hi c 2
  have hor := or_two (at0 c 0) (at0 c 1) a0 b0 a1 b1
  have hand := and_u8_1 (at0 c 2) a2 b2
  go_enter Tryd.func39, Tryd.ntmps39
  go_wp2_with fail
  refine (HM.out _).mono ?_
  rintro e w1 ⟨rfl, hb⟩
  have r1 := new_alloc hb
  have W := below_after hb
  clear hb
  have z := box_lt r1
  have cr := box_cells r1
  go_wp2_with fail
  refine (is_nil 10 _).mono ?_
  rintro e w' ⟨rfl, rfl⟩
  go_wp2_with fail
  go_quiet (fail)
  go_wp2_with fail
  exact bodyPost_ret (v := .tuple #[.int .i64 (beginN c), .bool (at0 c 2 % 2 == 1), .nilIface]) (by simp [results, Tryd.results39, go_sem, beginN]) rfl ⟨rfl, below_drewN W _⟩
end Go.Proofs.YtniflggmfegnfaaDoor
