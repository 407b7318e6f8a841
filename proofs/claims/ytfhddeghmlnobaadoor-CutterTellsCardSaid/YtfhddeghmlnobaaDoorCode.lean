/- What the laws' own function 'code' answers: an error's number; 0 where there is none. Condition: errors.errorType holds error's type. -/
import Derived.Test.YtfhddeghmlnobaaDoorAs
import Derived.Test.YtfhddeghmlnobaaDoorRead
import Derived.Test.YtfhddeghmlnobaaDoorAid
namespace Go.Proofs.YtfhddeghmlnobaaDoor
open Go.RowKit

theorem code_world (n : Int) (w : World) :
    Below w.heap.size w (((((w.alloc (.cells #[.int .i64 n] 34)).alloc (.cells #[.pointer (some ⟨w.heap.size, 0, none⟩)] 88)).alloc (.cells #[.pointer (some ⟨2, 88, none⟩), .pointer (some ⟨w.heap.size + 1, 0, none⟩), .int .u64 150] 111)).alloc (.cells #[.pointer (some ⟨2, 88, none⟩), .pointer (some ⟨w.heap.size + 1, 0, none⟩), .int .u64 150] 111)).alloc (.cells #[.int .i64 n] 34)) :=
  (((((Below.refl w.heap.size w).alloc (Nat.le_refl _) _).alloc (by simp) _).alloc (by simp; omega) _).alloc (by simp; omega) _).alloc (by simp; omega) _

theorem code2_nil (w : World) : Calls Tryd.prog 34 #[.nilIface] w fun e w' => e = .returned (.int .i64 0) ∧ Below w.heap.size w w' := by
  go_enter Tryd.func34, Tryd.ntmps34
  go_wp2_with fail
  go_ret
  exact ⟨rfl, below_alloc _ _⟩
set_option maxHeartbeats 1000000 in
theorem code2_num (n : Int) (w : World) (hg : w.cell? ⟨0, 0, none⟩ = some errTypeV) : Calls Tryd.prog 34 #[eV n] w fun e w' => e = .returned (.int .i64 n) ∧ Below w.heap.size w w' := by
  have hg1 : (w.alloc (.cells #[.int .i64 0] 34)).cell? ⟨0, 0, none⟩ = some errTypeV := by
    rw [World.cell?_alloc_lt _ _ ⟨0, 0, none⟩ (World.block_lt_of_cell? w _ hg)]; exact hg
  have ha := as_hit n ⟨w.heap.size, 0, none⟩ (.int .i64 0) (w.alloc (.cells #[.int .i64 0] 34)) hg1 (by simp) (by simp)
  have hW := code_world n w
  have HA := Lib.hid ha
  have HW := Lib.hid hW
  clear ha hW hg1
  go_enter Tryd.func34, Tryd.ntmps34
  go_wp2_with fail
  refine HA.out.mono ?_
  rintro e w' ⟨rfl, rfl⟩
  go_wp2_with fail
  go_ret
  exact ⟨rfl, HW.out⟩
theorem code2_any (c : Int) (w : World) (hg : w.cell? ⟨0, 0, none⟩ = some errTypeV) : Calls Tryd.prog 34 #[errV c] w fun e w' => e = .returned (.int .i64 c) ∧ Below w.heap.size w w' := by
  by_cases h : c = 0
  · subst h; exact code2_nil w
  · rw [errV_num h]; exact code2_num c w hg


theorem code4_nil (w : World) : Calls Tryd.prog 44 #[.nilIface] w fun e w' => e = .returned (.int .i64 0) ∧ Below w.heap.size w w' := by
  go_enter Tryd.func44, Tryd.ntmps44
  go_wp2_with fail
  go_ret
  exact ⟨rfl, below_alloc _ _⟩
set_option maxHeartbeats 1000000 in
theorem code4_num (n : Int) (w : World) (hg : w.cell? ⟨0, 0, none⟩ = some errTypeV) : Calls Tryd.prog 44 #[eV n] w fun e w' => e = .returned (.int .i64 n) ∧ Below w.heap.size w w' := by
  have hg1 : (w.alloc (.cells #[.int .i64 0] 34)).cell? ⟨0, 0, none⟩ = some errTypeV := by
    rw [World.cell?_alloc_lt _ _ ⟨0, 0, none⟩ (World.block_lt_of_cell? w _ hg)]; exact hg
  have ha := as_hit n ⟨w.heap.size, 0, none⟩ (.int .i64 0) (w.alloc (.cells #[.int .i64 0] 34)) hg1 (by simp) (by simp)
  have hW := code_world n w
  have HA := Lib.hid ha
  have HW := Lib.hid hW
  clear ha hW hg1
  go_enter Tryd.func44, Tryd.ntmps44
  go_wp2_with fail
  refine HA.out.mono ?_
  rintro e w' ⟨rfl, rfl⟩
  go_wp2_with fail
  go_ret
  exact ⟨rfl, HW.out⟩
theorem code4_any (c : Int) (w : World) (hg : w.cell? ⟨0, 0, none⟩ = some errTypeV) : Calls Tryd.prog 44 #[errV c] w fun e w' => e = .returned (.int .i64 c) ∧ Below w.heap.size w w' := by
  by_cases h : c = 0
  · subst h; exact code4_nil w
  · rw [errV_num h]; exact code4_num c w hg

theorem code5_nil (w : World) : Calls Tryd.prog 24 #[.nilIface] w fun e w' => e = .returned (.int .i64 0) ∧ Below w.heap.size w w' := by
  go_enter Tryd.func24, Tryd.ntmps24
  go_wp2_with fail
  go_ret
  exact ⟨rfl, below_alloc _ _⟩
set_option maxHeartbeats 1000000 in
theorem code5_num (n : Int) (w : World) (hg : w.cell? ⟨0, 0, none⟩ = some errTypeV) : Calls Tryd.prog 24 #[eV n] w fun e w' => e = .returned (.int .i64 n) ∧ Below w.heap.size w w' := by
  have hg1 : (w.alloc (.cells #[.int .i64 0] 34)).cell? ⟨0, 0, none⟩ = some errTypeV := by
    rw [World.cell?_alloc_lt _ _ ⟨0, 0, none⟩ (World.block_lt_of_cell? w _ hg)]; exact hg
  have ha := as_hit n ⟨w.heap.size, 0, none⟩ (.int .i64 0) (w.alloc (.cells #[.int .i64 0] 34)) hg1 (by simp) (by simp)
  have hW := code_world n w
  have HA := Lib.hid ha
  have HW := Lib.hid hW
  clear ha hW hg1
  go_enter Tryd.func24, Tryd.ntmps24
  go_wp2_with fail
  refine HA.out.mono ?_
  rintro e w' ⟨rfl, rfl⟩
  go_wp2_with fail
  go_ret
  exact ⟨rfl, HW.out⟩
theorem code5_any (c : Int) (w : World) (hg : w.cell? ⟨0, 0, none⟩ = some errTypeV) : Calls Tryd.prog 24 #[errV c] w fun e w' => e = .returned (.int .i64 c) ∧ Below w.heap.size w w' := by
  by_cases h : c = 0
  · subst h; exact code5_nil w
  · rw [errV_num h]; exact code5_num c w hg





end Go.Proofs.YtfhddeghmlnobaaDoor
