/- What kind.ReadEnd computes. Condition: a record's content is no longer than an int tells. -/
import Derived.Test.YtfhddeghmlnobaaDoorKind2
namespace Go.Proofs.YtfhddeghmlnobaaDoor
open Go.RowKit

/-- What ReadEnd reads in eight bytes. -/
def endN (c : Bs) : Int := ((at0 c 0 * 256 + at0 c 1) * 256 + at0 c 2) * 256 + at0 c 3

set_option maxRecDepth 100000 in
set_option maxHeartbeats 2000000 in
theorem re_form (r : Rec) (w : World) (hc : r.c.length ≤ 9223372036854775807) (h : ¬ (r.t = 3 ∧ r.c.length = 8)) :
    Calls Tryd.prog 40 #[r.v] w fun e w' => e = .returned (.tuple #[.agg #[.int .u32 0, .int .i64 0], eV 10]) ∧ Below w.heap.size w w' := by
  have hm := fun w => may_form r 3 w hc h
  have HM := Lib.hid hm
  obtain ⟨rt, i, c, p⟩ := r
  clear hm h hc
  go_enter Tryd.func40, Tryd.ntmps40
  go_wp2_with fail
  refine (HM.out _).mono ?_
  rintro e w1 ⟨rfl, hb⟩
  have r1 := new_alloc2 hb
  have W := below_after2 hb
  clear hb
  have z := box_lt r1
  have cr := box_cells r1
  have fr := box_free r1
  go_wp2_with fail
  refine (is_num 10 10 _).mono ?_
  rintro e w' ⟨rfl, rfl⟩
  go_wp2_with fail
  exact bodyPost_ret (v := .tuple #[.agg #[.int .u32 0, .int .i64 0], eV 10]) (by simp [results, Tryd.results40, go_sem, cr]) rfl ⟨rfl, (W.setCell (Nat.le_succ _) _).setCell (Nat.le_succ _) _⟩

set_option maxRecDepth 100000 in
set_option maxHeartbeats 4000000 in
theorem re_ok (i p : Int) (c : Bs) (w : World) (h : c.length = 8) :
    Calls Tryd.prog 40 #[.agg #[.int .i64 3, .int .i64 i, .string (bs c), .int .i64 p]] w fun e w' => e = .returned (.tuple #[.agg #[.int .u32 (endN c), .int .i64 (at0 c 4)], .nilIface]) ∧ Below w.heap.size w w' := by
  have hm := fun w => may_ok i p 3 c w h (by decide) (by decide)
  have HM := Lib.hid hm
  clear hm
  have a0 := at0_lo c 0
  have b0 := at0_hi c 0
  have a1 := at0_lo c 1
  have b1 := at0_hi c 1
  have a2 := at0_lo c 2
  have b2 := at0_hi c 2
  have a3 := at0_lo c 3
  have b3 := at0_hi c 3
  have a4 := at0_lo c 4
  have b4 := at0_hi c 4
  have e0 : bits .or .u32 0 (at0 c 0) = at0 c 0 := by rw [or_u32 8 0 _ (by omega) (by omega) a0 (by omega) (by omega)]; omega
  have e1 : bits .or .u32 (at0 c 0 * 256) (at0 c 1) = at0 c 0 * 256 + at0 c 1 := or_u32 8 _ _ (by omega) (by omega) a1 (by omega) (by omega)
  have e2 : bits .or .u32 ((at0 c 0 * 256 + at0 c 1) * 256) (at0 c 2) = (at0 c 0 * 256 + at0 c 1) * 256 + at0 c 2 := or_u32 8 _ _ (by omega) (by omega) a2 (by omega) (by omega)
  have e3 : bits .or .u32 (((at0 c 0 * 256 + at0 c 1) * 256 + at0 c 2) * 256) (at0 c 3) = ((at0 c 0 * 256 + at0 c 1) * 256 + at0 c 2) * 256 + at0 c 3 := or_u32 8 _ _ (by omega) (by omega) a3 (by omega) (by omega)
  go_enter Tryd.func40, Tryd.ntmps40
  go_wp2_with fail
  refine (HM.out _).mono ?_
  rintro e w1 ⟨rfl, hb⟩
  have r1 := new_alloc2 hb
  have r0 := kept_alloc (heap_alloc_new w _) hb
  have W := below_after2 hb
  clear hb
  have z := box_lt r1
  have z0 := box_lt r0
  have cr := box_cells r1
  have c0 := box_cells r0
  have fr := box_free r1
  go_wp2_with fail
  refine (is_nil 10 _).mono ?_
  rintro e w' ⟨rfl, rfl⟩
  go_wp2_with fail
  refine wp_loop_rounds 5 ?_
  rw [rounds_succ]
  go_wp2_with fail
  go_region
  go_wp2_with fail
  rw [rounds_succ]
  go_wp2_with fail
  go_region
  go_wp2_with fail
  rw [rounds_succ]
  go_wp2_with fail
  go_region
  go_wp2_with fail
  rw [rounds_succ]
  go_wp2_with fail
  go_region
  go_wp2_with fail
  rw [rounds_succ]
  go_wp2_with fail
  refine bodyPost_ret (v := .tuple #[.agg #[.int .u32 (endN c), .int .i64 (at0 c 4)], .nilIface]) (by simp [results, Tryd.results40, go_sem, cr, endN, z]) rfl ⟨rfl, ?_⟩
  exact (((W.setCell (Nat.le_succ _) _).setCell (Nat.le_succ _) _).alloc (by simp; omega) _).drew.drew.drew.drew
end Go.Proofs.YtfhddeghmlnobaaDoor
