/- conduitlaw4.known answers true. No condition. -/
import Derived.Test.YtfhddeghmlnobaaDoorKind3
namespace Go.Proofs.YtfhddeghmlnobaaDoor
open Go.RowKit

theorem k4_begin (w : World) : Calls Tryd.prog 42 #[.int .i64 3, .bool true] w fun e w' => e = .returned (.agg #[.int .i64 1, .int .i64 3, .string (bs [0, 1, 1, 0, 0, 0, 0, 0]), .int .i64 0]) ∧ Below w.heap.size w w' := begin_any 3 true w
theorem k4_end (w : World) : Calls Tryd.prog 45 #[.int .i64 3, .agg #[.int .u32 7, .int .i64 2]] w fun e w' => e = .returned (.agg #[.int .i64 3, .int .i64 3, .string (bs [0, 0, 0, 7, 2, 0, 0, 0]), .int .i64 0]) ∧ Below w.heap.size w w' := by
  have := end_any 3 7 2 w (by decide) (by decide)
  rwa [show endR 3 7 2 = ⟨3, 3, [0, 0, 0, 7, 2, 0, 0, 0], 0⟩ from rfl] at this
theorem k4_rb (w : World) : Calls Tryd.prog 38 #[.agg #[.int .i64 1, .int .i64 3, .string (bs [0, 1, 1, 0, 0, 0, 0, 0]), .int .i64 0]] w fun e w' => e = .returned (.tuple #[.int .i64 1, .bool true, .nilIface]) ∧ Below w.heap.size w w' := rb_ok 3 0 [0, 1, 1, 0, 0, 0, 0, 0] w rfl
theorem k4_re (w : World) : Calls Tryd.prog 40 #[.agg #[.int .i64 3, .int .i64 3, .string (bs [0, 0, 0, 7, 2, 0, 0, 0]), .int .i64 0]] w fun e w' => e = .returned (.tuple #[.agg #[.int .u32 7, .int .i64 2], .nilIface]) ∧ Below w.heap.size w w' := re_ok 3 0 [0, 0, 0, 7, 2, 0, 0, 0] w rfl
theorem k4_ref (w : World) : Calls Tryd.prog 40 #[.agg #[.int .i64 1, .int .i64 3, .string (bs [0, 1, 1, 0, 0, 0, 0, 0]), .int .i64 0]] w fun e w' => e = .returned (.tuple #[.agg #[.int .u32 0, .int .i64 0], eV 10]) ∧ Below w.heap.size w w' := re_form ⟨1, 3, [0, 1, 1, 0, 0, 0, 0, 0], 0⟩ w (by decide) (by decide)
theorem k4_rbf (w : World) : Calls Tryd.prog 38 #[.agg #[.int .i64 3, .int .i64 3, .string (bs [0, 0, 0, 7, 2, 0, 0, 0]), .int .i64 0]] w fun e w' => e = .returned (.tuple #[.int .i64 0, .bool false, eV 10]) ∧ Below w.heap.size w w' := rb_form ⟨3, 3, [0, 0, 0, 7, 2, 0, 0, 0], 0⟩ w (by decide) (by decide)
theorem k4_name5 (w : World) : Calls Tryd.prog 49 #[.int .i64 5] w fun e w' => e = .returned (.string (bs [115, 116, 100, 105, 110])) ∧ Below w.heap.size w w' := name_any 5 w
theorem k4_name0 (w : World) : Calls Tryd.prog 49 #[.int .i64 0] w fun e w' => e = .returned (.string (bs [110, 111, 110, 101])) ∧ Below w.heap.size w w' := name_any 0 w
theorem k4_unknown (w : World) : Calls Tryd.prog 47 #[.int .i64 9] w fun e w' => e = .returned (.agg #[.int .i64 11, .int .i64 0, .string (bs [9, 0, 0, 0, 0, 0, 0, 0]), .int .i64 0]) ∧ Below w.heap.size w w' := by
  have := unknown_any 9 w
  rwa [show unknownR 9 = ⟨11, 0, [9, 0, 0, 0, 0, 0, 0, 0], 0⟩ from rfl] at this

theorem field_content (w : World) (a b d : Value) (c : ByteArray) : (Instr.field 58 (.agg #[a, b, .string c, d]) 2).run Tryd.prog w = .ok (.string c) w := by kernel_rfl

set_option maxRecDepth 100000 in
set_option maxHeartbeats 4000000 in
theorem known4 (w : World) : Calls Tryd.prog 37 #[] w fun e w' => e = .returned (.bool true) ∧ Below w.heap.size w w' := by
  go_enter Tryd.func37, Tryd.ntmps37
  go_wp2_with fail
  refine (k4_begin _).mono ?_
  rintro e w1 ⟨rfl, W1⟩
  go_wp2_with fail
  refine (k4_rb _).mono ?_
  rintro e w2 ⟨rfl, hb⟩
  have b2 := new_alloc hb
  have W2 := below_later W1 (below_after hb)
  clear hb W1
  have z2 := box_lt b2
  have cb := box_cells b2
  go_wp2_with fail
  refine (k4_end _).mono ?_
  rintro e w3 ⟨rfl, hb⟩
  have b3 := kept b2 hb
  have W3 := below_later W2 hb
  clear hb W2 b2 cb
  go_wp2_with fail
  refine (k4_re _).mono ?_
  rintro e w4 ⟨rfl, hb⟩
  have b4 := kept_alloc b3 hb
  have x4 := new_alloc hb
  have W4 := below_later W3 (below_after hb)
  clear hb W3 b3 z2
  have zb := box_lt b4
  have zx := box_lt x4
  have cb := box_cells b4
  have cx := box_cells x4
  go_wp2_with fail
  refine (k4_ref _).mono ?_
  rintro e w5 ⟨rfl, hb⟩
  have b5 := kept_alloc b4 hb
  have x5 := kept_alloc x4 hb
  have y5 := new_alloc hb
  have W5 := below_later W4 (below_after hb)
  clear hb W4 b4 x4 cb cx zb zx
  have zb := box_lt b5
  have zx := box_lt x5
  have zy := box_lt y5
  have cb := box_cells b5
  have cx := box_cells x5
  go_wp2_with fail
  refine (k4_rbf _).mono ?_
  rintro e w6 ⟨rfl, hb⟩
  have b6 := kept_alloc b5 hb
  have y6 := kept_alloc y5 hb
  have W6 := below_later W5 (below_after hb)
  clear hb W5 b5 x5 y5 cb cx zb zx zy
  have zb := box_lt b6
  have zy := box_lt y6
  have cb := box_cells b6
  have cy := box_cells y6
  go_wp2_with fail
  refine (is_num 10 10 _).mono ?_
  rintro e w' ⟨rfl, rfl⟩
  clear cb cy b6 y6
  go_wp2_with fail
  refine (is_num 10 10 _).mono ?_
  rintro e w' ⟨rfl, rfl⟩
  go_wp2_with fail
  refine (k4_name5 _).mono ?_
  rintro e w7 ⟨rfl, hb⟩
  have W7 := below_later W6 hb
  clear hb W6
  go_wp2_with fail
  refine (k4_name0 _).mono ?_
  rintro e w8 ⟨rfl, hb⟩
  have W8 := below_later W7 hb
  clear hb W7
  go_wp2_with fail
  refine (k4_unknown _).mono ?_
  rintro e w9 ⟨rfl, hb⟩
  have W9 := below_later W8 hb
  clear hb W8
  have hf := field_content w9 (.int .i64 11) (.int .i64 0) (.int .i64 0) (bs [9, 0, 0, 0, 0, 0, 0, 0])
  go_wp2_with fail
  go_ret
  exact ⟨rfl, W9⟩
end Go.Proofs.YtfhddeghmlnobaaDoor
