/- conduitlaw2.known answers true. No condition. -/
import Derived.Test.YtfhddeghmlnobaaDoorBytes
import Derived.Test.YtfhddeghmlnobaaDoorRead
namespace Go.Proofs.YtfhddeghmlnobaaDoor
open Go.RowKit

theorem k2_is (w : World) : Calls Tryd.prog 32 #[.agg #[.int .i64 6, .int .i64 258, .string (bs [97, 98]), .int .i64 6]] w fun e w' => e = .returned (.bool true) ∧ Below w.heap.size w w' := by
  have := is_any ⟨6, 258, [97, 98], 6⟩ w (by decide)
  rwa [show decide (Rec.Is ⟨6, 258, [97, 98], 6⟩) = true from by decide] at this
theorem k2_not (w : World) : Calls Tryd.prog 32 #[.agg #[.int .i64 0, .int .i64 0, .string (bs []), .int .i64 0]] w fun e w' => e = .returned (.bool false) ∧ Below w.heap.size w w' := by
  have := is_any Rec.zero w (by decide)
  rwa [show decide (Rec.Is Rec.zero) = false from by decide] at this
theorem k2_bytes (w : World) : Calls Tryd.prog 33 #[.agg #[.int .i64 6, .int .i64 258, .string (bs [97, 98]), .int .i64 6]] w fun e w' => e = .returned (.string (bs [1, 6, 1, 2, 0, 2, 6, 0, 97, 98, 0, 0, 0, 0, 0, 0])) ∧ Below w.heap.size w w' := by
  have := bytes_any ⟨6, 258, [97, 98], 6⟩ w (by decide)
  rwa [show Rec.bytes ⟨6, 258, [97, 98], 6⟩ = [1, 6, 1, 2, 0, 2, 6, 0, 97, 98, 0, 0, 0, 0, 0, 0] from by decide] at this
theorem k2_none (w : World) : Calls Tryd.prog 33 #[.agg #[.int .i64 0, .int .i64 0, .string (bs []), .int .i64 0]] w fun e w' => e = .returned (.string (bs [])) ∧ Below w.heap.size w w' := by
  have := bytes_any Rec.zero w (by decide)
  rwa [show Rec.bytes Rec.zero = [] from by decide] at this
theorem k2_pad (w : World) : Calls Tryd.prog 35 #[.int .i64 3] w fun e w' => e = .returned (.int .i64 5) ∧ Below w.heap.size w w' := by
  have := pad_any 3 w
  rwa [show padN 3 = 5 from by decide] at this
theorem k2_read (w : World) : Calls Tryd.prog 30 #[.string (bs [1, 6, 1, 2, 0, 2, 6, 0, 97, 98, 0, 0, 0, 0, 0, 0, 122])] w fun e w' => e = .returned (.tuple #[.agg #[.int .i64 6, .int .i64 258, .string (bs [97, 98]), .int .i64 6], .string (bs [122]), .nilIface]) ∧ Below w.heap.size w w' := by
  have := read_ok [1, 6, 1, 2, 0, 2, 6, 0, 97, 98, 0, 0, 0, 0, 0, 0, 122] w (by decide) (by decide) (by decide) (by decide)
  rwa [show front [1, 6, 1, 2, 0, 2, 6, 0, 97, 98, 0, 0, 0, 0, 0, 0, 122] = ⟨6, 258, [97, 98], 6⟩ from rfl] at this
theorem k2_ver (w : World) : Calls Tryd.prog 30 #[.string (bs [2])] w fun e w' => e = .returned (.tuple #[.agg #[.int .i64 0, .int .i64 0, .string (bs []), .int .i64 0], .string (bs [2]), eV 13]) ∧ Below w.heap.size w w' :=
  read_ver [2] w (by decide) (by decide)
theorem k2_short (w : World) : Calls Tryd.prog 30 #[.string (bs [1])] w fun e w' => e = .returned (.tuple #[.agg #[.int .i64 0, .int .i64 0, .string (bs []), .int .i64 0], .string (bs [1]), eV 11]) ∧ Below w.heap.size w w' :=
  read_short [1] w (by decide) (by decide)
theorem k2_form (w : World) : Calls Tryd.prog 30 #[.string (bs [1, 0, 0, 0, 0, 0, 0, 0])] w fun e w' => e = .returned (.tuple #[.agg #[.int .i64 0, .int .i64 0, .string (bs []), .int .i64 0], .string (bs [1, 0, 0, 0, 0, 0, 0, 0]), eV 10]) ∧ Below w.heap.size w w' :=
  read_form [1, 0, 0, 0, 0, 0, 0, 0] w (by decide) (by decide) (by decide) (by decide)

set_option maxRecDepth 100000 in
set_option maxHeartbeats 4000000 in
theorem known2 (w : World) : Calls Tryd.prog 29 #[] w fun e w' => e = .returned (.bool true) ∧ Below w.heap.size w w' := by
  go_enter Tryd.func29, Tryd.ntmps29
  go_wp2_with fail
  refine (k2_bytes _).mono ?_
  rintro e w1 ⟨rfl, hb⟩
  have r1 := new_alloc hb
  have W1 := below_after hb
  clear hb
  go_wp2_with fail
  refine (k2_read _).mono ?_
  rintro e w2 ⟨rfl, hb⟩
  have r2 := kept r1 hb
  have W2 := below_later W1 hb
  clear hb r1 W1
  go_wp2_with fail
  refine (k2_ver _).mono ?_
  rintro e w3 ⟨rfl, hb⟩
  have r3 := kept_alloc r2 hb
  have x3 := new_alloc hb
  have W3 := below_later W2 (below_after hb)
  have z23 := box_lt x3
  clear hb r2 W2
  go_wp2_with fail
  refine (k2_short _).mono ?_
  rintro e w4 ⟨rfl, hb⟩
  have r4 := kept_alloc r3 hb
  have x4 := kept_alloc x3 hb
  have W4 := below_later W3 (below_after hb)
  clear hb r3 x3 W3
  go_wp2_with fail
  refine (k2_form _).mono ?_
  rintro e w5 ⟨rfl, hb⟩
  have r5 := kept_alloc r4 hb
  have x5 := kept_alloc x4 hb
  have W5 := below_later W4 (below_after hb)
  clear hb r4 x4 W4
  have zr := box_lt r5
  have cr := box_cells r5
  go_wp2_with fail
  refine (k2_is _).mono ?_
  rintro e w6 ⟨rfl, hb⟩
  have r6 := kept_alloc r5 hb
  have x6 := kept_alloc x5 hb
  have W6 := below_later W5 (below_after hb)
  clear hb r5 x5 W5 cr zr
  go_wp2_with fail
  refine (k2_not _).mono ?_
  rintro e w7 ⟨rfl, hb⟩
  have r7 := kept r6 hb
  have x7 := kept x6 hb
  have W7 := below_later W6 hb
  clear hb r6 x6 W6
  have cr := box_cells r7
  have cx := box_cells x7
  go_wp2_with fail
  refine (is_num 13 13 _).mono ?_
  rintro e w' ⟨rfl, rfl⟩
  clear cr cx r7 x7
  go_wp2_with fail
  refine (is_num 11 11 _).mono ?_
  rintro e w' ⟨rfl, rfl⟩
  go_wp2_with fail
  refine (is_num 10 10 _).mono ?_
  rintro e w' ⟨rfl, rfl⟩
  go_wp2_with fail
  refine (k2_pad _).mono ?_
  rintro e w8 ⟨rfl, hb⟩
  have W8 := below_later W7 hb
  clear hb W7
  go_wp2_with fail
  refine (k2_none _).mono ?_
  rintro e w9 ⟨rfl, hb⟩
  have W9 := below_later W8 hb
  clear hb W8
  go_wp2_with fail
  go_ret
  exact ⟨rfl, W9⟩
end Go.Proofs.YtfhddeghmlnobaaDoor
