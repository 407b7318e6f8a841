/- What the reference's kinds compute: the same as the package kind. Condition: a record's content is no longer than an int tells. -/
import Derived.Test.YtfhddeghmlnobaaDoorKnown4
import Derived.Test.YtfhddeghmlnobaaDoorBeginRef
import Derived.BigRegion
namespace Go.Proofs.YtfhddeghmlnobaaDoor
open Go.RowKit

set_option maxRecDepth 100000 in
set_option maxHeartbeats 1000000 in
theorem rname_out (t : Int) (w : World) (h : t < 1 ∨ 11 < t) :
    Calls Tryd.prog 50 #[.int .i64 t] w fun e w' => e = .returned (.string (bs [110, 111, 110, 101])) ∧ Below w.heap.size w w' := by
  rcases h with h | h
  all_goals
    go_enter Tryd.func50, Tryd.ntmps50
    go_wp2
    go_ret
    exact ⟨rfl, Below.refl _ _⟩
set_option maxRecDepth 100000 in
set_option maxHeartbeats 1000000 in
theorem rname_in (t : Int) (w : World) (h : 1 ≤ t) (h' : t ≤ 11) :
    Calls Tryd.prog 50 #[.int .i64 t] w fun e w' => e = .returned (.string (bs (kindName t))) ∧ Below w.heap.size w w' := by
  have : t = 1 ∨ t = 2 ∨ t = 3 ∨ t = 4 ∨ t = 5 ∨ t = 6 ∨ t = 7 ∨ t = 8 ∨ t = 9 ∨ t = 10 ∨ t = 11 := by omega
  have hix : ∀ w, (Instr.index 105 (.agg #[.string (bs []), .string (bs [98, 101, 103, 105, 110]), .string (bs [97, 98, 111, 114, 116]), .string (bs [101, 110, 100]), .string (bs [112, 97, 114, 97, 109, 115]), .string (bs [115, 116, 100, 105, 110]), .string (bs [115, 116, 100, 111, 117, 116]), .string (bs [115, 116, 100, 101, 114, 114]), .string (bs [100, 97, 116, 97]), .string (bs [103, 101, 116]), .string (bs [103, 111, 116]), .string (bs [117, 110, 107, 110, 111, 119, 110])]) (.int .i64 t)).run Tryd.prog w = .ok (.string (bs (kindName t))) w := by
    rcases this with rfl | rfl | rfl | rfl | rfl | rfl | rfl | rfl | rfl | rfl | rfl <;> (intro w; kernel_rfl)
  clear h h'
  rcases this with rfl | rfl | rfl | rfl | rfl | rfl | rfl | rfl | rfl | rfl | rfl
  all_goals
    go_enter Tryd.func50, Tryd.ntmps50
    go_wp2
    go_ret
    exact ⟨rfl, Below.refl _ _⟩
theorem rname_any (t : Int) (w : World) :
    Calls Tryd.prog 50 #[.int .i64 t] w fun e w' => e = .returned (.string (bs (kindName t))) ∧ Below w.heap.size w w' := by
  by_cases h : 1 ≤ t ∧ t ≤ 11
  · exact rname_in t w h.1 h.2
  · have e : kindName t = [110, 111, 110, 101] := by
      unfold kindName
      repeat rw [if_neg (by omega)]
    rw [e]
    exact rname_out t w (by omega)

set_option maxRecDepth 100000 in
set_option maxHeartbeats 1000000 in
theorem runknown_any (t : Int) (w : World) :
    Calls Tryd.prog 48 #[.int .i64 t] w fun e w' => e = .returned (unknownR t).v ∧ Below w.heap.size w w' := by
  have hcv := fun w' => row_text (Rg.row_bytes w' 5 [u8 t, 0, 0, 0, 0, 0, 0, 0] #[.int .u8 (t % 256), .int .u8 0, .int .u8 0, .int .u8 0, .int .u8 0, .int .u8 0, .int .u8 0, .int .u8 0] (by simp [bv, u8_cast]) (by simp [maxLen]))
  rw [show ([u8 t, 0, 0, 0, 0, 0, 0, 0] : Bs).length = 8 from rfl] at hcv
  have hcv1 := hcv (w.alloc (.cells #[.int .i64 0, .int .i64 0, .string (bs []), .int .i64 0] 58))
  rw [show (w.alloc (.cells #[.int .i64 0, .int .i64 0, .string (bs []), .int .i64 0] 58)).heap.size = w.heap.size + 1 from by simp] at hcv1
  go_enter Tryd.func48, Tryd.ntmps48
  go_wp2_with fail
  exact bodyPost_ret (v := (unknownR t).v) (by simp [results, Tryd.results48, go_sem, unknownR, eightR]) rfl ⟨rfl, below_later (below_alloc _ _) (below_alloc _ _)⟩

set_option maxRecDepth 100000 in
set_option maxHeartbeats 1000000 in
theorem rendof_any (i a p : Int) (w : World) (h0 : 0 ≤ a) (h1 : a < 4294967296) :
    Calls Tryd.prog 46 #[.int .i64 i, .agg #[.int .u32 a, .int .i64 p]] w fun e w' => e = .returned (endR i a p).v ∧ Below w.heap.size w w' := by
  have hcv := fun w' => row_text (Rg.row_bytes w' 5 [u8 (a / 16777216), u8 (a / 65536), u8 (a / 256), u8 a, u8 p, 0, 0, 0] #[.int .u8 (a / 16777216), .int .u8 (a / 65536 % 256), .int .u8 (a / 256 % 256), .int .u8 (a % 256), .int .u8 (p % 256), .int .u8 0, .int .u8 0, .int .u8 0] (by simp [bv, u8_cast]; omega) (by simp [maxLen]))
  rw [show ([u8 (a / 16777216), u8 (a / 65536), u8 (a / 256), u8 a, u8 p, 0, 0, 0] : Bs).length = 8 from rfl] at hcv
  have hcv1 := hcv ((w.alloc (.cells #[.int .u32 a, .int .i64 p] 72)).alloc (.cells #[.int .i64 0, .int .i64 0, .string (bs []), .int .i64 0] 58))
  rw [show ((w.alloc (.cells #[.int .u32 a, .int .i64 p] 72)).alloc (.cells #[.int .i64 0, .int .i64 0, .string (bs []), .int .i64 0] 58)).heap.size = w.heap.size + 1 + 1 from by simp] at hcv1
  clear hcv
  go_enter Tryd.func46, Tryd.ntmps46
  go_wp2_with fail
  exact bodyPost_ret (v := (endR i a p).v) (by simp [results, Tryd.results46, go_sem, endR, eightR]) rfl ⟨rfl, below_later (below_alloc _ _) (below_later (below_alloc _ _) (below_alloc _ _))⟩

theorem rrb_form (r : Rec) (w : World) (hc : r.c.length ≤ 9223372036854775807) (h : ¬ (r.t = 1 ∧ r.c.length = 8)) :
    Calls Tryd.prog 39 #[r.v] w fun e w' => e = .returned (.tuple #[.int .i64 0, .bool false, .int .i64 10]) ∧ Below w.heap.size w w' := by
  obtain ⟨rt, i, c, p⟩ := r
  simp only at h hc
  by_cases h1 : rt = 1
  · subst h1
    have q2 : ((c.length : Int) != 8) = true := by simp; intro e; exact h ⟨rfl, by omega⟩
    clear h
    go_enter Tryd.func39, Tryd.ntmps39
    go_wp2
    all_goals (exact bodyPost_ret (v := .tuple #[.int .i64 0, .bool false, .int .i64 10]) (by simp [results, Tryd.results39, go_sem]) rfl ⟨rfl, below_alloc _ _⟩)
  · have q1 : (rt != 1) = true := by simpa using h1
    clear h
    go_enter Tryd.func39, Tryd.ntmps39
    go_wp2
    all_goals (exact bodyPost_ret (v := .tuple #[.int .i64 0, .bool false, .int .i64 10]) (by simp [results, Tryd.results39, go_sem]) rfl ⟨rfl, below_alloc _ _⟩)

set_option maxRecDepth 100000 in
set_option maxHeartbeats 2000000 in
theorem rrb_ok (i p : Int) (c : Bs) (w : World) (h : c.length = 8) :
    Calls Tryd.prog 39 #[.agg #[.int .i64 1, .int .i64 i, .string (bs c), .int .i64 p]] w fun e w' => e = .returned (.tuple #[.int .i64 (beginN c), .bool (at0 c 2 % 2 == 1), .int .i64 0]) ∧ Below w.heap.size w w' := by
  have q2 : ((c.length : Int) != 8) = false := by simp; omega
  have a0 := at0_lo c 0
  have b0 := at0_hi c 0
  have a1 := at0_lo c 1
  have b1 := at0_hi c 1
  have a2 := at0_lo c 2
  have b2 := at0_hi c 2
  have hand := and_u8_1 (at0 c 2) a2 b2
  go_enter Tryd.func39, Tryd.ntmps39
  go_wp2_with fail
  go_quiet (fail)
  go_wp2_with fail
  exact bodyPost_ret (v := .tuple #[.int .i64 (beginN c), .bool (at0 c 2 % 2 == 1), .int .i64 0]) (by simp [results, Tryd.results39, go_sem, beginN]) rfl ⟨rfl, below_drewN (below_alloc _ _) _⟩

set_option maxRecDepth 100000 in
set_option maxHeartbeats 1000000 in
theorem rre_form (r : Rec) (w : World) (hc : r.c.length ≤ 9223372036854775807) (h : ¬ (r.t = 3 ∧ r.c.length = 8)) :
    Calls Tryd.prog 41 #[r.v] w fun e w' => e = .returned (.tuple #[.agg #[.int .u32 0, .int .i64 0], .int .i64 10]) ∧ Below w.heap.size w w' := by
  obtain ⟨rt, i, c, p⟩ := r
  simp only at h hc
  by_cases h1 : rt = 3
  · subst h1
    have q2 : ((c.length : Int) != 8) = true := by simp; intro e; exact h ⟨rfl, by omega⟩
    clear h
    go_enter Tryd.func41, Tryd.ntmps41
    go_wp2
    all_goals (exact bodyPost_ret (v := .tuple #[.agg #[.int .u32 0, .int .i64 0], .int .i64 10]) (by simp [results, Tryd.results41, go_sem]) rfl ⟨rfl, below_later (below_alloc _ _) (below_alloc _ _)⟩)
  · have q1 : (rt != 3) = true := by simpa using h1
    clear h
    go_enter Tryd.func41, Tryd.ntmps41
    go_wp2
    all_goals (exact bodyPost_ret (v := .tuple #[.agg #[.int .u32 0, .int .i64 0], .int .i64 10]) (by simp [results, Tryd.results41, go_sem]) rfl ⟨rfl, below_later (below_alloc _ _) (below_alloc _ _)⟩)
theorem run_store_end (w : World) (b : Nat) (c0 c1 : Value) (a p : Int) (h : w.heap[b]? = some (.cells #[c0, c1] 72)) :
    (Instr.storeAt 72 (.pointer (some ⟨b, 0, none⟩)) (.agg #[.int .u32 a, .int .i64 p])).run Tryd.prog w = .ok () ((w.setCell ⟨b, 0, none⟩ (.int .u32 a)).setCell ⟨b, 1, none⟩ (.int .i64 p)) := by
  have c := box_cells h
  have f := box_free h
  have q0 := c 0
  have q1 := c 1
  have f0 := f 0
  have f1 := f 1
  have z := box_lt h
  clear c f
  simp only [List.getElem?_toArray, List.getElem?_cons_zero, List.getElem?_cons_succ] at q0 q1
  go_simp

theorem stored_two {w : World} {b : Nat} {c0 c1 : Value} {T : TypeId} (h : w.heap[b]? = some (.cells #[c0, c1] T)) (v0 v1 : Value) :
    ((w.setCell ⟨b, 0, none⟩ v0).setCell ⟨b, 1, none⟩ v1).heap[b]? = some (.cells #[v0, v1] T) := set_box (set_box h v0) v1
theorem end_run {wx : World} {b : Nat} {c0 c1 : Value} (a p : Int) (h : wx.heap[b]? = some (.cells #[c0, c1] 72)) :
    ∃ w', ((do let _ ← Instr.storeAt 72 (.pointer (some ⟨b, 0, none⟩)) (.agg #[.int .u32 a, .int .i64 p]); pure .skip : Sem Next)).run Tryd.prog wx = .ok .skip w' ∧ w'.heap[b]? = some (.cells #[.int .u32 a, .int .i64 p] 72) ∧ Rg.Step (fun k => k = b) wx w' := by
  refine ⟨_, ?_, stored_two h _ _, (Rg.step_set _ _ _ _).trans (Rg.step_set _ _ _ _)⟩
  rw [Sem.run_bind, run_store_end wx b c0 c1 a p h]
  rfl

set_option maxRecDepth 100000 in
set_option maxHeartbeats 4000000 in
theorem rre_ok (i p : Int) (c : Bs) (w : World) (h : c.length = 8) :
    Calls Tryd.prog 41 #[.agg #[.int .i64 3, .int .i64 i, .string (bs c), .int .i64 p]] w fun e w' => e = .returned (.tuple #[.agg #[.int .u32 (endN c), .int .i64 (at0 c 4)], .int .i64 0]) ∧ Below w.heap.size w w' := by
  have q2 : ((c.length : Int) != 8) = false := by simp; omega
  have a0 := at0_lo c 0
  have b0 := at0_hi c 0
  have a1 := at0_lo c 1
  have b1 := at0_hi c 1
  have a2 := at0_lo c 2
  have b2 := at0_hi c 2
  have a3 := at0_lo c 3
  have b3 := at0_hi c 3
  have a4 := at0_lo c 4
  have b4 := at0_hi c 4
  have e1 : bits .or .u32 (at0 c 0 * 16777216) (at0 c 1 * 65536) = at0 c 0 * 16777216 + at0 c 1 * 65536 := or_u32 24 _ _ (by omega) (by omega) (by omega) (by omega) (by omega)
  have e2 : bits .or .u32 (at0 c 0 * 16777216 + at0 c 1 * 65536) (at0 c 2 * 256) = at0 c 0 * 16777216 + at0 c 1 * 65536 + at0 c 2 * 256 := or_u32 16 _ _ (by omega) (by omega) (by omega) (by omega) (by omega)
  have e3 : bits .or .u32 (at0 c 0 * 16777216 + at0 c 1 * 65536 + at0 c 2 * 256) (at0 c 3) = endN c := by
    rw [or_u32 8 _ _ (by omega) (by omega) (by omega) (by omega) (by omega)]
    unfold endN
    omega
  generalize endN c = E at e3 ⊢
  go_enter Tryd.func41, Tryd.ntmps41
  go_wp2_with fail
  obtain ⟨u, hu⟩ : ∃ u, u = (w.alloc (.cells #[.int .i64 3, .int .i64 i, .string (bs c), .int .i64 p] 58)).alloc (.cells #[.int .u32 0, .int .i64 0] 72) := ⟨_, rfl⟩
  have hnew : u.heap[w.heap.size + 1]? = some (.cells #[.int .u32 0, .int .i64 0] 72) := by rw [hu]; exact new_alloc2 (Below.refl _ _)
  have W0 : Below w.heap.size w u := by rw [hu]; exact below_later (below_alloc _ _) (below_alloc _ _)
  rw [← hu]
  clear hu
  refine Rg.region1 39 [.val ?_, .val ?_, .val ?_, .val ?_, .val ?_, .val ?_, .val ?_, .val ?_, .val (.int .u32 (at0 c 0 * 16777216 + at0 c 1 * 65536)), .val ?_, .val ?_, .val ?_, .val ?_, .val (.int .u32 (at0 c 0 * 16777216 + at0 c 1 * 65536 + at0 c 2 * 256)), .val ?_, .val ?_, .val ?_, .val (.int .u32 E), .val ?_, .val ?_, .val ?_, .val ?_, .any (Rg.Box (w.heap.size + 1) (.cells #[.int .u32 E, .int .i64 (at0 c 4)] 72)), .val ?_] [] (fun j k => j = 22 ∧ k = w.heap.size + 1) (by kernel_rfl) (by decide +kernel) (by simp) rfl (by simp) ?hstab ?hown ?hdis ?hchain ?hend
  case hstab => exact Rg.stable_val (Rg.stable_val (Rg.stable_val (Rg.stable_val (Rg.stable_val (Rg.stable_val (Rg.stable_val (Rg.stable_val (Rg.stable_val (Rg.stable_val (Rg.stable_val (Rg.stable_val (Rg.stable_val (Rg.stable_val (Rg.stable_val (Rg.stable_val (Rg.stable_val (Rg.stable_val (Rg.stable_val (Rg.stable_val (Rg.stable_val (Rg.stable_val (Rg.stable_box (Rg.stable_val (Rg.stable_nil))))))))))))))))))))))))
  case hchain =>
    intro vs
    -- 0: slot 17 := Op.move t4
    refine Rg.Chain.pure rfl (fun w => by go_simp; (try go_ints); with_reducible rfl) ?_
    simp only [Act.put, List.setIfInBounds_toArray, List.set_cons_succ, List.set_cons_zero]
    -- 1: slot 18 := Op.index 9 t17 (const (0:i64))
    refine Rg.Chain.pure rfl (fun w => by go_simp; (try go_ints); with_reducible rfl) ?_
    simp only [Act.put, List.setIfInBounds_toArray, List.set_cons_succ, List.set_cons_zero]
    -- 2: slot 19 := Op.convert 5 70 t18
    refine Rg.Chain.pure rfl (fun w => by go_simp; (try go_ints); with_reducible rfl) ?_
    simp only [Act.put, List.setIfInBounds_toArray, List.set_cons_succ, List.set_cons_zero]
    -- 3: slot 20 := Op.binOp BinOp.shl 70 t19 (const (24:u64)) 93
    refine Rg.Chain.pure rfl (fun w => by go_simp; (try go_ints); with_reducible rfl) ?_
    simp only [Act.put, List.setIfInBounds_toArray, List.set_cons_succ, List.set_cons_zero]
    -- 4: slot 21 := Op.move t4
    refine Rg.Chain.pure rfl (fun w => by go_simp; (try go_ints); with_reducible rfl) ?_
    simp only [Act.put, List.setIfInBounds_toArray, List.set_cons_succ, List.set_cons_zero]
    -- 5: slot 22 := Op.index 9 t21 (const (1:i64))
    refine Rg.Chain.pure rfl (fun w => by go_simp; (try go_ints); with_reducible rfl) ?_
    simp only [Act.put, List.setIfInBounds_toArray, List.set_cons_succ, List.set_cons_zero]
    -- 6: slot 23 := Op.convert 5 70 t22
    refine Rg.Chain.pure rfl (fun w => by go_simp; (try go_ints); with_reducible rfl) ?_
    simp only [Act.put, List.setIfInBounds_toArray, List.set_cons_succ, List.set_cons_zero]
    -- 7: slot 24 := Op.binOp BinOp.shl 70 t23 (const (16:u64)) 93
    refine Rg.Chain.pure rfl (fun w => by go_simp; (try go_ints); with_reducible rfl) ?_
    simp only [Act.put, List.setIfInBounds_toArray, List.set_cons_succ, List.set_cons_zero]
    -- 8: slot 25 := Op.binOp BinOp.or 70 t20 t24 70
    refine Rg.Chain.pure rfl (fun w => by go_simp) ?_
    simp only [Act.put, List.setIfInBounds_toArray, List.set_cons_succ, List.set_cons_zero]
    -- 9: slot 26 := Op.move t4
    refine Rg.Chain.pure rfl (fun w => by go_simp; (try go_ints); with_reducible rfl) ?_
    simp only [Act.put, List.setIfInBounds_toArray, List.set_cons_succ, List.set_cons_zero]
    -- 10: slot 27 := Op.index 9 t26 (const (2:i64))
    refine Rg.Chain.pure rfl (fun w => by go_simp; (try go_ints); with_reducible rfl) ?_
    simp only [Act.put, List.setIfInBounds_toArray, List.set_cons_succ, List.set_cons_zero]
    -- 11: slot 28 := Op.convert 5 70 t27
    refine Rg.Chain.pure rfl (fun w => by go_simp; (try go_ints); with_reducible rfl) ?_
    simp only [Act.put, List.setIfInBounds_toArray, List.set_cons_succ, List.set_cons_zero]
    -- 12: slot 29 := Op.binOp BinOp.shl 70 t28 (const (8:u64)) 93
    refine Rg.Chain.pure rfl (fun w => by go_simp; (try go_ints); with_reducible rfl) ?_
    simp only [Act.put, List.setIfInBounds_toArray, List.set_cons_succ, List.set_cons_zero]
    -- 13: slot 30 := Op.binOp BinOp.or 70 t25 t29 70
    refine Rg.Chain.pure rfl (fun w => by go_simp) ?_
    simp only [Act.put, List.setIfInBounds_toArray, List.set_cons_succ, List.set_cons_zero]
    -- 14: slot 31 := Op.move t4
    refine Rg.Chain.pure rfl (fun w => by go_simp; (try go_ints); with_reducible rfl) ?_
    simp only [Act.put, List.setIfInBounds_toArray, List.set_cons_succ, List.set_cons_zero]
    -- 15: slot 32 := Op.index 9 t31 (const (3:i64))
    refine Rg.Chain.pure rfl (fun w => by go_simp; (try go_ints); with_reducible rfl) ?_
    simp only [Act.put, List.setIfInBounds_toArray, List.set_cons_succ, List.set_cons_zero]
    -- 16: slot 33 := Op.convert 5 70 t32
    refine Rg.Chain.pure rfl (fun w => by go_simp; (try go_ints); with_reducible rfl) ?_
    simp only [Act.put, List.setIfInBounds_toArray, List.set_cons_succ, List.set_cons_zero]
    -- 17: slot 34 := Op.binOp BinOp.or 70 t30 t33 70
    refine Rg.Chain.pure rfl (fun w => by go_simp) ?_
    simp only [Act.put, List.setIfInBounds_toArray, List.set_cons_succ, List.set_cons_zero]
    -- 18: slot 35 := Op.move t4
    refine Rg.Chain.pure rfl (fun w => by go_simp; (try go_ints); with_reducible rfl) ?_
    simp only [Act.put, List.setIfInBounds_toArray, List.set_cons_succ, List.set_cons_zero]
    -- 19: slot 36 := Op.index 9 t35 (const (4:i64))
    refine Rg.Chain.pure rfl (fun w => by go_simp; (try go_ints); with_reducible rfl) ?_
    simp only [Act.put, List.setIfInBounds_toArray, List.set_cons_succ, List.set_cons_zero]
    -- 20: slot 37 := Op.convert 5 3 t36
    refine Rg.Chain.pure rfl (fun w => by go_simp; (try go_ints); with_reducible rfl) ?_
    simp only [Act.put, List.setIfInBounds_toArray, List.set_cons_succ, List.set_cons_zero]
    -- 21: slot 38 := Op.build 72 #[(0, t34), (1, t37)]
    refine Rg.Chain.pure rfl (fun w => by go_simp; (try go_ints); with_reducible rfl) ?_
    simp only [Act.put, List.setIfInBounds_toArray, List.set_cons_succ, List.set_cons_zero]
    -- 22: slot none := Op.store 72 t2 t38
    refine Rg.Chain.store hnew ⟨rfl, rfl⟩ rfl (fun wx hs hx => end_run E (at0 c 4) hx) ?_
    simp only [Act.put]
    -- 23: slot 3 := Op.assign (const (0:i64))
    refine Rg.Chain.pure rfl (fun w => by go_simp; (try go_ints); with_reducible rfl) ?_
    simp only [Act.put, List.setIfInBounds_toArray, List.set_cons_succ, List.set_cons_zero]
    exact Rg.Chain.nil
  case hown => rintro j k ⟨_, rfl⟩; exact box_lt hnew
  case hdis => rintro i j k ⟨rfl, _⟩ ⟨rfl, _⟩; rfl
  case hend =>
    intro vs F w2 hE
    have hrow := hE.fact 22 _ (Rg.kept 22 (by decide)) rfl
    have hb2 := Rg.step_from hE.step (B := w.heap.size) W0.size (by rintro j k ⟨_, rfl⟩; omega)
    clear hE
    have cr := box_cells hrow.1
    simp only [Rg.finalAct, Rg.slot_val, Act.put, List.setIfInBounds_toArray, List.set_cons_succ, List.set_cons_zero]
    go_wp2
    have c0 := cr 0
    have c1 := cr 1
    exact bodyPost_ret (v := .tuple #[.agg #[.int .u32 E, .int .i64 (at0 c 4)], .int .i64 0]) (by simp [results, Tryd.results41, go_sem, c0, c1]) rfl ⟨rfl, W0.trans hb2⟩
end Go.Proofs.YtfhddeghmlnobaaDoor
