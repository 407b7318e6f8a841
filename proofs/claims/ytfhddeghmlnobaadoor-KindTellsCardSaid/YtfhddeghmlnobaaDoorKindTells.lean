/- conduitlaw4.KindTells answers true at every argument, where the package errors' variable holds what it was given. Condition: that. -/
import Derived.Test.YtfhddeghmlnobaaDoorKindRef
import Derived.Test.YtfhddeghmlnobaaDoorCode
import Derived.Test.YtfhddeghmlnobaaDoorRead
import Derived.Test.YtfhddeghmlnobaaDoorAid
import Derived.Test.YtfhddeghmlnobaaDoorOpen
namespace Go.Proofs.YtfhddeghmlnobaaDoor
open Go.RowKit

def rbN (r : Rec) : Int := if r.t = 1 ∧ r.c.length = 8 then beginN r.c else 0
def rbK (r : Rec) : Bool := if r.t = 1 ∧ r.c.length = 8 then at0 r.c 2 % 2 == 1 else false
def rbC (r : Rec) : Int := if r.t = 1 ∧ r.c.length = 8 then 0 else 10
def reA (r : Rec) : Int := if r.t = 3 ∧ r.c.length = 8 then endN r.c else 0
def reP (r : Rec) : Int := if r.t = 3 ∧ r.c.length = 8 then at0 r.c 4 else 0
def reC (r : Rec) : Int := if r.t = 3 ∧ r.c.length = 8 then 0 else 10

theorem rb_any (r : Rec) (w : World) (hc : r.c.length ≤ 9223372036854775807) :
    Calls Tryd.prog 38 #[r.v] w fun e w' => e = .returned (.tuple #[.int .i64 (rbN r), .bool (rbK r), errV (rbC r)]) ∧ Below w.heap.size w w' := by
  by_cases h : r.t = 1 ∧ r.c.length = 8
  · simp only [rbN, rbK, rbC, if_pos h]
    obtain ⟨t, i, c, p⟩ := r
    obtain ⟨rfl, h⟩ := h
    exact rb_ok i p c w h
  · simp only [rbN, rbK, rbC, if_neg h]
    exact rb_form r w hc h
theorem rrb_any (r : Rec) (w : World) (hc : r.c.length ≤ 9223372036854775807) :
    Calls Tryd.prog 39 #[r.v] w fun e w' => e = .returned (.tuple #[.int .i64 (rbN r), .bool (rbK r), .int .i64 (rbC r)]) ∧ Below w.heap.size w w' := by
  by_cases h : r.t = 1 ∧ r.c.length = 8
  · simp only [rbN, rbK, rbC, if_pos h]
    obtain ⟨t, i, c, p⟩ := r
    obtain ⟨rfl, h⟩ := h
    exact rrb_ok i p c w h
  · simp only [rbN, rbK, rbC, if_neg h]
    exact rrb_form r w hc h
theorem re_any (r : Rec) (w : World) (hc : r.c.length ≤ 9223372036854775807) :
    Calls Tryd.prog 40 #[r.v] w fun e w' => e = .returned (.tuple #[.agg #[.int .u32 (reA r), .int .i64 (reP r)], errV (reC r)]) ∧ Below w.heap.size w w' := by
  by_cases h : r.t = 3 ∧ r.c.length = 8
  · simp only [reA, reP, reC, if_pos h]
    obtain ⟨t, i, c, p⟩ := r
    obtain ⟨rfl, h⟩ := h
    exact re_ok i p c w h
  · simp only [reA, reP, reC, if_neg h]
    exact re_form r w hc h
theorem rre_any (r : Rec) (w : World) (hc : r.c.length ≤ 9223372036854775807) :
    Calls Tryd.prog 41 #[r.v] w fun e w' => e = .returned (.tuple #[.agg #[.int .u32 (reA r), .int .i64 (reP r)], .int .i64 (reC r)]) ∧ Below w.heap.size w w' := by
  by_cases h : r.t = 3 ∧ r.c.length = 8
  · simp only [reA, reP, reC, if_pos h]
    obtain ⟨t, i, c, p⟩ := r
    obtain ⟨rfl, h⟩ := h
    exact rre_ok i p c w h
  · simp only [reA, reP, reC, if_neg h]
    exact rre_form r w hc h

set_option maxRecDepth 100000 in
set_option maxHeartbeats 4000000 in
theorem kt_any (i : Int) (keep : Bool) (a p t : Int) (r : Rec) (w : World) (h0 : 0 ≤ a) (h1 : a < 4294967296) (hc : r.c.length ≤ 9223372036854775807) (hg : w.cell? ⟨0, 0, none⟩ = some errTypeV) :
    Calls Tryd.prog 12 #[.int .i64 i, .bool keep, .agg #[.int .u32 a, .int .i64 p], .int .i64 t, r.v] w fun e w' => e = .returned (.bool true) ∧ Below w.heap.size w w' := by
  have hg' : ∀ w', Below w.heap.size w w' → w'.cell? ⟨0, 0, none⟩ = some errTypeV := fun w' hb => by rw [hb.cell (World.block_lt_of_cell? w _ hg)]; exact hg
  have HG := Lib.hid hg'
  clear hg hg'
  have HRB := Lib.hid (fun w => rb_any r w hc)
  have HRRB := Lib.hid (fun w => rrb_any r w hc)
  have HRE := Lib.hid (fun w => re_any r w hc)
  have HRRE := Lib.hid (fun w => rre_any r w hc)
  have hB := fun w => begin_any i keep w
  have hRB := fun w => rbegin_any i keep w
  generalize beginR i keep = xb at hB hRB
  obtain ⟨bt, bi, bc, bp⟩ := xb
  have hE := fun w => end_any i a p w h0 h1
  have hRE := fun w => rendof_any i a p w h0 h1
  generalize endR i a p = xe at hE hRE
  obtain ⟨et, ei, ec, ep⟩ := xe
  have hU := fun w => unknown_any t w
  have hRU := fun w => runknown_any t w
  generalize unknownR t = xu at hU hRU
  obtain ⟨ut, ui, uc, up⟩ := xu
  have hN := fun w => name_any t w
  have hRN := fun w => rname_any t w
  generalize kindName t = xn at hN hRN
  have HB := Lib.hid hB
  have HRBg := Lib.hid hRB
  have HE := Lib.hid hE
  have HREo := Lib.hid hRE
  have HU := Lib.hid hU
  have HRU := Lib.hid hRU
  have HN := Lib.hid hN
  have HRN := Lib.hid hRN
  clear hB hRB hE hRE hU hRU hN hRN
  generalize rbN r = A1 at *
  generalize rbK r = A2 at *
  generalize rbC r = A3 at *
  generalize reA r = E1 at *
  generalize reP r = E2 at *
  generalize reC r = E3 at *
  obtain ⟨rt, ri, rc, rp⟩ := r
  simp only at hc
  go_enter Tryd.func12, Tryd.ntmps12
  go_wp2_with fail
  refine (known4 _).mono ?_
  rintro e w1 ⟨rfl, hb⟩
  have W1 := below_after2 hb
  have b0 := kept_alloc (heap_alloc_new w _) hb
  have b1 := new_alloc2 hb
  have z0 := box_lt b0
  have z1 := box_lt b1
  clear hb
  have n0 := box_cells b1 0
  have n1 := box_cells b1 1
  have n2 := box_cells b1 2
  have n3 := box_cells b1 3
  by_cases hlen : 200 < rc.length
  · have q : decide ((200 : Int) < (rc.length : Int)) = true := by simp; omega
    go_wp2_with fail
    go_ret
    exact ⟨rfl, W1⟩
  have q : decide ((200 : Int) < (rc.length : Int)) = false := by simp; omega
  go_wp2_with fail
  refine (HRB.out _).mono ?_
  rintro e w2 ⟨rfl, hb⟩
  have W2 := below_later W1 hb
  replace b0 := kept b0 hb
  replace b1 := kept b1 hb
  clear hb W1 n0 n1 n2 n3 z0 z1 q
  have n0 := box_cells b1 0
  have n1 := box_cells b1 1
  have n2 := box_cells b1 2
  have n3 := box_cells b1 3
  have z1 := box_lt b1
  go_wp2_with fail
  refine (HRRB.out _).mono ?_
  rintro e w3 ⟨rfl, hb⟩
  have W3 := below_later W2 hb
  replace b0 := kept b0 hb
  replace b1 := kept b1 hb
  clear hb W2 n0 n1 n2 n3 z1
  have n0 := box_cells b1 0
  have n1 := box_cells b1 1
  have n2 := box_cells b1 2
  have n3 := box_cells b1 3
  have z1 := box_lt b1
  go_wp2_with fail
  refine (HRE.out _).mono ?_
  rintro e w4 ⟨rfl, hb⟩
  have W4 := below_later W3 hb
  replace b0 := kept b0 hb
  replace b1 := kept b1 hb
  clear hb W3 n0 n1 n2 n3 z1
  have n0 := box_cells b1 0
  have n1 := box_cells b1 1
  have n2 := box_cells b1 2
  have n3 := box_cells b1 3
  have z1 := box_lt b1
  go_wp2_with fail
  refine (HRRE.out _).mono ?_
  rintro e w5 ⟨rfl, hb⟩
  have W5 := below_later W4 (below_after hb)
  replace b0 := kept_alloc b0 hb
  have b2 := new_alloc hb
  have l0 : w.heap.size < w4.heap.size := by omega
  clear hb W4 n0 n1 n2 n3 z1 b1
  generalize w4.heap.size = B2 at *
  go_wp2_with fail
  obtain ⟨u, hu⟩ : ∃ u, u = w5.alloc (.cells #[.int .u32 E1, .int .i64 E2] 72) := ⟨_, rfl⟩
  have hnb : Below w5.heap.size w5 u := by rw [hu]; exact below_alloc _ _
  have b3 : u.heap[w5.heap.size]? = some (.cells #[.int .u32 E1, .int .i64 E2] 72) := by rw [hu]; exact heap_alloc_new _ _
  have W6 := below_later W5 hnb
  replace b0 := kept b0 hnb
  replace b2 := kept b2 hnb
  rw [← hu]
  clear hu hnb W5
  generalize w5.heap.size = B3 at *
  generalize hB0 : w.heap.size = B0 at b0 ⊢
  have hS : ∀ wx, Rg.Step (fun _ => ∃ _ : Nat, False) u wx → wx.cell? ⟨B0, 0, none⟩ = some (.int .u32 a) ∧ wx.cell? ⟨B0, 1, none⟩ = some (.int .i64 p) ∧ wx.cell? ⟨B2, 0, none⟩ = some (.int .u32 E1) ∧ wx.cell? ⟨B2, 1, none⟩ = some (.int .i64 E2) ∧ wx.cell? ⟨B3, 0, none⟩ = some (.int .u32 E1) ∧ wx.cell? ⟨B3, 1, none⟩ = some (.int .i64 E2) := by
    intro wx hs
    have h := Rg.step_below hs
    have d0 := box_cells (kept b0 h)
    have d2 := box_cells (kept b2 h)
    have d3 := box_cells (kept b3 h)
    exact ⟨d0 0, d0 1, d2 0, d2 1, d3 0, d3 1⟩
  have hGx : ∀ wx, Rg.Step (fun _ => ∃ _ : Nat, False) u wx → wx.cell? ⟨0, 0, none⟩ = some errTypeV := fun wx hs => HG.out wx (below_later W6 (Rg.step_below hs))
  clear b0 b2 b3
  refine Rg.region0 106 (.val ?_ :: .val ?_ :: .val (.agg #[.int .i64 bt, .int .i64 bi, .string (bs bc), .int .i64 bp]) :: .val ?_ :: .val ?_ :: .val (.agg #[.int .i64 bt, .int .i64 bi, .string (bs bc), .int .i64 bp]) :: .val ?_ :: .val ?_ :: .val ?_ :: .val ?_ :: .val ?_ :: .val ?_ :: .val ?_ :: .val ?_ :: .val ?_ :: .val ?_ :: .val ?_ :: .val ?_ :: .val ?_ :: .val (.int .i64 A3) :: .val ?_ :: .val ?_ :: .val ?_ :: .val ?_ :: .val ?_ :: .val ?_ :: .val (.agg #[.int .i64 et, .int .i64 ei, .string (bs ec), .int .i64 ep]) :: .val ?_ :: .val ?_ :: .val (.agg #[.int .i64 et, .int .i64 ei, .string (bs ec), .int .i64 ep]) :: .val ?_ :: .val ?_ :: .val ?_ :: .val ?_ :: .val ?_ :: .val ?_ :: .val ?_ :: .val ?_ :: .val ?_ :: .val (.int .i64 E3) :: .val ?_ :: .val ?_ :: .val ?_ :: .val ?_ :: .val ?_ :: .val (.agg #[.int .i64 ut, .int .i64 ui, .string (bs uc), .int .i64 up]) :: .val ?_ :: .val (.agg #[.int .i64 ut, .int .i64 ui, .string (bs uc), .int .i64 up]) :: .val ?_ :: .val ?_ :: .val ?_ :: .val ?_ :: .val (.string (bs xn)) :: .val ?_ :: .val (.string (bs xn)) :: .val ?_ :: .val ?_ :: .val ?_ :: []) (by kernel_rfl) (by decide +kernel) (by simp) rfl ?hstab ?hchain ?hend
  case hstab => exact Rg.stable_val (Rg.stable_val (Rg.stable_val (Rg.stable_val (Rg.stable_val (Rg.stable_val (Rg.stable_val (Rg.stable_val (Rg.stable_val (Rg.stable_val (Rg.stable_val (Rg.stable_val (Rg.stable_val (Rg.stable_val (Rg.stable_val (Rg.stable_val (Rg.stable_val (Rg.stable_val (Rg.stable_val (Rg.stable_val (Rg.stable_val (Rg.stable_val (Rg.stable_val (Rg.stable_val (Rg.stable_val (Rg.stable_val (Rg.stable_val (Rg.stable_val (Rg.stable_val (Rg.stable_val (Rg.stable_val (Rg.stable_val (Rg.stable_val (Rg.stable_val (Rg.stable_val (Rg.stable_val (Rg.stable_val (Rg.stable_val (Rg.stable_val (Rg.stable_val (Rg.stable_val (Rg.stable_val (Rg.stable_val (Rg.stable_val (Rg.stable_val (Rg.stable_val (Rg.stable_val (Rg.stable_val (Rg.stable_val (Rg.stable_val (Rg.stable_val (Rg.stable_val (Rg.stable_val (Rg.stable_val (Rg.stable_val (Rg.stable_val (Rg.stable_val (Rg.stable_val (Rg.stable_nil))))))))))))))))))))))))))))))))))))))))))))))))))))))))))
  case hchain =>
    intro vs
    -- 0: slot 49 := Op.move t0
    refine Rg.Chain.pure rfl (fun w => by go_simp; (try go_ints); with_reducible rfl) ?_
    simp only [Act.put, List.setIfInBounds_toArray, List.set_cons_succ, List.set_cons_zero]
    -- 1: slot 50 := Op.move t1
    refine Rg.Chain.pure rfl (fun w => by go_simp; (try go_ints); with_reducible rfl) ?_
    simp only [Act.put, List.setIfInBounds_toArray, List.set_cons_succ, List.set_cons_zero]
    -- 2: slot 51 := Op.call ( value (Operand.func 42), args := #[t49, t50], argTypes := #[3, 4] )
    refine Rg.Chain.call ?_ ?_ rfl (fun w => ?_) (fun wx hs => ?_) ?_
    rotate_left 2
    · go_simp; (try go_ints); constructor <;> with_reducible rfl
    · exact HB.out wx
    simp only [Act.put, List.setIfInBounds_toArray, List.set_cons_succ, List.set_cons_zero]
    -- 3: slot 52 := Op.move t0
    refine Rg.Chain.pure rfl (fun w => by go_simp; (try go_ints); with_reducible rfl) ?_
    simp only [Act.put, List.setIfInBounds_toArray, List.set_cons_succ, List.set_cons_zero]
    -- 4: slot 53 := Op.move t1
    refine Rg.Chain.pure rfl (fun w => by go_simp; (try go_ints); with_reducible rfl) ?_
    simp only [Act.put, List.setIfInBounds_toArray, List.set_cons_succ, List.set_cons_zero]
    -- 5: slot 54 := Op.call ( value (Operand.func 43), args := #[t52, t53], argTypes := #[3, 4] )
    refine Rg.Chain.call ?_ ?_ rfl (fun w => ?_) (fun wx hs => ?_) ?_
    rotate_left 2
    · go_simp; (try go_ints); constructor <;> with_reducible rfl
    · exact HRBg.out wx
    simp only [Act.put, List.setIfInBounds_toArray, List.set_cons_succ, List.set_cons_zero]
    -- 6: slot 55 := Op.binOp BinOp.eql 58 t51 t54 58
    refine Rg.Chain.pure rfl (fun w => by go_simp; (try go_ints); with_reducible rfl) ?_
    simp only [Act.put, List.setIfInBounds_toArray, List.set_cons_succ, List.set_cons_zero]
    -- 7: slot 56 := Op.move t55
    refine Rg.Chain.pure rfl (fun w => by go_simp; (try go_ints); with_reducible rfl) ?_
    simp only [Act.put, List.setIfInBounds_toArray, List.set_cons_succ, List.set_cons_zero]
    -- 8: slot 57 := Op.move t11   [guarded: some (7, true)]
    refine Rg.Chain.pure rfl (fun w => by go_simp; (try go_ints); with_reducible rfl) ?_
    simp only [Act.put, List.setIfInBounds_toArray, List.set_cons_succ, List.set_cons_zero]
    -- 9: slot 58 := Op.move t14   [guarded: some (7, true)]
    refine Rg.Chain.pure rfl (fun w => by go_simp; (try go_ints); with_reducible rfl) ?_
    simp only [Act.put, List.setIfInBounds_toArray, List.set_cons_succ, List.set_cons_zero]
    -- 10: slot 59 := Op.binOp BinOp.eql 3 t57 t58 3   [guarded: some (7, true)]
    refine Rg.Chain.pure rfl (fun w => by go_simp; (try go_ints); with_reducible rfl) ?_
    simp only [Act.put, List.setIfInBounds_toArray, List.set_cons_succ, List.set_cons_zero]
    -- 11: slot 60 := Op.pick t56 t59 (const (Value.bool false))
    refine Rg.Chain.pure rfl (fun w => by go_simp; (try go_ints); with_reducible rfl) ?_
    simp only [Act.put, List.setIfInBounds_toArray, List.set_cons_succ, List.set_cons_zero]
    -- 12: slot 61 := Op.move t60
    refine Rg.Chain.pure rfl (fun w => by go_simp; (try go_ints); with_reducible rfl) ?_
    simp only [Act.put, List.setIfInBounds_toArray, List.set_cons_succ, List.set_cons_zero]
    -- 13: slot 62 := Op.move t12   [guarded: some (12, true)]
    refine Rg.Chain.pure rfl (fun w => by go_simp; (try go_ints); with_reducible rfl) ?_
    simp only [Act.put, List.setIfInBounds_toArray, List.set_cons_succ, List.set_cons_zero]
    -- 14: slot 63 := Op.move t15   [guarded: some (12, true)]
    refine Rg.Chain.pure rfl (fun w => by go_simp; (try go_ints); with_reducible rfl) ?_
    simp only [Act.put, List.setIfInBounds_toArray, List.set_cons_succ, List.set_cons_zero]
    -- 15: slot 64 := Op.binOp BinOp.eql 4 t62 t63 4   [guarded: some (12, true)]
    refine Rg.Chain.pure rfl (fun w => by go_simp; (try go_ints); with_reducible rfl) ?_
    simp only [Act.put, List.setIfInBounds_toArray, List.set_cons_succ, List.set_cons_zero]
    -- 16: slot 65 := Op.pick t61 t64 (const (Value.bool false))
    refine Rg.Chain.pure rfl (fun w => by go_simp; (try go_ints); with_reducible rfl) ?_
    simp only [Act.put, List.setIfInBounds_toArray, List.set_cons_succ, List.set_cons_zero]
    -- 17: slot 66 := Op.move t65
    refine Rg.Chain.pure rfl (fun w => by go_simp; (try go_ints); with_reducible rfl) ?_
    simp only [Act.put, List.setIfInBounds_toArray, List.set_cons_succ, List.set_cons_zero]
    -- 18: slot 67 := Op.move t13   [guarded: some (17, true)]
    refine Rg.Chain.pure rfl (fun w => by go_simp; (try go_ints); with_reducible rfl) ?_
    simp only [Act.put, List.setIfInBounds_toArray, List.set_cons_succ, List.set_cons_zero]
    -- 19: slot 68 := Op.call ( value (Operand.func 44), args := #[t67], argTypes := #[29] )   [guarded: some (1
    refine Rg.Chain.call ?_ ?_ rfl (fun w => ?_) (fun wx hs => ?_) ?_
    rotate_left 2
    · go_simp; (try go_ints); constructor <;> with_reducible rfl
    · exact code4_any A3 wx (hGx wx hs)
    simp only [Act.put, List.setIfInBounds_toArray, List.set_cons_succ, List.set_cons_zero]
    -- 20: slot 69 := Op.move t16   [guarded: some (17, true)]
    refine Rg.Chain.pure rfl (fun w => by go_simp; (try go_ints); with_reducible rfl) ?_
    simp only [Act.put, List.setIfInBounds_toArray, List.set_cons_succ, List.set_cons_zero]
    -- 21: slot 70 := Op.binOp BinOp.eql 3 t68 t69 3   [guarded: some (17, true)]
    refine Rg.Chain.pure rfl (fun w => by go_simp; (try go_ints); with_reducible rfl) ?_
    simp only [Act.put, List.setIfInBounds_toArray, List.set_cons_succ, List.set_cons_zero]
    -- 22: slot 71 := Op.pick t66 t70 (const (Value.bool false))
    refine Rg.Chain.pure rfl (fun w => by go_simp; (try go_ints); with_reducible rfl) ?_
    simp only [Act.put, List.setIfInBounds_toArray, List.set_cons_succ, List.set_cons_zero]
    -- 23: slot 72 := Op.move t71
    refine Rg.Chain.pure rfl (fun w => by go_simp; (try go_ints); with_reducible rfl) ?_
    simp only [Act.put, List.setIfInBounds_toArray, List.set_cons_succ, List.set_cons_zero]
    -- 24: slot 73 := Op.move t0   [guarded: some (23, true)]
    refine Rg.Chain.pure rfl (fun w => by go_simp; (try go_ints); with_reducible rfl) ?_
    simp only [Act.put, List.setIfInBounds_toArray, List.set_cons_succ, List.set_cons_zero]
    -- 25: slot 74 := Op.load 72 t7   [guarded: some (23, true)]
    refine Rg.Chain.read rfl (fun wx hs => by obtain ⟨q0, q1, q2, q3, q4, q5⟩ := hS wx hs; go_simp; with_reducible rfl) ?_
    simp only [Act.put, List.setIfInBounds_toArray, List.set_cons_succ, List.set_cons_zero]
    -- 26: slot 75 := Op.call ( value (Operand.func 45), args := #[t73, t74], argTypes := #[3, 72] )   [guarded:
    refine Rg.Chain.call ?_ ?_ rfl (fun w => ?_) (fun wx hs => ?_) ?_
    rotate_left 2
    · go_simp; (try go_ints); constructor <;> with_reducible rfl
    · exact HE.out wx
    simp only [Act.put, List.setIfInBounds_toArray, List.set_cons_succ, List.set_cons_zero]
    -- 27: slot 76 := Op.move t0   [guarded: some (23, true)]
    refine Rg.Chain.pure rfl (fun w => by go_simp; (try go_ints); with_reducible rfl) ?_
    simp only [Act.put, List.setIfInBounds_toArray, List.set_cons_succ, List.set_cons_zero]
    -- 28: slot 77 := Op.load 72 t7   [guarded: some (23, true)]
    refine Rg.Chain.read rfl (fun wx hs => by obtain ⟨q0, q1, q2, q3, q4, q5⟩ := hS wx hs; go_simp; with_reducible rfl) ?_
    simp only [Act.put, List.setIfInBounds_toArray, List.set_cons_succ, List.set_cons_zero]
    -- 29: slot 78 := Op.call ( value (Operand.func 46), args := #[t76, t77], argTypes := #[3, 72] )   [guarded:
    refine Rg.Chain.call ?_ ?_ rfl (fun w => ?_) (fun wx hs => ?_) ?_
    rotate_left 2
    · go_simp; (try go_ints); constructor <;> with_reducible rfl
    · exact HREo.out wx
    simp only [Act.put, List.setIfInBounds_toArray, List.set_cons_succ, List.set_cons_zero]
    -- 30: slot 79 := Op.binOp BinOp.eql 58 t75 t78 58   [guarded: some (23, true)]
    refine Rg.Chain.pure rfl (fun w => by go_simp; (try go_ints); with_reducible rfl) ?_
    simp only [Act.put, List.setIfInBounds_toArray, List.set_cons_succ, List.set_cons_zero]
    -- 31: slot 80 := Op.pick t72 t79 (const (Value.bool false))
    refine Rg.Chain.pure rfl (fun w => by go_simp; (try go_ints); with_reducible rfl) ?_
    simp only [Act.put, List.setIfInBounds_toArray, List.set_cons_succ, List.set_cons_zero]
    -- 32: slot 81 := Op.move t80
    refine Rg.Chain.pure rfl (fun w => by go_simp; (try go_ints); with_reducible rfl) ?_
    simp only [Act.put, List.setIfInBounds_toArray, List.set_cons_succ, List.set_cons_zero]
    -- 33: slot 82 := Op.load 72 t17   [guarded: some (32, true)]
    refine Rg.Chain.read rfl (fun wx hs => by obtain ⟨q0, q1, q2, q3, q4, q5⟩ := hS wx hs; go_simp; with_reducible rfl) ?_
    simp only [Act.put, List.setIfInBounds_toArray, List.set_cons_succ, List.set_cons_zero]
    -- 34: slot 83 := Op.load 72 t19   [guarded: some (32, true)]
    refine Rg.Chain.read rfl (fun wx hs => by obtain ⟨q0, q1, q2, q3, q4, q5⟩ := hS wx hs; go_simp; with_reducible rfl) ?_
    simp only [Act.put, List.setIfInBounds_toArray, List.set_cons_succ, List.set_cons_zero]
    -- 35: slot 84 := Op.binOp BinOp.eql 72 t82 t83 72   [guarded: some (32, true)]
    refine Rg.Chain.pure rfl (fun w => by go_simp; (try go_ints); with_reducible rfl) ?_
    simp only [Act.put, List.setIfInBounds_toArray, List.set_cons_succ, List.set_cons_zero]
    -- 36: slot 85 := Op.pick t81 t84 (const (Value.bool false))
    refine Rg.Chain.pure rfl (fun w => by go_simp; (try go_ints); with_reducible rfl) ?_
    simp only [Act.put, List.setIfInBounds_toArray, List.set_cons_succ, List.set_cons_zero]
    -- 37: slot 86 := Op.move t85
    refine Rg.Chain.pure rfl (fun w => by go_simp; (try go_ints); with_reducible rfl) ?_
    simp only [Act.put, List.setIfInBounds_toArray, List.set_cons_succ, List.set_cons_zero]
    -- 38: slot 87 := Op.move t18   [guarded: some (37, true)]
    refine Rg.Chain.pure rfl (fun w => by go_simp; (try go_ints); with_reducible rfl) ?_
    simp only [Act.put, List.setIfInBounds_toArray, List.set_cons_succ, List.set_cons_zero]
    -- 39: slot 88 := Op.call ( value (Operand.func 44), args := #[t87], argTypes := #[29] )   [guarded: some (3
    refine Rg.Chain.call ?_ ?_ rfl (fun w => ?_) (fun wx hs => ?_) ?_
    rotate_left 2
    · go_simp; (try go_ints); constructor <;> with_reducible rfl
    · exact code4_any E3 wx (hGx wx hs)
    simp only [Act.put, List.setIfInBounds_toArray, List.set_cons_succ, List.set_cons_zero]
    -- 40: slot 89 := Op.move t20   [guarded: some (37, true)]
    refine Rg.Chain.pure rfl (fun w => by go_simp; (try go_ints); with_reducible rfl) ?_
    simp only [Act.put, List.setIfInBounds_toArray, List.set_cons_succ, List.set_cons_zero]
    -- 41: slot 90 := Op.binOp BinOp.eql 3 t88 t89 3   [guarded: some (37, true)]
    refine Rg.Chain.pure rfl (fun w => by go_simp; (try go_ints); with_reducible rfl) ?_
    simp only [Act.put, List.setIfInBounds_toArray, List.set_cons_succ, List.set_cons_zero]
    -- 42: slot 91 := Op.pick t86 t90 (const (Value.bool false))
    refine Rg.Chain.pure rfl (fun w => by go_simp; (try go_ints); with_reducible rfl) ?_
    simp only [Act.put, List.setIfInBounds_toArray, List.set_cons_succ, List.set_cons_zero]
    -- 43: slot 92 := Op.move t91
    refine Rg.Chain.pure rfl (fun w => by go_simp; (try go_ints); with_reducible rfl) ?_
    simp only [Act.put, List.setIfInBounds_toArray, List.set_cons_succ, List.set_cons_zero]
    -- 44: slot 93 := Op.move t3   [guarded: some (43, true)]
    refine Rg.Chain.pure rfl (fun w => by go_simp; (try go_ints); with_reducible rfl) ?_
    simp only [Act.put, List.setIfInBounds_toArray, List.set_cons_succ, List.set_cons_zero]
    -- 45: slot 94 := Op.call ( value (Operand.func 47), args := #[t93], argTypes := #[3] )   [guarded: some (43
    refine Rg.Chain.call ?_ ?_ rfl (fun w => ?_) (fun wx hs => ?_) ?_
    rotate_left 2
    · go_simp; (try go_ints); constructor <;> with_reducible rfl
    · exact HU.out wx
    simp only [Act.put, List.setIfInBounds_toArray, List.set_cons_succ, List.set_cons_zero]
    -- 46: slot 95 := Op.move t3   [guarded: some (43, true)]
    refine Rg.Chain.pure rfl (fun w => by go_simp; (try go_ints); with_reducible rfl) ?_
    simp only [Act.put, List.setIfInBounds_toArray, List.set_cons_succ, List.set_cons_zero]
    -- 47: slot 96 := Op.call ( value (Operand.func 48), args := #[t95], argTypes := #[3] )   [guarded: some (43
    refine Rg.Chain.call ?_ ?_ rfl (fun w => ?_) (fun wx hs => ?_) ?_
    rotate_left 2
    · go_simp; (try go_ints); constructor <;> with_reducible rfl
    · exact HRU.out wx
    simp only [Act.put, List.setIfInBounds_toArray, List.set_cons_succ, List.set_cons_zero]
    -- 48: slot 97 := Op.binOp BinOp.eql 58 t94 t96 58   [guarded: some (43, true)]
    refine Rg.Chain.pure rfl (fun w => by go_simp; (try go_ints); with_reducible rfl) ?_
    simp only [Act.put, List.setIfInBounds_toArray, List.set_cons_succ, List.set_cons_zero]
    -- 49: slot 98 := Op.pick t92 t97 (const (Value.bool false))
    refine Rg.Chain.pure rfl (fun w => by go_simp; (try go_ints); with_reducible rfl) ?_
    simp only [Act.put, List.setIfInBounds_toArray, List.set_cons_succ, List.set_cons_zero]
    -- 50: slot 99 := Op.move t98
    refine Rg.Chain.pure rfl (fun w => by go_simp; (try go_ints); with_reducible rfl) ?_
    simp only [Act.put, List.setIfInBounds_toArray, List.set_cons_succ, List.set_cons_zero]
    -- 51: slot 100 := Op.move t3   [guarded: some (50, true)]
    refine Rg.Chain.pure rfl (fun w => by go_simp; (try go_ints); with_reducible rfl) ?_
    simp only [Act.put, List.setIfInBounds_toArray, List.set_cons_succ, List.set_cons_zero]
    -- 52: slot 101 := Op.call ( value (Operand.func 49), args := #[t100], argTypes := #[3] )   [guarded: some (5
    refine Rg.Chain.call ?_ ?_ rfl (fun w => ?_) (fun wx hs => ?_) ?_
    rotate_left 2
    · go_simp; (try go_ints); constructor <;> with_reducible rfl
    · exact HN.out wx
    simp only [Act.put, List.setIfInBounds_toArray, List.set_cons_succ, List.set_cons_zero]
    -- 53: slot 102 := Op.move t3   [guarded: some (50, true)]
    refine Rg.Chain.pure rfl (fun w => by go_simp; (try go_ints); with_reducible rfl) ?_
    simp only [Act.put, List.setIfInBounds_toArray, List.set_cons_succ, List.set_cons_zero]
    -- 54: slot 103 := Op.call ( value (Operand.func 50), args := #[t102], argTypes := #[3] )   [guarded: some (5
    refine Rg.Chain.call ?_ ?_ rfl (fun w => ?_) (fun wx hs => ?_) ?_
    rotate_left 2
    · go_simp; (try go_ints); constructor <;> with_reducible rfl
    · exact HRN.out wx
    simp only [Act.put, List.setIfInBounds_toArray, List.set_cons_succ, List.set_cons_zero]
    -- 55: slot 104 := Op.binOp BinOp.eql 9 t101 t103 9   [guarded: some (50, true)]
    refine Rg.Chain.pure rfl (fun w => by go_simp; (try go_ints); with_reducible rfl) ?_
    simp only [Act.put, List.setIfInBounds_toArray, List.set_cons_succ, List.set_cons_zero]
    -- 56: slot 105 := Op.pick t99 t104 (const (Value.bool false))
    refine Rg.Chain.pure rfl (fun w => by go_simp; (try go_ints); with_reducible rfl) ?_
    simp only [Act.put, List.setIfInBounds_toArray, List.set_cons_succ, List.set_cons_zero]
    -- 57: slot 10 := Op.assign t105
    refine Rg.Chain.pure rfl (fun w => by go_simp; (try go_ints); with_reducible rfl) ?_
    simp only [Act.put, List.setIfInBounds_toArray, List.set_cons_succ, List.set_cons_zero]
    exact Rg.Chain.nil
  case hend =>
    intro vs F w7 hE
    have hb2 := Rg.step_below hE.step
    clear hE hS hGx
    simp only [Rg.finalAct, Rg.slot_val, Act.put, List.setIfInBounds_toArray, List.set_cons_succ, List.set_cons_zero]
    go_wp2_with fail
    go_ret
    exact ⟨rfl, below_later W6 hb2⟩
theorem kt_said (i : Int) (keep : Bool) (a p t : Int) (r : Rec) (w : World) (ha : 0 ≤ a ∧ a < 4294967296) (hr : r.Fit) (hg : w.cell? ⟨0, 0, none⟩ = some errTypeV) :
    Calls Tryd.prog 12 #[.int .i64 i, .bool keep, .agg #[.int .u32 a, .int .i64 p], .int .i64 t, r.v] w fun e w' => e = .returned (.bool true) ∧ Below w.heap.size w w' :=
  kt_any i keep a p t r w ha.1 ha.2 hr.2.2.1 hg
end Go.Proofs.YtfhddeghmlnobaaDoor
