/- conduitlaw2.RecordTells answers true at every argument, where the package errors' variable holds what it was given. Condition: that. -/
import Derived.Test.YtfhddeghmlnobaaDoorKnown2
import Derived.Test.YtfhddeghmlnobaaDoorReadRef
import Derived.Test.YtfhddeghmlnobaaDoorBytes
import Derived.Test.YtfhddeghmlnobaaDoorCode
import Derived.Test.YtfhddeghmlnobaaDoorAid
import Derived.Test.YtfhddeghmlnobaaDoorOpen
namespace Go.Proofs.YtfhddeghmlnobaaDoor
open Go.RowKit

set_option maxRecDepth 100000 in
set_option maxHeartbeats 4000000 in
theorem rt_any (r : Rec) (s : Bs) (n : Int) (w : World) (hc : r.c.length ≤ 9223372036854775807) (hg : w.cell? ⟨0, 0, none⟩ = some errTypeV) :
    Calls Tryd.prog 11 #[r.v, .string (bs s), .int .i64 n] w fun e w' => e = .returned (.bool true) ∧ Below w.heap.size w w' := by
  have hg' : ∀ w', Below w.heap.size w w' → w'.cell? ⟨0, 0, none⟩ = some errTypeV := fun w' hb => by rw [hb.cell (World.block_lt_of_cell? w _ hg)]; exact hg
  have HG := Lib.hid hg'
  clear hg hg'
  have hI := fun w => is_any r w hc
  have hRI := fun w => ris_any r w hc
  have hBy := fun w => bytes_any r w hc
  have hRBy := fun w => rbytes_any r w hc
  generalize decide r.Is = B at hI hRI
  generalize r.bytes = X at hBy hRBy
  have hR := fun w => read_any s w
  have hRR := fun w => rread_any s w
  generalize (recRead s).1 = x at hR hRR
  generalize (recRead s).2.1 = rest at hR hRR
  generalize (recRead s).2.2 = C at hR hRR
  obtain ⟨xt, xi, xc, xp⟩ := x
  obtain ⟨rt, ri, rc, rp⟩ := r
  simp only at hc
  have HI := Lib.hid hI
  have HRI := Lib.hid hRI
  have HBy := Lib.hid hBy
  have HRBy := Lib.hid hRBy
  have HR := Lib.hid hR
  have HRR := Lib.hid hRR
  have hP := fun w => pad_any n w
  have hRP := fun w => rpad_any n w
  generalize padN n = P at hP hRP
  have HP := Lib.hid hP
  have HRP := Lib.hid hRP
  clear hI hRI hBy hRBy hR hRR hP hRP
  go_enter Tryd.func11, Tryd.ntmps11
  go_wp2_with fail
  refine (known2 _).mono ?_
  rintro e w1 ⟨rfl, hb⟩
  have W1 := below_after hb
  have b0 := new_alloc hb
  have z0 := box_lt b0
  have n2 := box_cells b0 2
  clear hb
  by_cases hs3 : 3000 < s.length
  · have q : decide ((3000 : Int) < (s.length : Int)) = true := by simp; omega
    go_wp2_with fail
    go_ret
    exact ⟨rfl, W1⟩
  have q : decide ((3000 : Int) < (s.length : Int)) = false := by simp; omega
  by_cases hlen : 70000 < rc.length
  · have q' : decide ((70000 : Int) < (rc.length : Int)) = true := by simp; omega
    go_wp2_with fail
    go_ret
    exact ⟨rfl, W1⟩
  have q' : decide ((70000 : Int) < (rc.length : Int)) = false := by simp; omega
  go_wp2_with fail
  refine (HR.out _).mono ?_
  rintro e w2 ⟨rfl, hb⟩
  have W2 := below_later W1 hb
  replace b0 := kept b0 hb
  clear hb W1 n2 z0 q q'
  go_wp2_with fail
  refine (HRR.out _).mono ?_
  rintro e w3 ⟨rfl, hb⟩
  have W3 := below_later W2 (below_after hb)
  replace b0 := kept_alloc b0 hb
  have b2 := new_alloc hb
  clear hb W2
  generalize w2.heap.size = B2 at *
  go_wp2_with fail
  obtain ⟨u, hu⟩ : ∃ u, u = w3.alloc (.cells #[.int .i64 xt, .int .i64 xi, .string (bs xc), .int .i64 xp] 58) := ⟨_, rfl⟩
  have hnb : Below w3.heap.size w3 u := by rw [hu]; exact below_alloc _ _
  have b3 : u.heap[w3.heap.size]? = some (.cells #[.int .i64 xt, .int .i64 xi, .string (bs xc), .int .i64 xp] 58) := by rw [hu]; exact heap_alloc_new _ _
  have W4 := below_later W3 hnb
  replace b0 := kept b0 hnb
  replace b2 := kept b2 hnb
  rw [← hu]
  clear hu hnb W3
  generalize w3.heap.size = B3 at *
  generalize hB0 : w.heap.size = B0 at b0 ⊢
  have hS : ∀ wx, Rg.Step (fun _ => ∃ _ : Nat, False) u wx → wx.cell? ⟨B0, 0, none⟩ = some (.int .i64 rt) ∧ wx.cell? ⟨B0, 1, none⟩ = some (.int .i64 ri) ∧ wx.cell? ⟨B0, 2, none⟩ = some (.string (bs rc)) ∧ wx.cell? ⟨B0, 3, none⟩ = some (.int .i64 rp) ∧
      wx.cell? ⟨B2, 0, none⟩ = some (.int .i64 xt) ∧ wx.cell? ⟨B2, 1, none⟩ = some (.int .i64 xi) ∧ wx.cell? ⟨B2, 2, none⟩ = some (.string (bs xc)) ∧ wx.cell? ⟨B2, 3, none⟩ = some (.int .i64 xp) ∧
      wx.cell? ⟨B3, 0, none⟩ = some (.int .i64 xt) ∧ wx.cell? ⟨B3, 1, none⟩ = some (.int .i64 xi) ∧ wx.cell? ⟨B3, 2, none⟩ = some (.string (bs xc)) ∧ wx.cell? ⟨B3, 3, none⟩ = some (.int .i64 xp) := by
    intro wx hs
    have h := Rg.step_below hs
    have d0 := box_cells (kept b0 h)
    have d2 := box_cells (kept b2 h)
    have d3 := box_cells (kept b3 h)
    exact ⟨d0 0, d0 1, d0 2, d0 3, d2 0, d2 1, d2 2, d2 3, d3 0, d3 1, d3 2, d3 3⟩
  have hGx : ∀ wx, Rg.Step (fun _ => ∃ _ : Nat, False) u wx → wx.cell? ⟨0, 0, none⟩ = some errTypeV := fun wx hs => HG.out wx (below_later W4 (Rg.step_below hs))
  clear b0 b2 b3
  refine Rg.region0 71 (.val ?_ :: .val (.bool B) :: .val ?_ :: .val (.bool B) :: .val ?_ :: .val ?_ :: .val ?_ :: .val (.string (bs X)) :: .val ?_ :: .val (.string (bs X)) :: .val ?_ :: .val ?_ :: .val ?_ :: .val ?_ :: .val ?_ :: .val ?_ :: .val ?_ :: .val ?_ :: .val ?_ :: .val ?_ :: .val ?_ :: .val ?_ :: .val ?_ :: .val ?_ :: .val (.int .i64 C) :: .val ?_ :: .val ?_ :: .val ?_ :: .val ?_ :: .val ?_ :: .val (.int .i64 P) :: .val ?_ :: .val (.int .i64 P) :: .val ?_ :: .val ?_ :: .val ?_ :: []) (by kernel_rfl) (by decide +kernel) (by simp) rfl ?hstab ?hchain ?hend
  case hstab => exact Rg.stable_val (Rg.stable_val (Rg.stable_val (Rg.stable_val (Rg.stable_val (Rg.stable_val (Rg.stable_val (Rg.stable_val (Rg.stable_val (Rg.stable_val (Rg.stable_val (Rg.stable_val (Rg.stable_val (Rg.stable_val (Rg.stable_val (Rg.stable_val (Rg.stable_val (Rg.stable_val (Rg.stable_val (Rg.stable_val (Rg.stable_val (Rg.stable_val (Rg.stable_val (Rg.stable_val (Rg.stable_val (Rg.stable_val (Rg.stable_val (Rg.stable_val (Rg.stable_val (Rg.stable_val (Rg.stable_val (Rg.stable_val (Rg.stable_val (Rg.stable_val (Rg.stable_val (Rg.stable_val (Rg.stable_nil))))))))))))))))))))))))))))))))))))
  case hchain =>
    intro vs
    -- 0: slot 36 := Op.load 58 t3
    refine Rg.Chain.read rfl (fun wx hs => by obtain ⟨q0, q1, q2, q3, q4, q5, q6, q7, q8, q9, q10, q11⟩ := hS wx hs; go_simp; with_reducible rfl) ?_
    simp only [Act.put, List.setIfInBounds_toArray, List.set_cons_succ, List.set_cons_zero]
    -- 1: slot 37 := Op.call ( value (Operand.func 32), args := #[t36], argTypes := #[58] )
    refine Rg.Chain.call ?_ ?_ rfl (fun w => ?_) (fun wx hs => ?_) ?_
    rotate_left 2
    · go_simp; (try go_ints); constructor <;> with_reducible rfl
    · exact HI.out wx
    simp only [Act.put, List.setIfInBounds_toArray, List.set_cons_succ, List.set_cons_zero]
    -- 2: slot 38 := Op.load 58 t3
    refine Rg.Chain.read rfl (fun wx hs => by obtain ⟨q0, q1, q2, q3, q4, q5, q6, q7, q8, q9, q10, q11⟩ := hS wx hs; go_simp; with_reducible rfl) ?_
    simp only [Act.put, List.setIfInBounds_toArray, List.set_cons_succ, List.set_cons_zero]
    -- 3: slot 39 := Op.call ( value (Operand.func 27), args := #[t38], argTypes := #[58] )
    refine Rg.Chain.call ?_ ?_ rfl (fun w => ?_) (fun wx hs => ?_) ?_
    rotate_left 2
    · go_simp; (try go_ints); constructor <;> with_reducible rfl
    · exact HRI.out wx
    simp only [Act.put, List.setIfInBounds_toArray, List.set_cons_succ, List.set_cons_zero]
    -- 4: slot 40 := Op.binOp BinOp.eql 4 t37 t39 4
    refine Rg.Chain.pure rfl (fun w => by go_simp; (try go_ints); with_reducible rfl) ?_
    simp only [Act.put, List.setIfInBounds_toArray, List.set_cons_succ, List.set_cons_zero]
    -- 5: slot 41 := Op.move t40
    refine Rg.Chain.pure rfl (fun w => by go_simp; (try go_ints); with_reducible rfl) ?_
    simp only [Act.put, List.setIfInBounds_toArray, List.set_cons_succ, List.set_cons_zero]
    -- 6: slot 42 := Op.load 58 t3   [guarded: some (5, true)]
    refine Rg.Chain.read rfl (fun wx hs => by obtain ⟨q0, q1, q2, q3, q4, q5, q6, q7, q8, q9, q10, q11⟩ := hS wx hs; go_simp; with_reducible rfl) ?_
    simp only [Act.put, List.setIfInBounds_toArray, List.set_cons_succ, List.set_cons_zero]
    -- 7: slot 43 := Op.call ( value (Operand.func 33), args := #[t42], argTypes := #[58] )   [guarded: some (5
    refine Rg.Chain.call ?_ ?_ rfl (fun w => ?_) (fun wx hs => ?_) ?_
    rotate_left 2
    · go_simp; (try go_ints); constructor <;> with_reducible rfl
    · exact HBy.out wx
    simp only [Act.put, List.setIfInBounds_toArray, List.set_cons_succ, List.set_cons_zero]
    -- 8: slot 44 := Op.load 58 t3   [guarded: some (5, true)]
    refine Rg.Chain.read rfl (fun wx hs => by obtain ⟨q0, q1, q2, q3, q4, q5, q6, q7, q8, q9, q10, q11⟩ := hS wx hs; go_simp; with_reducible rfl) ?_
    simp only [Act.put, List.setIfInBounds_toArray, List.set_cons_succ, List.set_cons_zero]
    -- 9: slot 45 := Op.call ( value (Operand.func 28), args := #[t44], argTypes := #[58] )   [guarded: some (5
    refine Rg.Chain.call ?_ ?_ rfl (fun w => ?_) (fun wx hs => ?_) ?_
    rotate_left 2
    · go_simp; (try go_ints); constructor <;> with_reducible rfl
    · exact HRBy.out wx
    simp only [Act.put, List.setIfInBounds_toArray, List.set_cons_succ, List.set_cons_zero]
    -- 10: slot 46 := Op.binOp BinOp.eql 9 t43 t45 9   [guarded: some (5, true)]
    refine Rg.Chain.pure rfl (fun w => by go_simp; (try go_ints); with_reducible rfl) ?_
    simp only [Act.put, List.setIfInBounds_toArray, List.set_cons_succ, List.set_cons_zero]
    -- 11: slot 47 := Op.pick t41 t46 (const (Value.bool false))
    refine Rg.Chain.pure rfl (fun w => by go_simp; (try go_ints); with_reducible rfl) ?_
    simp only [Act.put, List.setIfInBounds_toArray, List.set_cons_succ, List.set_cons_zero]
    -- 12: slot 48 := Op.move t47
    refine Rg.Chain.pure rfl (fun w => by go_simp; (try go_ints); with_reducible rfl) ?_
    simp only [Act.put, List.setIfInBounds_toArray, List.set_cons_succ, List.set_cons_zero]
    -- 13: slot 49 := Op.load 58 t7   [guarded: some (12, true)]
    refine Rg.Chain.read rfl (fun wx hs => by obtain ⟨q0, q1, q2, q3, q4, q5, q6, q7, q8, q9, q10, q11⟩ := hS wx hs; go_simp; with_reducible rfl) ?_
    simp only [Act.put, List.setIfInBounds_toArray, List.set_cons_succ, List.set_cons_zero]
    -- 14: slot 50 := Op.load 58 t10   [guarded: some (12, true)]
    refine Rg.Chain.read rfl (fun wx hs => by obtain ⟨q0, q1, q2, q3, q4, q5, q6, q7, q8, q9, q10, q11⟩ := hS wx hs; go_simp; with_reducible rfl) ?_
    simp only [Act.put, List.setIfInBounds_toArray, List.set_cons_succ, List.set_cons_zero]
    -- 15: slot 51 := Op.binOp BinOp.eql 58 t49 t50 58   [guarded: some (12, true)]
    refine Rg.Chain.pure rfl (fun w => by go_simp; (try go_ints); with_reducible rfl) ?_
    simp only [Act.put, List.setIfInBounds_toArray, List.set_cons_succ, List.set_cons_zero]
    -- 16: slot 52 := Op.pick t48 t51 (const (Value.bool false))
    refine Rg.Chain.pure rfl (fun w => by go_simp; (try go_ints); with_reducible rfl) ?_
    simp only [Act.put, List.setIfInBounds_toArray, List.set_cons_succ, List.set_cons_zero]
    -- 17: slot 53 := Op.move t52
    refine Rg.Chain.pure rfl (fun w => by go_simp; (try go_ints); with_reducible rfl) ?_
    simp only [Act.put, List.setIfInBounds_toArray, List.set_cons_succ, List.set_cons_zero]
    -- 18: slot 54 := Op.move t8   [guarded: some (17, true)]
    refine Rg.Chain.pure rfl (fun w => by go_simp; (try go_ints); with_reducible rfl) ?_
    simp only [Act.put, List.setIfInBounds_toArray, List.set_cons_succ, List.set_cons_zero]
    -- 19: slot 55 := Op.move t11   [guarded: some (17, true)]
    refine Rg.Chain.pure rfl (fun w => by go_simp; (try go_ints); with_reducible rfl) ?_
    simp only [Act.put, List.setIfInBounds_toArray, List.set_cons_succ, List.set_cons_zero]
    -- 20: slot 56 := Op.binOp BinOp.eql 9 t54 t55 9   [guarded: some (17, true)]
    refine Rg.Chain.pure rfl (fun w => by go_simp; (try go_ints); with_reducible rfl) ?_
    simp only [Act.put, List.setIfInBounds_toArray, List.set_cons_succ, List.set_cons_zero]
    -- 21: slot 57 := Op.pick t53 t56 (const (Value.bool false))
    refine Rg.Chain.pure rfl (fun w => by go_simp; (try go_ints); with_reducible rfl) ?_
    simp only [Act.put, List.setIfInBounds_toArray, List.set_cons_succ, List.set_cons_zero]
    -- 22: slot 58 := Op.move t57
    refine Rg.Chain.pure rfl (fun w => by go_simp; (try go_ints); with_reducible rfl) ?_
    simp only [Act.put, List.setIfInBounds_toArray, List.set_cons_succ, List.set_cons_zero]
    -- 23: slot 59 := Op.move t9   [guarded: some (22, true)]
    refine Rg.Chain.pure rfl (fun w => by go_simp; (try go_ints); with_reducible rfl) ?_
    simp only [Act.put, List.setIfInBounds_toArray, List.set_cons_succ, List.set_cons_zero]
    -- 24: slot 60 := Op.call ( value (Operand.func 34), args := #[t59], argTypes := #[29] )   [guarded: some (2
    refine Rg.Chain.call ?_ ?_ rfl (fun w => ?_) (fun wx hs => ?_) ?_
    rotate_left 2
    · go_simp; (try go_ints); constructor <;> with_reducible rfl
    · exact code2_any C wx (hGx wx hs)
    simp only [Act.put, List.setIfInBounds_toArray, List.set_cons_succ, List.set_cons_zero]
    -- 25: slot 61 := Op.move t12   [guarded: some (22, true)]
    refine Rg.Chain.pure rfl (fun w => by go_simp; (try go_ints); with_reducible rfl) ?_
    simp only [Act.put, List.setIfInBounds_toArray, List.set_cons_succ, List.set_cons_zero]
    -- 26: slot 62 := Op.binOp BinOp.eql 3 t60 t61 3   [guarded: some (22, true)]
    refine Rg.Chain.pure rfl (fun w => by go_simp; (try go_ints); with_reducible rfl) ?_
    simp only [Act.put, List.setIfInBounds_toArray, List.set_cons_succ, List.set_cons_zero]
    -- 27: slot 63 := Op.pick t58 t62 (const (Value.bool false))
    refine Rg.Chain.pure rfl (fun w => by go_simp; (try go_ints); with_reducible rfl) ?_
    simp only [Act.put, List.setIfInBounds_toArray, List.set_cons_succ, List.set_cons_zero]
    -- 28: slot 64 := Op.move t63
    refine Rg.Chain.pure rfl (fun w => by go_simp; (try go_ints); with_reducible rfl) ?_
    simp only [Act.put, List.setIfInBounds_toArray, List.set_cons_succ, List.set_cons_zero]
    -- 29: slot 65 := Op.move t2   [guarded: some (28, true)]
    refine Rg.Chain.pure rfl (fun w => by go_simp; (try go_ints); with_reducible rfl) ?_
    simp only [Act.put, List.setIfInBounds_toArray, List.set_cons_succ, List.set_cons_zero]
    -- 30: slot 66 := Op.call ( value (Operand.func 35), args := #[t65], argTypes := #[3] )   [guarded: some (28
    refine Rg.Chain.call ?_ ?_ rfl (fun w => ?_) (fun wx hs => ?_) ?_
    rotate_left 2
    · go_simp; (try go_ints); constructor <;> with_reducible rfl
    · exact HP.out wx
    simp only [Act.put, List.setIfInBounds_toArray, List.set_cons_succ, List.set_cons_zero]
    -- 31: slot 67 := Op.move t2   [guarded: some (28, true)]
    refine Rg.Chain.pure rfl (fun w => by go_simp; (try go_ints); with_reducible rfl) ?_
    simp only [Act.put, List.setIfInBounds_toArray, List.set_cons_succ, List.set_cons_zero]
    -- 32: slot 68 := Op.call ( value (Operand.func 36), args := #[t67], argTypes := #[3] )   [guarded: some (28
    refine Rg.Chain.call ?_ ?_ rfl (fun w => ?_) (fun wx hs => ?_) ?_
    rotate_left 2
    · go_simp; (try go_ints); constructor <;> with_reducible rfl
    · exact HRP.out wx
    simp only [Act.put, List.setIfInBounds_toArray, List.set_cons_succ, List.set_cons_zero]
    -- 33: slot 69 := Op.binOp BinOp.eql 3 t66 t68 3   [guarded: some (28, true)]
    refine Rg.Chain.pure rfl (fun w => by go_simp; (try go_ints); with_reducible rfl) ?_
    simp only [Act.put, List.setIfInBounds_toArray, List.set_cons_succ, List.set_cons_zero]
    -- 34: slot 70 := Op.pick t64 t69 (const (Value.bool false))
    refine Rg.Chain.pure rfl (fun w => by go_simp; (try go_ints); with_reducible rfl) ?_
    simp only [Act.put, List.setIfInBounds_toArray, List.set_cons_succ, List.set_cons_zero]
    -- 35: slot 6 := Op.assign t70
    refine Rg.Chain.pure rfl (fun w => by go_simp; (try go_ints); with_reducible rfl) ?_
    simp only [Act.put, List.setIfInBounds_toArray, List.set_cons_succ, List.set_cons_zero]
    exact Rg.Chain.nil
  case hend =>
    intro vs F w7 hE
    have hb2 := Rg.step_below hE.step
    clear hE hS hGx
    simp only [Rg.finalAct, Rg.slot_val, Act.put, List.setIfInBounds_toArray, List.set_cons_succ, List.set_cons_zero]
    go_wp2_with fail
    go_ret
    exact ⟨rfl, below_later W4 hb2⟩

theorem rt_said (r : Rec) (s : ByteArray) (n : Int) (w : World) (hr : r.Fit) (hg : w.cell? ⟨0, 0, none⟩ = some errTypeV) :
    Calls Tryd.prog 11 #[r.v, .string s, .int .i64 n] w fun e w' => e = .returned (.bool true) ∧ Below w.heap.size w w' := by
  rw [bs_of s]
  exact rt_any r _ n w hr.2.2.1 hg
end Go.Proofs.YtfhddeghmlnobaaDoor
