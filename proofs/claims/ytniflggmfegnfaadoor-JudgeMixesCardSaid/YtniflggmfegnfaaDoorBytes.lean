/- What record.Bytes and the reference's Bytes compute: a record as bytes. Condition: the content is no longer than an int tells. -/
import Derived.Test.YtniflggmfegnfaaDoorRec
import Derived.Test.YtniflggmfegnfaaDoorApp
import Derived.Test.YtniflggmfegnfaaDoorShelf
namespace Go.Proofs.YtniflggmfegnfaaDoor
open Go.RowKit

theorem rec_bytes {t i p : Int} {c : Bs} (h : (⟨t, i, c, p⟩ : Rec).Is) :
    1 :: u8 t :: (two i ++ (two (c.length : Int) ++ u8 p :: 0 :: (c ++ List.replicate p.toNat 0))) = (⟨t, i, c, p⟩ : Rec).bytes := by
  unfold Rec.bytes; rw [if_pos h]

theorem rbytes_no (r : Rec) (w : World) (hc : r.c.length ≤ 9223372036854775807) (h : ¬ r.Is) :
    Calls Tryd.prog 6 #[r.v] w fun e w' => e = .returned (.string (bs r.bytes)) ∧ Below w.heap.size w w' := by
  have hI := fun w => ris_any r w hc
  have hb : r.bytes = [] := by unfold Rec.bytes; rw [if_neg h]
  rw [decide_eq_false h] at hI
  have HB := Lib.hid hb
  clear hb h
  obtain ⟨t, i, c, p⟩ := r
  have HI := Lib.hid hI
  clear hI
  go_enter Tryd.func6, Tryd.ntmps6
  go_wp2_with (go_at_call 16; refine (HI.out _).mono ?_; rintro e w' ⟨rfl, hb⟩)
  go_ret
  exact ⟨ret_text HB.out.symm, below_after hb⟩

set_option maxRecDepth 100000 in
set_option maxHeartbeats 1000000 in
theorem rbytes_yes (r : Rec) (w : World) (h : r.Is) :
    Calls Tryd.prog 6 #[r.v] w fun e w' => e = .returned (.string (bs r.bytes)) ∧ Below w.heap.size w w' := by
  have H := h
  obtain ⟨t, i, c, p⟩ := r
  obtain ⟨h1, h2, h3, h4, h5, h6, h7⟩ := h
  simp only at h1 h2 h3 h4 h5 h6 h7
  have hI := fun w => ris_any ⟨t, i, c, p⟩ w (by simp only; omega)
  rw [decide_eq_true H] at hI
  have HI := Lib.hid hI
  clear hI
  go_enter Tryd.func6, Tryd.ntmps6
  go_wp2_with (go_at_call 16; refine (HI.out _).mono ?_; rintro e w' ⟨rfl, hb⟩)
  have hz := size_after hb
  have hS : ∀ wx, Rg.Step (fun _ => ∃ _ : Nat, False) w' wx → wx.cell? ⟨w.heap.size, 0, none⟩ = some (.int .i64 t) ∧ wx.cell? ⟨w.heap.size, 1, none⟩ = some (.int .i64 i) ∧ wx.cell? ⟨w.heap.size, 2, none⟩ = some (.string (bs c)) ∧ wx.cell? ⟨w.heap.size, 3, none⟩ = some (.int .i64 p) := by
    intro wx hs
    have e : ∀ o, wx.cell? ⟨w.heap.size, o, none⟩ = w'.cell? ⟨w.heap.size, o, none⟩ := fun o => World.cell?_of_block (w := w') (hs.block _ hz (by simp))
    rw [e, e, e, e, cell_after hb, cell_after hb, cell_after hb, cell_after hb]; exact ⟨rfl, rfl, rfl, rfl⟩
  refine Rg.region0 34 [.val ?_, .val ?_, .val ?_, .any (Rg.Row 5 1 2 ([1, u8 t].map bv)), .val ?_, .val ?_, .val ?_, .val (.string (bs (two i))), .val ?_, .val ?_, .val ?_, .val ?_, .val (.string (bs (two c.length))), .val ?_, .val ?_, .val ?_, .val ?_, .any (Rg.Row 5 1 2 ([u8 p, 0].map bv)), .val ?_, .val ?_, .val ?_, .val ?_, .val ?_, .val ?_, .val ?_, .any (Rg.Row 5 1 p.toNat ((List.replicate p.toNat 0).map bv)), .val ?_, .val ?_, .val ?_] (by kernel_rfl) (by decide +kernel) (by simp) rfl ?hstab ?hchain ?hend
  case hstab => exact Rg.stable_val (Rg.stable_val (Rg.stable_val (Rg.stable_row (Rg.stable_val (Rg.stable_val (Rg.stable_val (Rg.stable_val (Rg.stable_val (Rg.stable_val (Rg.stable_val (Rg.stable_val (Rg.stable_val (Rg.stable_val (Rg.stable_val (Rg.stable_val (Rg.stable_val (Rg.stable_row (Rg.stable_val (Rg.stable_val (Rg.stable_val (Rg.stable_val (Rg.stable_val (Rg.stable_val (Rg.stable_val (Rg.stable_row (Rg.stable_val (Rg.stable_val (Rg.stable_val (Rg.stable_nil)))))))))))))))))))))))))))))
  case hchain =>
    intro vs
    -- 0: slot 6 := Op.fieldAddr 33 t1 0
    refine Rg.Chain.pure rfl (fun w => by go_simp; (try go_ints); with_reducible rfl) ?_
    simp only [Act.put, List.setIfInBounds_toArray, List.set_cons_succ, List.set_cons_zero]
    -- 1: slot 7 := Op.load 3 t6
    refine Rg.Chain.read rfl (fun wx hs => by obtain ⟨q0, q1, q2, q3⟩ := hS wx hs; go_simp; with_reducible rfl) ?_
    simp only [Act.put, List.setIfInBounds_toArray, List.set_cons_succ, List.set_cons_zero]
    -- 2: slot 8 := Op.convert 3 5 t7
    refine Rg.Chain.pure rfl (fun w => by go_simp; (try go_ints); with_reducible rfl) ?_
    simp only [Act.put, List.setIfInBounds_toArray, List.set_cons_succ, List.set_cons_zero]
    -- 3: slot 9 := Op.buildSlice 23 2 #[(0, const (1:u8)), (1, t8)]
    refine Rg.Chain.new ?_ ?_ rfl (fun w => ?_) (fun w => ?_) ?_
    rotate_left 2
    · go_simp; (try go_ints); (first | with_reducible rfl | (constructor <;> with_reducible rfl))
    · exact Rg.row_bytes w 5 [1, u8 t] _ (by simp [bv, u8_cast]; omega) (by simp [maxLen])
    simp only [Act.put, List.setIfInBounds_toArray, List.set_cons_succ, List.set_cons_zero]
    -- 4: slot 10 := Op.convert 23 9 t9
    refine Rg.Chain.reads 3 rfl rfl (by decide) (Rg.nocons _ _) (fun w F _ hp => by have hcv := row_text hp; go_simp; with_reducible rfl) ?_
    simp only [Act.put, List.setIfInBounds_toArray, List.set_cons_succ, List.set_cons_zero]
    -- 5: slot 11 := Op.fieldAddr 33 t1 1
    refine Rg.Chain.pure rfl (fun w => by go_simp; (try go_ints); with_reducible rfl) ?_
    simp only [Act.put, List.setIfInBounds_toArray, List.set_cons_succ, List.set_cons_zero]
    -- 6: slot 12 := Op.load 3 t11
    refine Rg.Chain.read rfl (fun wx hs => by obtain ⟨q0, q1, q2, q3⟩ := hS wx hs; go_simp; with_reducible rfl) ?_
    simp only [Act.put, List.setIfInBounds_toArray, List.set_cons_succ, List.set_cons_zero]
    -- 7: slot 13 := Op.call ( value (Operand.func 17), args := #[t12], argTypes := #[3] )
    refine Rg.Chain.call ?_ ?_ rfl (fun w => ?_) (fun wx hs => ?_) ?_
    rotate_left 2
    · go_simp; (try go_ints); constructor <;> with_reducible rfl
    · exact rtwo_any _ _ (by omega) (by omega)
    simp only [Act.put, List.setIfInBounds_toArray, List.set_cons_succ, List.set_cons_zero]
    -- 8: slot 14 := Op.binOp BinOp.add 9 t10 t13 9
    refine Rg.Chain.pure rfl (fun w => by go_simp; (first | with_reducible rfl | rw [if_neg (by omega)])) ?_
    simp only [Act.put, List.setIfInBounds_toArray, List.set_cons_succ, List.set_cons_zero]
    -- 9: slot 15 := Op.fieldAddr 33 t1 2
    refine Rg.Chain.pure rfl (fun w => by go_simp; (try go_ints); with_reducible rfl) ?_
    simp only [Act.put, List.setIfInBounds_toArray, List.set_cons_succ, List.set_cons_zero]
    -- 10: slot 16 := Op.load 9 t15
    refine Rg.Chain.read rfl (fun wx hs => by obtain ⟨q0, q1, q2, q3⟩ := hS wx hs; go_simp; with_reducible rfl) ?_
    simp only [Act.put, List.setIfInBounds_toArray, List.set_cons_succ, List.set_cons_zero]
    -- 11: slot 17 := Op.call ( builtin len, args := #[t16], argTypes := #[9] )
    refine Rg.Chain.pure rfl (fun w => by go_simp; (try go_ints); with_reducible rfl) ?_
    simp only [Act.put, List.setIfInBounds_toArray, List.set_cons_succ, List.set_cons_zero]
    -- 12: slot 18 := Op.call ( value (Operand.func 17), args := #[t17], argTypes := #[3] )
    refine Rg.Chain.call ?_ ?_ rfl (fun w => ?_) (fun wx hs => ?_) ?_
    rotate_left 2
    · go_simp; (try go_ints); constructor <;> with_reducible rfl
    · exact rtwo_any _ _ (by omega) (by omega)
    simp only [Act.put, List.setIfInBounds_toArray, List.set_cons_succ, List.set_cons_zero]
    -- 13: slot 19 := Op.binOp BinOp.add 9 t14 t18 9
    refine Rg.Chain.pure rfl (fun w => by go_simp; (first | with_reducible rfl | rw [if_neg (by omega)])) ?_
    simp only [Act.put, List.setIfInBounds_toArray, List.set_cons_succ, List.set_cons_zero]
    -- 14: slot 20 := Op.fieldAddr 33 t1 3
    refine Rg.Chain.pure rfl (fun w => by go_simp; (try go_ints); with_reducible rfl) ?_
    simp only [Act.put, List.setIfInBounds_toArray, List.set_cons_succ, List.set_cons_zero]
    -- 15: slot 21 := Op.load 3 t20
    refine Rg.Chain.read rfl (fun wx hs => by obtain ⟨q0, q1, q2, q3⟩ := hS wx hs; go_simp; with_reducible rfl) ?_
    simp only [Act.put, List.setIfInBounds_toArray, List.set_cons_succ, List.set_cons_zero]
    -- 16: slot 22 := Op.convert 3 5 t21
    refine Rg.Chain.pure rfl (fun w => by go_simp; (try go_ints); with_reducible rfl) ?_
    simp only [Act.put, List.setIfInBounds_toArray, List.set_cons_succ, List.set_cons_zero]
    -- 17: slot 23 := Op.buildSlice 23 2 #[(0, t22), (1, const (0:u8))]
    refine Rg.Chain.new ?_ ?_ rfl (fun w => ?_) (fun w => ?_) ?_
    rotate_left 2
    · go_simp; (try go_ints); (first | with_reducible rfl | (constructor <;> with_reducible rfl))
    · exact Rg.row_bytes w 5 [u8 p, 0] _ (by simp [bv, u8_cast]; omega) (by simp [maxLen])
    simp only [Act.put, List.setIfInBounds_toArray, List.set_cons_succ, List.set_cons_zero]
    -- 18: slot 24 := Op.convert 23 9 t23
    refine Rg.Chain.reads 17 rfl rfl (by decide) (Rg.nocons _ _) (fun w F _ hp => by have hcv := row_text hp; go_simp; with_reducible rfl) ?_
    simp only [Act.put, List.setIfInBounds_toArray, List.set_cons_succ, List.set_cons_zero]
    -- 19: slot 25 := Op.binOp BinOp.add 9 t19 t24 9
    refine Rg.Chain.pure rfl (fun w => by go_simp; (first | with_reducible rfl | rw [if_neg (by omega)])) ?_
    simp only [Act.put, List.setIfInBounds_toArray, List.set_cons_succ, List.set_cons_zero]
    -- 20: slot 26 := Op.fieldAddr 33 t1 2
    refine Rg.Chain.pure rfl (fun w => by go_simp; (try go_ints); with_reducible rfl) ?_
    simp only [Act.put, List.setIfInBounds_toArray, List.set_cons_succ, List.set_cons_zero]
    -- 21: slot 27 := Op.load 9 t26
    refine Rg.Chain.read rfl (fun wx hs => by obtain ⟨q0, q1, q2, q3⟩ := hS wx hs; go_simp; with_reducible rfl) ?_
    simp only [Act.put, List.setIfInBounds_toArray, List.set_cons_succ, List.set_cons_zero]
    -- 22: slot 28 := Op.binOp BinOp.add 9 t25 t27 9
    refine Rg.Chain.pure rfl (fun w => by go_simp; (first | with_reducible rfl | rw [if_neg (by omega)])) ?_
    simp only [Act.put, List.setIfInBounds_toArray, List.set_cons_succ, List.set_cons_zero]
    -- 23: slot 29 := Op.fieldAddr 33 t1 3
    refine Rg.Chain.pure rfl (fun w => by go_simp; (try go_ints); with_reducible rfl) ?_
    simp only [Act.put, List.setIfInBounds_toArray, List.set_cons_succ, List.set_cons_zero]
    -- 24: slot 30 := Op.load 3 t29
    refine Rg.Chain.read rfl (fun wx hs => by obtain ⟨q0, q1, q2, q3⟩ := hS wx hs; go_simp; with_reducible rfl) ?_
    simp only [Act.put, List.setIfInBounds_toArray, List.set_cons_succ, List.set_cons_zero]
    -- 25: slot 31 := Op.makeSlice 23 t30 t30
    refine Rg.Chain.new ?_ ?_ rfl (fun w => ?_) (fun w => ?_) ?_
    rotate_left 2
    · have hmk := make_bytes w p (by omega) (by omega)
      go_simp; (first | with_reducible rfl | (constructor <;> with_reducible rfl))
    · exact made_bytes w p.toNat (by unfold maxLen; omega)
    simp only [Act.put, List.setIfInBounds_toArray, List.set_cons_succ, List.set_cons_zero]
    -- 26: slot 32 := Op.convert 23 9 t31
    refine Rg.Chain.reads 25 rfl rfl (by decide) (Rg.nocons _ _) (fun w F _ hp => by have hcv := row_text hp; go_simp; with_reducible rfl) ?_
    simp only [Act.put, List.setIfInBounds_toArray, List.set_cons_succ, List.set_cons_zero]
    -- 27: slot 33 := Op.binOp BinOp.add 9 t28 t32 9
    refine Rg.Chain.pure rfl (fun w => by go_simp; (first | with_reducible rfl | rw [if_neg (by omega)])) ?_
    simp only [Act.put, List.setIfInBounds_toArray, List.set_cons_succ, List.set_cons_zero]
    -- 28: slot 2 := Op.assign t33
    refine Rg.Chain.pure rfl (fun w => by go_simp; (try go_ints); with_reducible rfl) ?_
    simp only [Act.put, List.setIfInBounds_toArray, List.set_cons_succ, List.set_cons_zero]
    exact Rg.Chain.nil
  case hend =>
    intro vs F w2 hE
    simp only [Rg.finalAct, Rg.slot_val, Rg.slot_any, Act.put, List.setIfInBounds_toArray, List.set_cons_succ, List.set_cons_zero]
    have hb2 := Rg.step_below hE.step
    clear hE hS
    go_wp2
    go_ret
    exact ⟨ret_text (rec_bytes H), below_later (below_after hb) hb2⟩

theorem rbytes_any (r : Rec) (w : World) (hc : r.c.length ≤ 9223372036854775807) :
    Calls Tryd.prog 6 #[r.v] w fun e w' => e = .returned (.string (bs r.bytes)) ∧ Below w.heap.size w w' := by
  by_cases h : r.Is
  · exact rbytes_yes r w h
  · exact rbytes_no r w hc h
/-! ### strings.Repeat at a byte of zero -/
theorem repeat_zero (n : Nat) : Lib.repeatL [0] n = List.replicate n (0 : UInt8) := by
  induction n with
  | zero => rfl
  | succ n ih => rw [List.replicate_succ, ← ih]; rfl

theorem repeat_any (n : Int) (w : World) (h0 : 0 ≤ n) (h1 : n ≤ 1000000) :
    Calls Tryd.prog 33 #[.string (bs [0]), .int .i64 n] w fun e w' => e = .returned (.string (bs (List.replicate n.toNat 0))) ∧ Below w.heap.size w w' := by
  have := Tryd.strings_Repeat (bs [0]) n.toNat w (by omega) (by simp [bs_size]; omega)
  have e : ((n.toNat : Nat) : Int) = n := by omega
  rw [e] at this
  refine this.mono fun e w' ⟨he, hb⟩ => ⟨?_, hb⟩
  rw [he]
  show Ending.returned (.string ⟨(Lib.repeatL [0] n.toNat).toArray⟩) = _
  rw [repeat_zero]
  rfl

theorem bytes_no (r : Rec) (w : World) (hc : r.c.length ≤ 9223372036854775807) (h : ¬ r.Is) :
    Calls Tryd.prog 26 #[r.v] w fun e w' => e = .returned (.string (bs r.bytes)) ∧ Below w.heap.size w w' := by
  have hI := fun w => is_any r w hc
  have hb : r.bytes = [] := by unfold Rec.bytes; rw [if_neg h]
  rw [decide_eq_false h] at hI
  have HB := Lib.hid hb
  clear hb h
  obtain ⟨t, i, c, p⟩ := r
  have HI := Lib.hid hI
  clear hI
  go_enter Tryd.func26, Tryd.ntmps26
  go_wp2_with (go_at_call 31; refine (HI.out _).mono ?_; rintro e w' ⟨rfl, hb⟩)
  go_ret
  exact ⟨ret_text HB.out.symm, below_after hb⟩

set_option maxRecDepth 100000 in
set_option maxHeartbeats 1000000 in
theorem bytes_yes (r : Rec) (w : World) (h : r.Is) :
    Calls Tryd.prog 26 #[r.v] w fun e w' => e = .returned (.string (bs r.bytes)) ∧ Below w.heap.size w w' := by
  have H := h
  obtain ⟨t, i, c, p⟩ := r
  obtain ⟨h1, h2, h3, h4, h5, h6, h7⟩ := h
  simp only at h1 h2 h3 h4 h5 h6 h7
  have hI := fun w => is_any ⟨t, i, c, p⟩ w (by simp only; omega)
  rw [decide_eq_true H] at hI
  have HI := Lib.hid hI
  clear hI
  go_enter Tryd.func26, Tryd.ntmps26
  go_wp2_with (go_at_call 31; refine (HI.out _).mono ?_; rintro e w' ⟨rfl, hb⟩)
  have hz := size_after hb
  have hS : ∀ wx, Below w'.heap.size w' wx → wx.cell? ⟨w.heap.size, 0, none⟩ = some (.int .i64 t) ∧ wx.cell? ⟨w.heap.size, 1, none⟩ = some (.int .i64 i) ∧ wx.cell? ⟨w.heap.size, 2, none⟩ = some (.string (bs c)) ∧ wx.cell? ⟨w.heap.size, 3, none⟩ = some (.int .i64 p) := by
    intro wx hs
    rw [hs.cell hz, hs.cell hz, hs.cell hz, hs.cell hz, cell_after hb, cell_after hb, cell_after hb, cell_after hb]; exact ⟨rfl, rfl, rfl, rfl⟩
  refine Rg.region1 35 [.val ?_, .val ?_, .val ?_, .any (Rg.Row 5 1 2 ([1, u8 t].map bv)), .val ?_, .val ?_, .any (Rg.Row 5 1 2 ((two i).map bv)), .any (Rg.Row 5 1 (2 + 2) ([1, u8 t].map bv ++ (two i).map bv)), .any (Rg.Row 5 1 (2 + 2) ([1, u8 t].map bv ++ (two i).map bv))] [[], [], [], [], [], [], [], [3], [7]] (fun _ _ => False) (by kernel_rfl) (by decide +kernel) (by simp) rfl (by simp) ?hstab ?hown ?hdis ?hchain ?hend
  case hstab => exact Rg.stable_val (Rg.stable_val (Rg.stable_val (Rg.stable_row (Rg.stable_val (Rg.stable_val (Rg.stable_row (Rg.stable_row (Rg.stable_row (Rg.stable_nil)))))))))
  case hchain =>
    intro vs
    -- 0: slot 7 := Op.fieldAddr 33 t1 0
    refine Rg.Chain.pure rfl (fun w => by go_simp; (try go_ints); with_reducible rfl) ?_
    simp only [Act.put, List.setIfInBounds_toArray, List.set_cons_succ, List.set_cons_zero]
    -- 1: slot 8 := Op.load 3 t7
    refine Rg.Chain.read rfl (fun wx hs => by obtain ⟨q0, q1, q2, q3⟩ := hS wx (Rg.step_below hs); go_simp; with_reducible rfl) ?_
    simp only [Act.put, List.setIfInBounds_toArray, List.set_cons_succ, List.set_cons_zero]
    -- 2: slot 9 := Op.convert 3 5 t8
    refine Rg.Chain.pure rfl (fun w => by go_simp; (try go_ints); with_reducible rfl) ?_
    simp only [Act.put, List.setIfInBounds_toArray, List.set_cons_succ, List.set_cons_zero]
    -- 3: slot 10 := Op.buildSlice 23 2 #[(0, const (1:u8)), (1, t9)]
    refine Rg.Chain.new ?_ ?_ rfl (fun w => ?_) (fun w => ?_) ?_
    rotate_left 2
    · go_simp; (try go_ints); (first | with_reducible rfl | (constructor <;> with_reducible rfl))
    · exact Rg.row_bytes w 5 [1, u8 t] _ (by simp [bv, u8_cast]; omega) (by simp [maxLen])
    simp only [Act.put, List.setIfInBounds_toArray, List.set_cons_succ, List.set_cons_zero]
    -- 4: slot 11 := Op.fieldAddr 33 t1 1
    refine Rg.Chain.pure rfl (fun w => by go_simp; (try go_ints); with_reducible rfl) ?_
    simp only [Act.put, List.setIfInBounds_toArray, List.set_cons_succ, List.set_cons_zero]
    -- 5: slot 12 := Op.load 3 t11
    refine Rg.Chain.read rfl (fun wx hs => by obtain ⟨q0, q1, q2, q3⟩ := hS wx (Rg.step_below hs); go_simp; with_reducible rfl) ?_
    simp only [Act.put, List.setIfInBounds_toArray, List.set_cons_succ, List.set_cons_zero]
    -- 6: slot 13 := Op.call ( value (Operand.func 32), args := #[t12], argTypes := #[3] )
    refine Rg.Chain.callAny ?_ ?_ rfl (fun w => ?_) (fun wx hs => ?_) ?_
    rotate_left 2
    · go_simp; (try go_ints); constructor <;> with_reducible rfl
    · exact two_any _ _ (by omega) (by omega)
    simp only [Act.put, List.setIfInBounds_toArray, List.set_cons_succ, List.set_cons_zero]
    -- 7: slot 14 := Op.call ( builtin append, args := #[t10, t13], argTypes := #[23, 23] )
    obtain ⟨ti, hti, hzz, hsz, hby⟩ := inf_u8
    refine Rg.Chain.append 3 6 rfl 23 5 _ _ ti _ _ _ rfl rfl rfl (Tryd.underlying23) hti hzz hsz hby rfl (by decide) rfl rfl (by decide) (by decide) (Rg.only 7 3 (by decide)) (Rg.only 7 6 (by decide)) (by decide) (bytes_one _) (by simp [maxLen]) (by simp) ?_
    simp only [Act.put, List.setIfInBounds_toArray, List.set_cons_succ, List.set_cons_zero]
    -- 8: slot 3 := Op.assign t14
    refine Rg.Chain.take 7 rfl rfl (by decide) (Rg.only 8 7 (by decide)) (by decide) (fun w => by go_simp) ?_
    simp only [Act.put, List.setIfInBounds_toArray, List.set_cons_succ, List.set_cons_zero]
    exact Rg.Chain.nil
  case hown => intro j k h; exact h.elim
  case hdis => intro i j k h; exact h.elim
  case hend =>
    intro vs F w2 hE
    have hrow := Rg.end_row (B := w'.heap.size) hE (Rg.kept 8 (by decide)) rfl (Nat.le_refl _) (fun _ _ h => h.elim)
    have hb2 := Rg.step_below hE.step
    clear hE
    simp only [Rg.finalAct, Rg.slot_val, Rg.slot_any, Act.put, List.setIfInBounds_toArray, List.set_cons_succ, List.set_cons_zero]
    generalize vs 8 = v8 at hrow ⊢
    have hz2 := hb2.size
    have hown : ∀ (j : Nat) (k : Nat), (j = 0 ∧ v8.ownBlock = some k) → w'.heap.size ≤ k := fun j k h => (hrow.lt k h.2).1
    go_wp2
    refine Rg.region1 35 [.any (Rg.Row 5 1 (2 + 2) ([1, u8 t].map bv ++ (two i).map bv)), .val ?_, .val ?_, .val ?_, .any (Rg.Row 5 1 2 ((two c.length).map bv)), .any (Rg.Row 5 1 (2 + 2 + 2) (([1, u8 t].map bv ++ (two i).map bv) ++ (two c.length).map bv)), .val ?_, .val ?_, .val ?_, .any (Rg.Row 5 1 2 ([u8 p, 0].map bv)), .any (Rg.Row 5 1 (2 + 2 + 2 + 2) ((([1, u8 t].map bv ++ (two i).map bv) ++ (two c.length).map bv) ++ [u8 p, 0].map bv)), .any (Rg.Row 5 1 (2 + 2 + 2 + 2) ((([1, u8 t].map bv ++ (two i).map bv) ++ (two c.length).map bv) ++ [u8 p, 0].map bv))] [[], [], [], [], [], [0], [], [], [], [], [5], [10]] (fun j k => j = 0 ∧ v8.ownBlock = some k) (by kernel_rfl) (by decide +kernel) (by simp) rfl (by simp) ?hstab ?hown ?hdis ?hchain ?hend
    case hstab => exact Rg.stable_row (Rg.stable_val (Rg.stable_val (Rg.stable_val (Rg.stable_row (Rg.stable_row (Rg.stable_val (Rg.stable_val (Rg.stable_val (Rg.stable_row (Rg.stable_row (Rg.stable_row (Rg.stable_nil))))))))))))
    case hchain =>
      intro vs
      -- 0: slot 15 := Op.move t3
      refine Rg.Chain.start (Rg.ownsRow_zero hrow) (fun k hk => ⟨rfl, hk⟩) rfl (fun w => by go_simp) ?_
      simp only [Act.put, List.setIfInBounds_toArray, List.set_cons_succ, List.set_cons_zero]
      -- 1: slot 16 := Op.fieldAddr 33 t1 2
      refine Rg.Chain.pure rfl (fun w => by go_simp; (try go_ints); with_reducible rfl) ?_
      simp only [Act.put, List.setIfInBounds_toArray, List.set_cons_succ, List.set_cons_zero]
      -- 2: slot 17 := Op.load 9 t16
      refine Rg.Chain.read rfl (fun wx hs => by obtain ⟨q0, q1, q2, q3⟩ := hS wx (hb2.trans (Rg.step_from hs hz2 hown)); go_simp; with_reducible rfl) ?_
      simp only [Act.put, List.setIfInBounds_toArray, List.set_cons_succ, List.set_cons_zero]
      -- 3: slot 18 := Op.call ( builtin len, args := #[t17], argTypes := #[9] )
      refine Rg.Chain.pure rfl (fun w => by go_simp; (try go_ints); with_reducible rfl) ?_
      simp only [Act.put, List.setIfInBounds_toArray, List.set_cons_succ, List.set_cons_zero]
      -- 4: slot 19 := Op.call ( value (Operand.func 32), args := #[t18], argTypes := #[3] )
      refine Rg.Chain.callAny ?_ ?_ rfl (fun w => ?_) (fun wx hs => ?_) ?_
      rotate_left 2
      · go_simp; (try go_ints); constructor <;> with_reducible rfl
      · exact two_any _ _ (by omega) (by omega)
      simp only [Act.put, List.setIfInBounds_toArray, List.set_cons_succ, List.set_cons_zero]
      -- 5: slot 20 := Op.call ( builtin append, args := #[t15, t19], argTypes := #[23, 23] )
      obtain ⟨ti, hti, hzz, hsz, hby⟩ := inf_u8
      refine Rg.Chain.append 0 4 rfl 23 5 _ _ ti _ _ _ rfl rfl rfl (Tryd.underlying23) hti hzz hsz hby rfl (by decide) rfl rfl (by decide) (by decide) (Rg.only 5 0 (by decide)) (Rg.only 5 4 (by decide)) (by decide) (bytes_one _) (by simp [maxLen]) (by simp) ?_
      simp only [Act.put, List.setIfInBounds_toArray, List.set_cons_succ, List.set_cons_zero]
      -- 6: slot 21 := Op.fieldAddr 33 t1 3
      refine Rg.Chain.pure rfl (fun w => by go_simp; (try go_ints); with_reducible rfl) ?_
      simp only [Act.put, List.setIfInBounds_toArray, List.set_cons_succ, List.set_cons_zero]
      -- 7: slot 22 := Op.load 3 t21
      refine Rg.Chain.read rfl (fun wx hs => by obtain ⟨q0, q1, q2, q3⟩ := hS wx (hb2.trans (Rg.step_from hs hz2 hown)); go_simp; with_reducible rfl) ?_
      simp only [Act.put, List.setIfInBounds_toArray, List.set_cons_succ, List.set_cons_zero]
      -- 8: slot 23 := Op.convert 3 5 t22
      refine Rg.Chain.pure rfl (fun w => by go_simp; (try go_ints); with_reducible rfl) ?_
      simp only [Act.put, List.setIfInBounds_toArray, List.set_cons_succ, List.set_cons_zero]
      -- 9: slot 24 := Op.buildSlice 23 2 #[(0, t23), (1, const (0:u8))]
      refine Rg.Chain.new ?_ ?_ rfl (fun w => ?_) (fun w => ?_) ?_
      rotate_left 2
      · go_simp; (try go_ints); (first | with_reducible rfl | (constructor <;> with_reducible rfl))
      · exact Rg.row_bytes w 5 [u8 p, 0] _ (by simp [bv, u8_cast]; omega) (by simp [maxLen])
      simp only [Act.put, List.setIfInBounds_toArray, List.set_cons_succ, List.set_cons_zero]
      -- 10: slot 25 := Op.call ( builtin append, args := #[t20, t24], argTypes := #[23, 23] )
      obtain ⟨ti, hti, hzz, hsz, hby⟩ := inf_u8
      refine Rg.Chain.append 5 9 rfl 23 5 _ _ ti _ _ _ rfl rfl rfl (Tryd.underlying23) hti hzz hsz hby rfl (by decide) rfl rfl (by decide) (by decide) (Rg.only 10 5 (by decide)) (Rg.only 10 9 (by decide)) (by decide) (bytes_one _) (by simp [maxLen]) (by simp) ?_
      simp only [Act.put, List.setIfInBounds_toArray, List.set_cons_succ, List.set_cons_zero]
      -- 11: slot 3 := Op.assign t25
      refine Rg.Chain.take 10 rfl rfl (by decide) (Rg.only 11 10 (by decide)) (by decide) (fun w => by go_simp) ?_
      simp only [Act.put, List.setIfInBounds_toArray, List.set_cons_succ, List.set_cons_zero]
      exact Rg.Chain.nil
    case hown => rintro j k ⟨_, h⟩; exact (hrow.lt k h).2
    case hdis => rintro i j k ⟨rfl, _⟩ ⟨rfl, _⟩; rfl
    case hend =>
      intro vs F w3 hE
      have hrow2 := Rg.end_row (B := w'.heap.size) hE (Rg.kept 11 (by decide)) rfl hz2 hown
      have hb3 := Rg.step_from hE.step hz2 hown
      clear hE
      have e : (([1, u8 t].map bv ++ (two i).map bv) ++ (two (c.length : Int)).map bv) ++ [u8 p, 0].map bv = (1 :: u8 t :: (two i ++ (two (c.length : Int) ++ [u8 p, 0]))).map bv := by simp
      rw [e] at hrow2
      clear e hrow hown
      simp only [Rg.finalAct, Rg.slot_val, Rg.slot_any, Act.put, List.setIfInBounds_toArray, List.set_cons_succ, List.set_cons_zero]
      generalize vs 11 = v11 at hrow2 ⊢
      have hz3 := hb3.size
      have hown : ∀ (j : Nat) (k : Nat), (j = 0 ∧ v11.ownBlock = some k) → w'.heap.size ≤ k := fun j k h => (hrow2.lt k h.2).1
      go_wp2
      refine Rg.region1 35 [.any (Rg.Row 5 1 (2 + 2 + 2 + 2) ((1 :: u8 t :: (two i ++ (two (c.length : Int) ++ [u8 p, 0]))).map bv)), .val ?_, .val ?_, .val ?_, .val ?_, .val ?_, .val ?_, .val (.string (bs (List.replicate p.toNat 0))), .val ?_, .val ?_] [] (fun j k => j = 0 ∧ v11.ownBlock = some k) (by kernel_rfl) (by decide +kernel) (by simp) rfl (by simp) ?hstab ?hown ?hdis ?hchain ?hend
      case hstab => exact Rg.stable_row (Rg.stable_val (Rg.stable_val (Rg.stable_val (Rg.stable_val (Rg.stable_val (Rg.stable_val (Rg.stable_val (Rg.stable_val (Rg.stable_val (Rg.stable_nil))))))))))
      case hchain =>
        intro vs
        -- 0: slot 26 := Op.move t3
        refine Rg.Chain.start (Rg.ownsRow_zero hrow2) (fun k hk => ⟨rfl, hk⟩) rfl (fun w => by go_simp) ?_
        simp only [Act.put, List.setIfInBounds_toArray, List.set_cons_succ, List.set_cons_zero]
        -- 1: slot 27 := Op.convert 23 9 t26
        refine Rg.Chain.reads 0 rfl rfl (by decide) (Rg.only 1 0 (by decide)) (fun w F _ hp => by have hcv := row_text hp; go_simp; with_reducible rfl) ?_
        simp only [Act.put, List.setIfInBounds_toArray, List.set_cons_succ, List.set_cons_zero]
        -- 2: slot 28 := Op.fieldAddr 33 t1 2
        refine Rg.Chain.pure rfl (fun w => by go_simp; (try go_ints); with_reducible rfl) ?_
        simp only [Act.put, List.setIfInBounds_toArray, List.set_cons_succ, List.set_cons_zero]
        -- 3: slot 29 := Op.load 9 t28
        refine Rg.Chain.read rfl (fun wx hs => by obtain ⟨q0, q1, q2, q3⟩ := hS wx (hb2.trans (hb3.trans (Rg.step_from hs (Nat.le_trans hz2 hz3) hown))); go_simp; with_reducible rfl) ?_
        simp only [Act.put, List.setIfInBounds_toArray, List.set_cons_succ, List.set_cons_zero]
        -- 4: slot 30 := Op.binOp BinOp.add 9 t27 t29 9
        refine Rg.Chain.pure rfl (fun w => by go_simp; (first | with_reducible rfl | rw [if_neg (by omega)])) ?_
        simp only [Act.put, List.setIfInBounds_toArray, List.set_cons_succ, List.set_cons_zero]
        -- 5: slot 31 := Op.fieldAddr 33 t1 3
        refine Rg.Chain.pure rfl (fun w => by go_simp; (try go_ints); with_reducible rfl) ?_
        simp only [Act.put, List.setIfInBounds_toArray, List.set_cons_succ, List.set_cons_zero]
        -- 6: slot 32 := Op.load 3 t31
        refine Rg.Chain.read rfl (fun wx hs => by obtain ⟨q0, q1, q2, q3⟩ := hS wx (hb2.trans (hb3.trans (Rg.step_from hs (Nat.le_trans hz2 hz3) hown))); go_simp; with_reducible rfl) ?_
        simp only [Act.put, List.setIfInBounds_toArray, List.set_cons_succ, List.set_cons_zero]
        -- 7: slot 33 := Op.call ( value (Operand.func 33), args := #[const (Value.string ( data := #[0] )), t32], 
        refine Rg.Chain.call ?_ ?_ rfl (fun w => ?_) (fun wx hs => ?_) ?_
        rotate_left 2
        · go_simp; (try go_ints); constructor <;> with_reducible rfl
        · exact repeat_any _ _ (by omega) (by omega)
        simp only [Act.put, List.setIfInBounds_toArray, List.set_cons_succ, List.set_cons_zero]
        -- 8: slot 34 := Op.binOp BinOp.add 9 t30 t33 9
        refine Rg.Chain.pure rfl (fun w => by go_simp; (first | with_reducible rfl | rw [if_neg (by omega)])) ?_
        simp only [Act.put, List.setIfInBounds_toArray, List.set_cons_succ, List.set_cons_zero]
        -- 9: slot 2 := Op.assign t34
        refine Rg.Chain.pure rfl (fun w => by go_simp; (try go_ints); with_reducible rfl) ?_
        simp only [Act.put, List.setIfInBounds_toArray, List.set_cons_succ, List.set_cons_zero]
        exact Rg.Chain.nil
      case hown => rintro j k ⟨_, h⟩; exact (hrow2.lt k h).2
      case hdis => rintro i j k ⟨rfl, _⟩ ⟨rfl, _⟩; rfl
      case hend =>
        intro vs F w4 hE
        have hb4 := Rg.step_from hE.step (Nat.le_trans hz2 hz3) hown
        clear hE hS
        simp only [Rg.finalAct, Rg.slot_val, Rg.slot_any, Act.put, List.setIfInBounds_toArray, List.set_cons_succ, List.set_cons_zero]
        go_wp2
        go_ret
        refine ⟨ret_text ?_, below_later (below_after hb) (hb2.trans (hb3.trans hb4))⟩
        rw [← rec_bytes H]

theorem bytes_any (r : Rec) (w : World) (hc : r.c.length ≤ 9223372036854775807) :
    Calls Tryd.prog 26 #[r.v] w fun e w' => e = .returned (.string (bs r.bytes)) ∧ Below w.heap.size w w' := by
  by_cases h : r.Is
  · exact bytes_yes r w h
  · exact bytes_no r w hc h
end Go.Proofs.YtniflggmfegnfaaDoor
